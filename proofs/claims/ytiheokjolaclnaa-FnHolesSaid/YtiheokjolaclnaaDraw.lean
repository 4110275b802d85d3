/- The cursor of the draws. -/
import Derived.Test.YtiheokjolaclnaaRes
import Derived.Laws.BitsLemmas
namespace Go.Proofs.Ytiheokjolaclnaa
open Go.RowKit
theorem and255 (n : Int) : bits .and .i64 n 255 = n % 256 := by
  have h255 : (BitVec.ofInt 64 255).toNat = 2 ^ 8 - 1 := by decide
  have key : (BitVec.ofInt 64 n &&& BitVec.ofInt 64 255).toNat = (n % ((2 ^ 64 : Nat) : Int)).toNat % 2 ^ 8 := by
    rw [BitVec.toNat_and, BitVec.toNat_ofInt, h255, Nat.and_two_pow_sub_one_eq_mod]
  show IntKind.i64.wrap ((BitVec.ofInt 64 n &&& BitVec.ofInt 64 255).toNat : Nat) = n % 256
  rw [key, IntKind.wrap_i64]
  omega
theorem and255b (n : Int) : 0 ≤ bits .and .i64 n 255 ∧ bits .and .i64 n 255 ≤ 255 := by rw [and255]; omega
/-- a cursor lies in block g, its bytes in another one -/
def Cur (w : World) (g : Nat) : Prop := ∃ (A : Option Addr) (n c i : Nat) (h : Int),
  w.cell? ⟨g, 0, none⟩ = some (.slice A n c) ∧ w.cell? ⟨g, 1, none⟩ = some (I i) ∧ w.cell? ⟨g, 2, none⟩ = some (I h) ∧ (∀ o, w.frozen? ⟨g, o, none⟩ = false) ∧ n ≤ 2147483647 ∧
  (∀ j, j < n → ∃ b o x, A = some ⟨b, o, none⟩ ∧ b < g ∧ w.cell? ⟨b, o + j, none⟩ = some (.int .u8 x))
theorem Cur.lt {w : World} {g : Nat} (h : Cur w g) : g < w.heap.size := by
  obtain ⟨A, n, c, i, k, h0, _⟩ := h
  exact World.block_lt_of_cell? _ _ h0
theorem Cur.bl {w w' : World} {g : Nat} (h : Cur w g) (hb : Bl (g + 1) w w') : Cur w' g := by
  have hl := h.lt
  obtain ⟨A, n, c, i, k, h0, h1, h2, hf, hn, hs⟩ := h
  have q := appF hb.out
  refine ⟨A, n, c, i, k, (q.2.1 g 0 (by omega)).trans h0, (q.2.1 g 1 (by omega)).trans h1, (q.2.1 g 2 (by omega)).trans h2, fun o => (q.2.2.1 g o (by omega)).trans (hf o), hn, fun j hj => ?_⟩
  obtain ⟨b, o, x, e1, e2, e3⟩ := hs j hj
  exact ⟨b, o, x, e1, e2, (q.2.1 b _ (by omega)).trans e3⟩
theorem Cur.bel {w w' : World} {g : Nat} (h : Cur w g) (hb : Bel w w') : Cur w' g := h.bl ⟨hb.out.mono h.lt⟩
set_option maxHeartbeats 1000000 in
theorem byte_c (g : Nat) (w : World) (h : Cur w g) : Calls Try.prog 71 #[.pointer (some ⟨g, 0, none⟩)] w fun e w' => ∃ x, e = .returned (I x) ∧ 0 ≤ x ∧ x ≤ 255 ∧ Cur w' g ∧ Ox g w w' := by
  have hl := h.lt
  obtain ⟨A, n, c, i, q, h0, h1, h2, hf, hn, hs⟩ := h
  by_cases hi : i < n
  · obtain ⟨b, o, x, rfl, hbg, e3⟩ := hs i hi
    have hbn : b ≠ g := by omega
    have hlb := World.block_lt_of_cell? _ _ e3
    dsimp only at hlb
    go_enter Try.func71, Try.ntmps71
    go_wp2
    go_quiet (fail)
    generalize wrap64 (wrap64 (q * 6364136223846793005) + 1442695040888963407) = q'
    generalize bits BinOp.xor IntKind.i64 (q' / 8589934592) (q' / 35184372088832) = q2
    generalize bits BinOp.and IntKind.i64 q2 255 = q3
    go_wp2
    go_quiet (fail)
    go_wp2
    go_quiet (fail)
    go_wp2
    go_ret
    refine ⟨_, rfl, (and255b _).1, (and255b _).2, ⟨some ⟨b, o, none⟩, n, c, i + 1, q', ?_, ?_, ?_, ?_, hn, ?_⟩, inferInstance⟩
    all_goals first | (intro j hj; obtain ⟨b', o', x', e1, e2, e4⟩ := hs j hj; injection e1 with e1; injection e1 with e1 e5; subst e1; subst e5; exact ⟨b, o, x', rfl, hbg, by simp [go_sem, *]⟩) | (simp [go_sem, *]; done)
  · go_enter Try.func71, Try.ntmps71
    go_wp2
    go_quiet (fail)
    generalize wrap64 (wrap64 (q * 6364136223846793005) + 1442695040888963407) = q'
    generalize bits BinOp.xor IntKind.i64 (q' / 8589934592) (q' / 35184372088832) = q2
    obtain ⟨q3, hq3⟩ : ∃ q3, q3 = bits BinOp.and IntKind.i64 q2 255 := ⟨_, rfl⟩
    have hq4 := and255b q2
    rw [← hq3] at hq4 ⊢
    clear hq3
    go_wp2
    go_quiet (fail)
    go_wp2
    go_ret
    refine ⟨_, rfl, hq4.1, hq4.2, ⟨A, n, c, i, q', ?_, ?_, ?_, ?_, hn, ?_⟩, inferInstance⟩
    all_goals first | (intro j hj; obtain ⟨b', o', x', e1, e2, e4⟩ := hs j hj; have e2' : b' ≠ g := (by omega); exact ⟨b', o', x', e1, e2, by simp [go_sem, *]⟩) | (simp [go_sem, *]; done)
theorem tmod_bd {x n : Int} (h : 0 ≤ x) (hn : 0 < n) : 0 ≤ Int.tmod x n ∧ Int.tmod x n < n := by rw [Int.tmod_eq_emod_of_nonneg h]; exact ⟨Int.emod_nonneg _ (by omega), Int.emod_lt_of_pos _ hn⟩
set_option maxHeartbeats 1000000 in
theorem below_c (g : Nat) (n : Int) (w : World) (h : Cur w g) : Calls Try.prog 57 #[.pointer (some ⟨g, 0, none⟩), I n] w fun e w' => ∃ x, e = .returned (I x) ∧ 0 ≤ x ∧ (x < n ∨ x = 0) ∧ Cur w' g ∧ Ox g w w' := by
  go_enter Try.func57, Try.ntmps57
  by_cases h1 : n ≤ 0
  · go_wp2
    go_ret
    exact ⟨0, rfl, by omega, by omega, h, inferInstance⟩
  have hn0 : (n == 0) = false := by simp; omega
  have hn1 : n ≠ 0 := by omega
  by_cases h2 : n ≤ 256
  all_goals go_wp2_with (go_at_call 71; refine (byte_c _ _ (by first | exact hcur.bel inferInstance | exact hcur.bl inferInstance | exact h.bel inferInstance)).mono ?_; rintro e wa ⟨xa, rfl, hx0a, hx1a, hcur, hoxa⟩; obtain ⟨hsa, hca, hfa, hza⟩ := stdo hoxa)
  all_goals go_ret
  all_goals exact ⟨_, rfl, Int.emod_nonneg _ hn1, .inl (Int.emod_lt_of_pos _ (by omega)), hcur, inferInstance⟩
set_option maxHeartbeats 1000000 in
theorem raw_c (g : Nat) (w : World) (h : Cur w g) : Calls Try.prog 58 #[.pointer (some ⟨g, 0, none⟩)] w fun e w' => ∃ x, e = .returned (I x) ∧ Cur w' g ∧ Ox g w w' := by
  go_enter Try.func58, Try.ntmps58
  go_wp2_with (go_at_call 57; refine (below_c _ _ _ (by first | exact hcur.bel inferInstance | exact hcur.bl inferInstance | exact h.bel inferInstance)).mono ?_; rintro e wa ⟨xa, rfl, hx0a, hx1a, hcur, hoxa⟩; obtain ⟨hsa, hca, hfa, hza⟩ := stdo hoxa)
  all_goals go_ret
  all_goals exact ⟨_, rfl, hcur, inferInstance⟩
set_option maxHeartbeats 1000000 in
theorem vecDraw_c (g : Nat) (w : World) (h : Cur w g) : Calls Try.prog 72 #[.pointer (some ⟨g, 0, none⟩)] w fun e w' => ∃ a b c, e = .returned (.agg #[I a, I b, I c]) ∧ Cur w' g ∧ Ox g w w' := by
  have hl := h.lt
  have hlw : w.heap.size ≠ g := by omega
  have lg : LeN (g + 1) w.heap.size := ⟨hl⟩
  go_enter Try.func72, Try.ntmps72
  go_wp2_with first | (go_at_call 57; with_reducible (show Calls _ _ #[_, .int .i64 9] _ _); refine (below_c _ _ _ (by first | exact hcur.bel inferInstance | exact hcur.bl inferInstance | exact h.bel inferInstance)).mono ?_; rintro e wa ⟨xa, rfl, hx0a, hx1a, hcur, hoxa⟩; obtain ⟨hsa, hca, hfa, hza⟩ := stdo hoxa; have hya0 := lt_ox (b := w.heap.size) hoxa (by first | assumption | (simp <;> omega)); have hna0 : w.heap.size ≠ g := (by omega); have hza0 : w.heap.size < wa.heap.size + 1 := (by omega); have hua0 : w.heap.size < wa.heap.size + 1 + 1 := (by omega)) | (go_at_call 57; with_reducible (show Calls _ _ #[_, .int .i64 17] _ _); refine (below_c _ _ _ (by first | exact hcur.bel inferInstance | exact hcur.bl inferInstance | exact h.bel inferInstance)).mono ?_; rintro e wb ⟨xb, rfl, hx0b, hx1b, hcur, hoxb⟩; obtain ⟨hsb, hcb, hfb, hzb⟩ := stdo hoxb; have hyb0 := lt_ox (b := w.heap.size) hoxb (by first | assumption | (simp <;> omega)); have hnb0 : w.heap.size ≠ g := (by omega); have hzb0 : w.heap.size < wb.heap.size + 1 := (by omega); have hub0 : w.heap.size < wb.heap.size + 1 + 1 := (by omega)) | (go_at_call 57; with_reducible (show Calls _ _ #[_, .int .i64 3] _ _); refine (below_c _ _ _ (by first | exact hcur.bel inferInstance | exact hcur.bl inferInstance | exact h.bel inferInstance)).mono ?_; rintro e wc ⟨xc, rfl, hx0c, hx1c, hcur, hoxc⟩; obtain ⟨hsc, hcc, hfc, hzc⟩ := stdo hoxc; have hyc0 := lt_ox (b := w.heap.size) hoxc (by first | assumption | (simp <;> omega)); have hnc0 : w.heap.size ≠ g := (by omega); have hzc0 : w.heap.size < wc.heap.size + 1 := (by omega); have huc0 : w.heap.size < wc.heap.size + 1 + 1 := (by omega)) | (go_at_call 57; with_reducible (show Calls _ _ #[_, .int .i64 14] _ _); refine (below_c _ _ _ (by first | exact hcur.bel inferInstance | exact hcur.bl inferInstance | exact h.bel inferInstance)).mono ?_; rintro e wd ⟨xd, rfl, hx0d, hx1d, hcur, hoxd⟩; obtain ⟨hsd, hcd, hfd, hzd⟩ := stdo hoxd; have hyd0 := lt_ox (b := w.heap.size) hoxd (by first | assumption | (simp <;> omega)); have hnd0 : w.heap.size ≠ g := (by omega); have hzd0 : w.heap.size < wd.heap.size + 1 := (by omega); have hud0 : w.heap.size < wd.heap.size + 1 + 1 := (by omega); have hyd1 := lt_ox (b := wc.heap.size) hoxd (by first | assumption | (simp <;> omega)); have hnd1 : wc.heap.size ≠ g := (by omega); have hzd1 : wc.heap.size < wd.heap.size + 1 := (by omega); have hud1 : wc.heap.size < wd.heap.size + 1 + 1 := (by omega)) | (go_at_call 57; with_reducible (show Calls _ _ #[_, .int .i64 2] _ _); refine (below_c _ _ _ (by first | exact hcur.bel inferInstance | exact hcur.bl inferInstance | exact h.bel inferInstance)).mono ?_; rintro e we ⟨xe, rfl, hx0e, hx1e, hcur, hoxe⟩; obtain ⟨hse, hce, hfe, hze⟩ := stdo hoxe; have hye0 := lt_ox (b := w.heap.size) hoxe (by first | assumption | (simp <;> omega)); have hne0 : w.heap.size ≠ g := (by omega); have hze0 : w.heap.size < we.heap.size + 1 := (by omega); have hue0 : w.heap.size < we.heap.size + 1 + 1 := (by omega); have hye1 := lt_ox (b := wc.heap.size) hoxe (by first | assumption | (simp <;> omega)); have hne1 : wc.heap.size ≠ g := (by omega); have hze1 : wc.heap.size < we.heap.size + 1 := (by omega); have hue1 : wc.heap.size < we.heap.size + 1 + 1 := (by omega))
  · (refine bodyPost_ret (v := .agg #[I xa, I (1000000 - xe), I xc]) ?_ rfl ?_; focus (simp [results, Try.results72, go_sem, *]; done))
    exact ⟨_, _, _, rfl, hcur.bl inferInstance, inferInstance⟩
  · (refine bodyPost_ret (v := .agg #[I xa, I xb, I xc]) ?_ rfl ?_; focus (simp [results, Try.results72, go_sem, *]; done))
    exact ⟨_, _, _, rfl, hcur.bl inferInstance, inferInstance⟩
set_option maxHeartbeats 1000000 in
theorem anyVec_c (g : Nat) (w : World) (h : Cur w g) : Calls Try.prog 59 #[.pointer (some ⟨g, 0, none⟩)] w fun e w' => ∃ a b c, e = .returned (.agg #[I a, I b, I c]) ∧ Cur w' g ∧ Ox g w w' := by
  have hl := h.lt
  have hlw : w.heap.size ≠ g := by omega
  have lg : LeN (g + 1) w.heap.size := ⟨hl⟩
  go_enter Try.func59, Try.ntmps59
  go_wp2_with first | (go_at_call 72; refine (vecDraw_c _ _ (by first | exact hcur.bel inferInstance | exact hcur.bl inferInstance | exact h.bel inferInstance)).mono ?_; rintro e wa ⟨xp, xq, xr, rfl, hcur, hoxa⟩; obtain ⟨hsa, hca, hfa, hza⟩ := stdo hoxa; have hya0 := lt_ox (b := w.heap.size) hoxa (by first | assumption | (simp <;> omega)); have hna0 : w.heap.size ≠ g := (by omega); have hza0 : w.heap.size < wa.heap.size + 1 := (by omega); have hua0 : w.heap.size < wa.heap.size + 1 + 1 := (by omega)) | (go_at_call 57; refine (below_c _ _ _ (by first | exact hcur.bel inferInstance | exact hcur.bl inferInstance | exact h.bel inferInstance)).mono ?_; rintro e wb ⟨xb, rfl, hx0b, hx1b, hcur, hoxb⟩; obtain ⟨hsb, hcb, hfb, hzb⟩ := stdo hoxb; have hyb0 := lt_ox (b := w.heap.size) hoxb (by first | assumption | (simp <;> omega)); have hnb0 : w.heap.size ≠ g := (by omega); have hzb0 : w.heap.size < wb.heap.size + 1 := (by omega); have hub0 : w.heap.size < wb.heap.size + 1 + 1 := (by omega); have hyb1 := lt_ox (b := wa.heap.size) hoxb (by first | assumption | (simp <;> omega)); have hnb1 : wa.heap.size ≠ g := (by omega); have hzb1 : wa.heap.size < wb.heap.size + 1 := (by omega); have hub1 : wa.heap.size < wb.heap.size + 1 + 1 := (by omega)) | (go_at_call 58; refine (raw_c _ _ (by first | exact hcur.bel inferInstance | exact hcur.bl inferInstance | exact h.bel inferInstance)).mono ?_; rintro e wc ⟨xd, rfl, hcur, hoxc⟩; obtain ⟨hsc, hcc, hfc, hzc⟩ := stdo hoxc; have hyc0 := lt_ox (b := w.heap.size) hoxc (by first | assumption | (simp <;> omega)); have hnc0 : w.heap.size ≠ g := (by omega); have hzc0 : w.heap.size < wc.heap.size + 1 := (by omega); have huc0 : w.heap.size < wc.heap.size + 1 + 1 := (by omega); have hyc1 := lt_ox (b := wa.heap.size) hoxc (by first | assumption | (simp <;> omega)); have hnc1 : wa.heap.size ≠ g := (by omega); have hzc1 : wa.heap.size < wc.heap.size + 1 := (by omega); have huc1 : wa.heap.size < wc.heap.size + 1 + 1 := (by omega))
  all_goals first
    | ((refine bodyPost_ret (v := .agg #[I xd, I xq, I xr]) ?_ rfl ?_; focus (simp [results, Try.results59, go_sem, *]; done)); exact ⟨_, _, _, rfl, hcur.bl inferInstance, inferInstance⟩)
    | ((refine bodyPost_ret (v := .agg #[I xp, I xd, I xr]) ?_ rfl ?_; focus (simp [results, Try.results59, go_sem, *]; done)); exact ⟨_, _, _, rfl, hcur.bl inferInstance, inferInstance⟩)
    | ((refine bodyPost_ret (v := .agg #[I xp, I xq, I xd]) ?_ rfl ?_; focus (simp [results, Try.results59, go_sem, *]; done)); exact ⟨_, _, _, rfl, hcur.bl inferInstance, inferInstance⟩)
    | ((refine bodyPost_ret (v := .agg #[I xp, I xq, I xr]) ?_ rfl ?_; focus (simp [results, Try.results59, go_sem, *]; done)); exact ⟨_, _, _, rfl, hcur.bl inferInstance, inferInstance⟩)
set_option maxHeartbeats 1000000 in
theorem vecHole_c (g : Nat) (w : World) (h : Cur w g) : Calls Try.prog 24 #[.pointer (some ⟨g, 0, none⟩)] w fun e w' => ∃ a b c, e = .returned (.agg #[I a, I b, I c]) ∧ Cur w' g ∧ Ox g w w' := by
  have hl := h.lt
  have hlw : w.heap.size ≠ g := by omega
  have lg : LeN (g + 1) w.heap.size := ⟨hl⟩
  go_enter Try.func24, Try.ntmps24
  go_wp2_with first | (go_at_call 59; refine (anyVec_c _ _ (by first | exact hcur.bel inferInstance | exact hcur.bl inferInstance | exact h.bel inferInstance)).mono ?_; rintro e wa ⟨xp, xq, xr, rfl, hcur, hoxa⟩; obtain ⟨hsa, hca, hfa, hza⟩ := stdo hoxa; have hya0 := lt_ox (b := w.heap.size) hoxa (by first | assumption | (simp <;> omega)); have hna0 : w.heap.size ≠ g := (by omega); have hza0 : w.heap.size < wa.heap.size + 1 := (by omega); have hua0 : w.heap.size < wa.heap.size + 1 + 1 := (by omega)) | (go_at_call 57; with_reducible (show Calls _ _ #[_, .int .i64 7] _ _); refine (below_c _ _ _ (by first | exact hcur.bel inferInstance | exact hcur.bl inferInstance | exact h.bel inferInstance)).mono ?_; rintro e ws ⟨xs, rfl, hx0s, hx1s, hcur, hoxs⟩; obtain ⟨hss, hcs, hfs, hzs⟩ := stdo hoxs; have hys0 := lt_ox (b := w.heap.size) hoxs (by first | assumption | (simp <;> omega)); have hns0 : w.heap.size ≠ g := (by omega); have hzs0 : w.heap.size < ws.heap.size + 1 := (by omega); have hus0 : w.heap.size < ws.heap.size + 1 + 1 := (by omega)) | (go_at_call 57; with_reducible (show Calls _ _ #[_, .int .i64 9] _ _); refine (below_c _ _ _ (by first | exact hcur.bel inferInstance | exact hcur.bl inferInstance | exact h.bel inferInstance)).mono ?_; rintro e wt ⟨xt, rfl, hx0t, hx1t, hcur, hoxt⟩; obtain ⟨hst, hct, hft, hzt⟩ := stdo hoxt; have hyt0 := lt_ox (b := w.heap.size) hoxt (by first | assumption | (simp <;> omega)); have hnt0 : w.heap.size ≠ g := (by omega); have hzt0 : w.heap.size < wt.heap.size + 1 := (by omega); have hut0 : w.heap.size < wt.heap.size + 1 + 1 := (by omega))
  · (refine bodyPost_ret (v := .agg #[I xp, I xq, I xr]) ?_ rfl ?_; focus (simp [results, Try.results24, go_sem, *]; done))
    exact ⟨_, _, _, rfl, hcur.bl inferInstance, inferInstance⟩
  · (refine bodyPost_ret (v := .agg #[I xs, I xt, I 0]) ?_ rfl ?_; focus (simp [results, Try.results24, go_sem, *]; done))
    exact ⟨_, _, _, rfl, hcur.bl inferInstance, inferInstance⟩
set_option maxHeartbeats 1000000 in
theorem span_c (g : Nat) (w : World) (h : Cur w g) : Calls Try.prog 25 #[.pointer (some ⟨g, 0, none⟩)] w fun e w' => ∃ a b, e = .returned (.tuple #[I a, I b]) ∧ Cur w' g ∧ Ox g w w' := by
  go_enter Try.func25, Try.ntmps25
  go_wp2_with first | (go_at_call 57; with_reducible (show Calls _ _ #[_, .int .i64 80] _ _); refine (below_c _ _ _ (by first | exact hcur.bel inferInstance | exact hcur.bl inferInstance | exact h.bel inferInstance)).mono ?_; rintro e wa ⟨xa, rfl, hx0a, hx1a, hcur, hoxa⟩; obtain ⟨hsa, hca, hfa, hza⟩ := stdo hoxa) | (go_at_call 57; with_reducible (show Calls _ _ #[_, .int .i64 50] _ _); refine (below_c _ _ _ (by first | exact hcur.bel inferInstance | exact hcur.bl inferInstance | exact h.bel inferInstance)).mono ?_; rintro e wb ⟨xb, rfl, hx0b, hx1b, hcur, hoxb⟩; obtain ⟨hsb, hcb, hfb, hzb⟩ := stdo hoxb) | (go_at_call 57; with_reducible (show Calls _ _ #[_, .int .i64 12] _ _); refine (below_c _ _ _ (by first | exact hcur.bel inferInstance | exact hcur.bl inferInstance | exact h.bel inferInstance)).mono ?_; rintro e wc ⟨xc, rfl, hx0c, hx1c, hcur, hoxc⟩; obtain ⟨hsc, hcc, hfc, hzc⟩ := stdo hoxc) | (go_at_call 58; refine (raw_c _ _ (by first | exact hcur.bel inferInstance | exact hcur.bl inferInstance | exact h.bel inferInstance)).mono ?_; rintro e wd ⟨xd, rfl, hcur, hoxd⟩; obtain ⟨hsd, hcd, hfd, hzd⟩ := stdo hoxd)
  all_goals first
    | ((refine bodyPost_ret (v := .tuple #[I xd, I (xa + 1 + xb)]) ?_ rfl ?_; focus (simp [results, Try.results25, go_sem, *]; done)); exact ⟨_, _, rfl, hcur, inferInstance⟩)
    | ((refine bodyPost_ret (v := .tuple #[I xa, I xd]) ?_ rfl ?_; focus (simp [results, Try.results25, go_sem, *]; done)); exact ⟨_, _, rfl, hcur, inferInstance⟩)
    | ((refine bodyPost_ret (v := .tuple #[I xa, I (xa + 1 + xb)]) ?_ rfl ?_; focus (simp [results, Try.results25, go_sem, *]; done)); exact ⟨_, _, rfl, hcur, inferInstance⟩)
    | ((refine bodyPost_ret (v := .tuple #[I xa, I 1000000000]) ?_ rfl ?_; focus (simp [results, Try.results25, go_sem, *]; done)); exact ⟨_, _, rfl, hcur, inferInstance⟩)
/-- the bytes handed in -/
def Bytes (w : World) (A : Option Addr) (n : Nat) : Prop := ∀ j, j < n → ∃ b o x, A = some ⟨b, o, none⟩ ∧ w.cell? ⟨b, o + j, none⟩ = some (.int .u8 x)
theorem Bytes.bel {w w' : World} {A : Option Addr} {n : Nat} (h : Bytes w A n) (hb : Bel w w') : Bytes w' A n := fun j hj => by
  obtain ⟨b, o, x, e1, e2⟩ := h j hj
  exact ⟨b, o, x, e1, hb.cell_some e2⟩
theorem Cur.new {w : World} {A : Option Addr} {n c : Nat} (h : Bytes w A n) (hn : n ≤ 2147483647) (z : Int) (e : TypeId) : Cur (w.alloc (.cells #[.slice A n c, I 0, I z] e)) w.heap.size := by
  refine ⟨A, n, c, 0, z, by simp, by simp, by simp, fun o => by simp [go_sem], hn, fun j hj => ?_⟩
  obtain ⟨b, o, x, e1, e2⟩ := h j hj
  exact ⟨b, o, x, e1, World.block_lt_of_cell? _ _ e2, Bl.cell_some (a := w) inferInstance e2⟩
set_option maxHeartbeats 1000000 in
theorem new_c (A : Option Addr) (n c : Nat) (w : World) (h : Bytes w A n) (hn : n ≤ 2147483600) : Calls Try.prog 22 #[.slice A n c] w fun e w' => ∃ g, e = .returned (.pointer (some ⟨g, 0, none⟩)) ∧ w.heap.size ≤ g ∧ Cur w' g ∧ Bel w w' := by
  go_enter Try.func22, Try.ntmps22
  go_wp2
  go_loopw [3, 4] (fun q i wr => ∃ (k : Nat) (z : Int), k ≤ n ∧ q = I z ∧ i = .int .i64 k ∧ wr = w) (fun _ i _ => n - (intOf i).toNat)
  case atStart => exact ⟨0, _, by omega, rfl, rfl, rfl⟩
  case round =>
    obtain ⟨k, z, hk, rfl, rfl, rfl⟩ := hrel
    by_cases hlt : k < n
    · obtain ⟨b, o, x, rfl, e2⟩ := h k hlt
      have hlb := World.block_lt_of_cell? _ _ e2
      dsimp only at hlb
      by_cases hlt2 : (k : Int) < 4000
      · go_wp2
        go_roundw
        case rel => exact ⟨k + 1, _, by omega, rfl, by go_num, trivial⟩
        case measure => simp [intOf]; omega
      · go_wp2
        go_ret
        exact ⟨_, rfl, Nat.le_refl _, Cur.new h (by omega) _ _, inferInstance⟩
    · go_wp2
      go_ret
      exact ⟨_, rfl, Nat.le_refl _, Cur.new h (by omega) _ _, inferInstance⟩
end Go.Proofs.Ytiheokjolaclnaa

/- The draws of profiles. -/
import Derived.Test.YtiheokjolaclnaaDraw
import Derived.Test.YtiheokjolaclnaaTake
import Derived.Test.YtiheokjolaclnaaPro
import Derived.Test.YtiheokjolaclnaaSpecOut
namespace Go.Proofs.Ytiheokjolaclnaa
open Go.RowKit

theorem takeR_ok {l l4 : List Pt} {f t : Int} {v : Vec} (h : takeR l f t v = (l4, true)) : profOk l4 = true := by
  unfold takeR changeR changeOf at h
  split at h
  · split at h
    · simp at h
    · split at h
      · rename_i g; injection h with h; subst h; exact g
      · simp at h
  · simp at h
theorem takeR_bd {l : List Pt} {f t : Int} {v : Vec} {n : Nat} (hn : n = (takeR l f t v).1.length) (h : (takeR l f t v).2 = true) : 1 ≤ n ∧ n ≤ 200 := by
  rw [hn]
  exact profOk_len (takeR_ok (Prod.ext rfl h))
def DrawInv (w : World) (g q : Nat) (i : Value) (wr : World) : Prop := ∃ (z : Int) (A : Option Addr) (n c : Nat) (l : List Pt), i = I z ∧ z ≤ 6 ∧ wr.cell? ⟨q, 0, none⟩ = some (.slice A n c) ∧ wr.frozen? ⟨q, 0, none⟩ = false ∧ wr.cell? ⟨w.heap.size, 0, none⟩ = some (.slice none 0 0) ∧ wr.frozen? ⟨w.heap.size, 0, none⟩ = false ∧ Own wr (w.heap.size + 1) 64 Pt.enc 4 A n c l ∧ (∀ p, A = some p → p.block ≠ q) ∧ 1 ≤ n ∧ n ≤ 200 ∧ Cur wr g ∧ Ox g w wr
set_option maxRecDepth 100000 in
set_option maxHeartbeats 2000000 in
theorem profDraw_c (g : Nat) (w : World) (h : Cur w g) : Calls Try.prog 56 #[.pointer (some ⟨g, 0, none⟩)] w
    fun e w' => ∃ A n c l, e = .returned (.agg #[.slice A n c]) ∧ Own w' w.heap.size 64 Pt.enc 4 A n c l ∧ 1 ≤ n ∧ n ≤ 1000 ∧ Cur w' g ∧ Ox g w w' := by
  have hl := h.lt
  have hlw : w.heap.size ≠ g := by omega
  have lg : LeN (g + 1) w.heap.size := ⟨hl⟩
  go_enter Try.func56, Try.ntmps56
  go_wp2_with first | (go_at_call 69; refine (specNew_c ⟨8, 16, 2⟩ _).mono ?_; rintro e w1 ⟨A1, n1, c1, rfl, ho1, hb1⟩; obtain ⟨hs1, hc1, hf1, hz1⟩ := std hb1; have hy1w0 := lt_bel (b := w.heap.size) hb1 (by first | assumption | (simp <;> omega))) | (go_at_call 57; refine (below_c _ _ _ (by first | exact hcur.bel inferInstance | exact hcur.bl inferInstance | exact h.bel inferInstance)).mono ?_; rintro e wa ⟨xa, rfl, hx0a, hx1a, hcur, hoxa⟩; obtain ⟨hsa, hca, hfa, hza⟩ := stdo hoxa; have hya0 := lt_ox (b := w.heap.size) hoxa (by first | assumption | (simp <;> omega)); have hna0 : w.heap.size ≠ g := (by omega); have hza0 : w.heap.size < wa.heap.size + 1 := (by omega); have hua0 : w.heap.size < wa.heap.size + 1 + 1 := (by omega); have hya1 := lt_ox (b := w1.heap.size) hoxa (by first | assumption | (simp <;> omega)); have hna1 : w1.heap.size ≠ g := (by omega); have hza1 : w1.heap.size < wa.heap.size + 1 := (by omega); have hua1 : w1.heap.size < wa.heap.size + 1 + 1 := (by omega))
  refine wp_gen ?_; intro W0 hW0
  have X0 : Ox g w W0 := by rw [hW0]; infer_instance
  have C0 : Cur W0 g := by rw [hW0]; exact hcur.bl inferInstance
  have q0 : W0.cell? ⟨w1.heap.size, 0, none⟩ = some (.slice A1 n1 c1) := by rw [hW0]; simp [go_sem, *]
  have qf : W0.frozen? ⟨w1.heap.size, 0, none⟩ = false := by rw [hW0]; simp [go_sem, *]
  have r0 : W0.cell? ⟨w.heap.size, 0, none⟩ = some (.slice none 0 0) := by rw [hW0]; simp [go_sem, *]
  have rf : W0.frozen? ⟨w.heap.size, 0, none⟩ = false := by rw [hW0]; simp [go_sem, *]
  have hnl : n1 = 1 := ho1.len
  subst hnl
  have hO : Own W0 (w.heap.size + 1) 64 Pt.enc 4 A1 1 c1 (newR ⟨8, 16, 2⟩).1 := by rw [hW0]; simp only [World.size_alloc] at ho1; exact (ho1.bel inferInstance).ox hoxa (by omega)
  obtain ⟨q, hq⟩ : ∃ q, q = w1.heap.size := ⟨_, rfl⟩
  rw [← hq] at q0 qf ⊢
  have hAq : ∀ p, A1 = some p → p.block ≠ q := by
    intro p hp
    obtain ⟨g', e1, _, e2⟩ := ho1.addr (by omega)
    rw [e1] at hp; injection hp with hp; subst hp
    show g' ≠ q; omega
  have hq1 : w.heap.size < q := by omega
  have hqW := World.block_lt_of_cell? _ _ q0
  dsimp only at hqW
  have hxa : xa ≤ 6 := by omega
  generalize (newR ⟨8, 16, 2⟩).1 = l1 at hO
  clear ho1 hW0 hq hc1 hf1 hz1 hs1 hb1 hca hfa hza hsa hoxa hcur
  go_loopw [5] (fun i wr => DrawInv w g q i wr) (fun i _ => (intOf i).toNat)
  case atStart => exact ⟨xa, A1, 1, c1, l1, rfl, hxa, q0, qf, r0, rf, hO, hAq, by omega, by omega, C0, X0⟩
  case round =>
    clear C0 X0 q0 qf r0 rf hO hAq
    obtain ⟨z, A, n, c, l, rfl, hz, q0, qf, r0, rf, hO, hAq, hn1, hn2, hcur, hox⟩ := hrel
    have hqW := World.block_lt_of_cell? _ _ q0
    have hwW := World.block_lt_of_cell? _ _ r0
    dsimp only at hqW hwW
    have hs0 := (stdo hox).1
    by_cases hz0 : 0 < z
    case neg =>
      go_wp2
      (refine bodyPost_ret (v := .agg #[.slice A n c]) ?_ rfl ?_; focus (simp [results, Try.results56, go_sem, *]; done))
      exact ⟨A, n, c, rfl, ⟨l, (hO.ox (g := w.heap.size) inferInstance (by omega)).mono (by omega)⟩, by omega, by omega, hcur.bl inferInstance, inferInstance⟩
    have hS := hO.sl Pt.enc_len
    go_wp2_with (go_at_call 57; refine (below_c _ _ _ (by first | exact hcur.bel inferInstance | exact hcur.bl inferInstance | exact h.bel inferInstance)).mono ?_; rintro e wb ⟨xb, rfl, hx0b, hx1b, hcur, hoxb⟩; obtain ⟨hsb, hcb, hfb, hzb⟩ := stdo hoxb)
    have p0 : wb.cell? ⟨q, 0, none⟩ = some (.slice A n c) := hoxb.cell_some q0 (by show q ≠ g; omega)
    have HS : Sl wb (w.heap.size + 1) Pt.enc 4 A n l := hS.ox hoxb (by omega)
    have hqb := World.block_lt_of_cell? _ _ p0
    dsimp only at hqb
    have hqg : q ≠ g := by omega
    have hgb : g < wb.heap.size := hcur.lt
    have J : IntKind.i64.wrap (xb + 1) = xb + 1 := IntWalk.i64_in _ (by omega)
    obtain ⟨Fw2, hF0⟩ : ∃ F : Nat → Value → World → Prop, F = Fc 5 (fun v _ => ∃ x : Int, v = I x ∧ 0 ≤ x ∧ x < 40) (Fc 8 (fun v _ => ∃ x : Int, v = I x ∧ 0 ≤ x ∧ x < 4) (Fc 10 (fun v _ => ∃ x : Int, v = I x ∧ 0 ≤ x ∧ x < 6) (Fc 12 (fun v _ => ∃ x : Int, v = I x ∧ 0 ≤ x ∧ x < 2) (Fc 14 (fun v w9 => ∃ (A5 : Option Addr) (n5 c5 : Nat) (l5 : List Pt) (ok : Bool), v = .tuple #[.agg #[.slice A5 n5 c5], .bool ok] ∧ (ok = true → 1 ≤ n5 ∧ n5 ≤ 200) ∧ Own w9 wb.heap.size 64 Pt.enc 4 A5 n5 c5 l5) (Fc 18 (fun v w9 => ∃ b : Nat, v = .pointer (some ⟨b, 0, none⟩) ∧ wb.heap.size ≤ b ∧ w9.heap[b]? = some (.cells #[.slice none 0 0] 25 (0, 0))) (F0)))))) := ⟨_, rfl⟩
    have hFw2 := Lib.hid hF0; clear hF0
    refine region_cur (w := wb) 19 [17] Fw2 hcur (by kernel_rfl) (by kernel_rfl) (by intro c a w dst v h; cases dst <;> exact h) (by rw [hFw2.out]; exact Fc_keep (fun _ _ _ _ h => h) (Fc_keep (fun _ _ _ _ h => h) (Fc_keep (fun _ _ _ _ h => h) (Fc_keep (fun _ _ _ _ h => h) (Fc_keep (fun _ w1 w2 hr h => (by obtain ⟨A5, n5, c5, l5, ok, h1, h2, h3⟩ := h; exact ⟨A5, n5, c5, l5, ok, h1, h2, h3.ox hr hgb⟩)) (Fc_keep (fun _ w1 w2 hr h => (by obtain ⟨b, h1, h2, h3⟩ := h; exact ⟨b, h1, h2, (Ox.block hr h3 (by omega)).trans h3⟩)) (F0_keep))))))) (by rw [hFw2.out]; exact Fc_some ⟨I 0, default, 0, rfl, by omega, by omega⟩ (Fc_some ⟨I 0, default, 0, rfl, by omega, by omega⟩ (Fc_some ⟨I 0, default, 0, rfl, by omega, by omega⟩ (Fc_some ⟨I 0, default, 0, rfl, by omega, by omega⟩ (Fc_some ⟨_, wb, none, 0, 0, [], false, rfl, by simp, Own.nil _ _ _ _ _ _⟩ (Fc_some ⟨_, wb.alloc (.cells #[.slice none 0 0] 25 (0, 0)), wb.heap.size, rfl, Nat.le_refl _, heap_alloc_new _ _⟩ (F0_some))))))) (fun hne hx p hp => ?_)
    simp only [List.take_succ_cons, List.take_zero, List.drop_succ_cons, List.drop_zero]
    refine wpPro_seg [_, _, _, _, _] 5 rfl rfl rfl ?_
    repeat (go_big_quiet_step (fail))
    refine wpQuiet_nil ?_
    refine wpPro_call rfl rfl rfl (fun w1 hw1 hd => ?_) ?_
    · obtain ⟨x, rfl⟩ := hw1; clear hd; go_simp; rw [hFw2.out]; refine Calls.draw ((below_c _ _ _ x.cur).mono ?_); rintro e w2 ⟨y, rfl, h0, h1, hc, ho⟩; exact ⟨_, rfl, ⟨y, rfl, h0, by omega⟩, hc, ho⟩
    obtain ⟨_, h9⟩ := hp 5; rw [hFw2.out] at h9; obtain ⟨x5, e5, h50, h51⟩ := h9; rw [e5]; go_simp
    refine wpPro_seg [_, _] 8 rfl rfl rfl ?_
    repeat (go_big_quiet_step (fail))
    refine wpQuiet_nil ?_
    refine wpPro_call rfl rfl rfl (fun w1 hw1 hd => ?_) ?_
    · obtain ⟨x, rfl⟩ := hw1; clear hd; go_simp; rw [hFw2.out]; refine Calls.draw ((below_c _ _ _ x.cur).mono ?_); rintro e w2 ⟨y, rfl, h0, h1, hc, ho⟩; exact ⟨_, rfl, ⟨y, rfl, h0, by omega⟩, hc, ho⟩
    obtain ⟨_, h9⟩ := hp 8; rw [hFw2.out] at h9; obtain ⟨x8, e8, h80, h81⟩ := h9; rw [e8]; go_simp
    refine wpPro_seg [_] 10 rfl rfl rfl ?_
    repeat (go_big_quiet_step (fail))
    refine wpQuiet_nil ?_
    refine wpPro_call rfl rfl rfl (fun w1 hw1 hd => ?_) ?_
    · obtain ⟨x, rfl⟩ := hw1; clear hd; go_simp; rw [hFw2.out]; refine Calls.draw ((below_c _ _ _ x.cur).mono ?_); rintro e w2 ⟨y, rfl, h0, h1, hc, ho⟩; exact ⟨_, rfl, ⟨y, rfl, h0, by omega⟩, hc, ho⟩
    obtain ⟨_, h9⟩ := hp 10; rw [hFw2.out] at h9; obtain ⟨x10, e10, h100, h101⟩ := h9; rw [e10]; go_simp
    refine wpPro_seg [_] 12 rfl rfl rfl ?_
    repeat (go_big_quiet_step (fail))
    refine wpQuiet_nil ?_
    refine wpPro_call rfl rfl rfl (fun w1 hw1 hd => ?_) ?_
    · obtain ⟨x, rfl⟩ := hw1; clear hd; go_simp; rw [hFw2.out]; refine Calls.draw ((below_c _ _ _ x.cur).mono ?_); rintro e w2 ⟨y, rfl, h0, h1, hc, ho⟩; exact ⟨_, rfl, ⟨y, rfl, h0, by omega⟩, hc, ho⟩
    obtain ⟨_, h9⟩ := hp 12; rw [hFw2.out] at h9; obtain ⟨x12, e12, h120, h121⟩ := h9; rw [e12]; go_simp
    refine wpPro_seg [_] 14 rfl rfl rfl ?_
    repeat (go_big_quiet_step (fail))
    refine wpQuiet_nil ?_
    refine wpPro_call rfl rfl rfl (fun w1 hw1 hd => ?_) ?_
    · obtain ⟨x, rfl⟩ := hw1; clear hd; go_simp; rw [hFw2.out]; refine Calls.still ((specTake_c A n c l _ _ ⟨_, _, _⟩ _ ((HS.ox x.ox (by omega)).mono (Nat.zero_le _)) (by omega)).mono ?_); rintro e w5 ⟨A5, n5, c5, rfl, ho5, hb5⟩; exact ⟨_, rfl, ⟨A5, n5, c5, _, _, rfl, takeR_bd ho5.len, ho5.mono x.ox.out.size⟩, hb5⟩
    obtain ⟨_, h9⟩ := hp 14; rw [hFw2.out] at h9; obtain ⟨A5, n5, c5, _, ok, e14, hok, _⟩ := h9; rw [e14]; go_simp
    refine wpPro_seg [_, _] 17 rfl rfl rfl ?_
    repeat (go_big_quiet_step (fail))
    refine wpQuiet_nil ?_
    refine wpPro_late [_] 18 rfl rfl ?_
    repeat (go_big_quiet_step (fail))
    refine wpQuiet_nil ?_
    refine wpPro_call rfl rfl rfl (fun w1 hw1 hd => ?_) ?_
    · obtain ⟨x, rfl⟩ := hw1; clear hd; go_simp; rw [hFw2.out]; exact ⟨x.bel inferInstance, inferInstance, show ∃ _, _ from ⟨_, rfl, x.ox.out.size, heap_alloc_new _ _⟩⟩
    obtain ⟨_, h9⟩ := hp 18; rw [hFw2.out] at h9; obtain ⟨b18, e18, hb18, _⟩ := h9; rw [e18]; go_simp
    refine wpPro_nil ?_
    go_simp
    rintro ⟨w2, hcurw2, hoxw2⟩ hfactw2
    dsimp only at hfactw2 ⊢
    obtain ⟨hsw2, hcw2, hfw2, hzw2⟩ := stdo hoxw2
    have f14 := hfactw2 14 (by decide) rfl; rw [hFw2.out, e14] at f14; obtain ⟨A5', n5', c5', l5, ok', ee, _, hO5⟩ := f14; simp only [Value.tuple.injEq, Array.mk.injEq, List.cons.injEq, Value.agg.injEq, Value.slice.injEq, Value.bool.injEq, and_true] at ee; obtain ⟨⟨rfl, rfl, rfl⟩, rfl⟩ := ee
    have f18 := hfactw2 18 (by decide) rfl; rw [hFw2.out, e18] at f18; obtain ⟨_, ee, _, hh18⟩ := f18; simp only [Value.pointer.injEq, Value.slice.injEq, Option.some.injEq, Addr.mk.injEq, and_true] at ee; subst ee
    have cell18_0 := cell_of_heap (i := 0) hh18 rfl; have froz18_0 := frozen_of_heap (i := 0) hh18; try dsimp only [List.getElem_toArray, List.getElem_cons_zero, List.getElem_cons_succ] at cell18_0
    have lt18 := lt_of_heap hh18
    clear hfactw2 hx hp hne
    have nq : q ≠ b18 := by omega
    have nw : w.heap.size ≠ b18 := by omega
    have nwq : w.heap.size ≠ q := by omega
    have lw2 : w.heap.size < wb.heap.size := by omega
    have lq2 : q < w2.heap.size := by omega
    have lww2 : w.heap.size < w2.heap.size := by omega
    have i1 : LeN w.heap.size b18 := ⟨by omega⟩
    have i2 : LeN w.heap.size q := ⟨by omega⟩
    have i3 : LeN (g + 1) b18 := ⟨by omega⟩
    have i4 : LeN (g + 1) q := ⟨by omega⟩
    have i5 : LeN (g + 1) w2.heap.size := ⟨by omega⟩
    have q2 : w2.cell? ⟨q, 0, none⟩ = some (.slice A n c) := hoxw2.cell_some p0 hqg
    have qf2 : w2.frozen? ⟨q, 0, none⟩ = false := hoxw2.frozen hqb (hoxb.frozen hqW qf hqg) hqg
    have r2 : w2.cell? ⟨w.heap.size, 0, none⟩ = some (.slice none 0 0) := hoxw2.cell_some (hoxb.cell_some r0 hlw) hlw
    have rf2 : w2.frozen? ⟨w.heap.size, 0, none⟩ = false := hoxw2.frozen lw2 (hoxb.frozen hwW rf hlw) hlw
    have hO2 : Own w2 (w.heap.size + 1) 64 Pt.enc 4 A n c l := (hO.ox hoxb (by omega)).ox hoxw2 (by omega)
    clear e5 e8 e10 e12 e14 e18
    cases ok
    · clear hok
      go_wp2
      go_roundw
      case rel => exact ⟨z - 1, A, n, c, l, by go_num, by omega, by simp [go_sem, *], by simp [go_sem, *], by simp [go_sem, *], by simp [go_sem, *], hO2.set (.inl ⟨_, _, hh18, by decide⟩), hAq, hn1, hn2, hcurw2.bl inferInstance, inferInstance⟩
      case measure => simp [intOf]; omega
    · have hok2 := hok rfl; clear hok
      obtain ⟨g5, rfl, hg5, _⟩ := hO5.addr (by omega)
      go_wp2
      go_roundw
      case rel => exact ⟨z - 1, _, n5, c5, l5, by go_num, by omega, by simp [go_sem, *], by simp [go_sem, *], by simp [go_sem, *], by simp [go_sem, *], ((hO5.set (.inl ⟨_, _, hh18, by decide⟩)).set (.inr hqb)).mono (by omega), (by intro p hp; injection hp with hp; subst hp; show g5 ≠ q; omega), hok2.1, hok2.2, hcurw2.bl inferInstance, inferInstance⟩
      case measure => simp [intOf]; omega
end Go.Proofs.Ytiheokjolaclnaa

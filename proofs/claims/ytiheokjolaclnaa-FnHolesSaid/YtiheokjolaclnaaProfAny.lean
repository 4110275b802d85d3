/- The draw of any profile. -/
import Derived.Test.YtiheokjolaclnaaProfDraw
namespace Go.Proofs.Ytiheokjolaclnaa
open Go.RowKit
set_option maxRecDepth 100000 in
set_option maxHeartbeats 2000000 in
theorem profAny_c (g : Nat) (w : World) (h : Cur w g) : Calls Try.prog 23 #[.pointer (some ⟨g, 0, none⟩)] w
    fun e w' => ∃ A n c l, e = .returned (.agg #[.slice A n c]) ∧ Sl w' w.heap.size Pt.enc 4 A n l ∧ n ≤ 1001 ∧ Cur w' g ∧ Ox g w w' := by
  have hl := h.lt
  have hlw : w.heap.size ≠ g := by omega
  have lg : LeN (g + 1) w.heap.size := ⟨hl⟩
  go_enter Try.func23, Try.ntmps23
  go_wp2_with first | (go_at_call 56; refine (profDraw_c g _ (h.bel inferInstance)).mono ?_; rintro e w1 ⟨A, n, c, l, rfl, hO1, hn1, hn, hcur1, hox1⟩; obtain ⟨hs1, hc1, hf1, hz1⟩ := stdo hox1; have hy1 := lt_ox (b := w.heap.size) hox1 (by simp); have hcur := hcur1) | ((go_at_call 57; refine (below_c _ _ _ (by first | exact hcur.bel inferInstance | exact hcur.bl inferInstance | exact h.bel inferInstance)).mono ?_; rintro e wa ⟨xa, rfl, hx0a, hx1a, hcur, hoxa⟩; obtain ⟨hsa, hca, hfa, hza⟩ := stdo hoxa; have hgla := hcur.lt; have hya0 := lt_ox (b := w.heap.size) hoxa (by first | assumption | (simp <;> omega)); have hna0 : w.heap.size ≠ g := (by omega); have hza0 : w.heap.size < wa.heap.size + 1 := (by omega); have hua0 : w.heap.size < wa.heap.size + 1 + 1 := (by omega); have hya1 := lt_ox (b := w1.heap.size) hoxa (by first | assumption | (simp <;> omega)); have hna1 : w1.heap.size ≠ g := (by omega); have hza1 : w1.heap.size < wa.heap.size + 1 := (by omega); have hua1 : w1.heap.size < wa.heap.size + 1 + 1 := (by omega)); rcases (show xa = 0 ∨ xa = 1 ∨ xa = 2 ∨ xa = 3 ∨ (xa ≠ 0 ∧ xa ≠ 1 ∧ xa ≠ 2 ∧ xa ≠ 3) by omega) with rfl | rfl | rfl | rfl | ⟨n0, n1, n2, n3⟩)
  all_goals have q0 : wa.cell? ⟨w1.heap.size, 0, none⟩ = some (.slice A n c) := by simp [go_sem, *]
  all_goals have qf : wa.frozen? ⟨w1.heap.size, 0, none⟩ = false := by simp [go_sem, *]
  all_goals have r0 : wa.cell? ⟨w.heap.size, 0, none⟩ = some (.slice none 0 0) := by simp [go_sem, *]
  all_goals have rf : wa.frozen? ⟨w.heap.size, 0, none⟩ = false := by simp [go_sem, *]
  all_goals simp only [World.size_alloc] at hO1
  all_goals obtain ⟨g5, rfl, hg5, hg5l⟩ := hO1.addr (by omega)
  all_goals have hOa := (hO1.bel (w' := w1.alloc (.cells #[.slice (some ⟨g5, 0, none⟩) n c] 25)) inferInstance).ox hoxa (by omega)
  all_goals have X0 : Ox g w wa := inferInstance
  all_goals obtain ⟨q, hq⟩ : ∃ q, q = w1.heap.size := ⟨_, rfl⟩
  all_goals rw [← hq] at q0 qf hya1 hna1 hza1 hua1 hg5l ⊢
  all_goals have hqw : w.heap.size < q := by omega
  all_goals have hq5 : q ≠ g5 := by omega
  all_goals have hq6 : w.heap.size ≠ q := by omega
  all_goals have hq7 : w.heap.size ≠ g5 := by omega
  all_goals have hq8 : g5 ≠ g := by omega
  all_goals have hq9 : g5 < wa.heap.size := by omega
  all_goals have lq : LeN (g + 1) q := ⟨by omega⟩
  all_goals have lg5 : LeN (g + 1) g5 := ⟨by omega⟩
  all_goals have lg6 : LeN w.heap.size g5 := ⟨by omega⟩
  all_goals have lg7 : LeN w.heap.size q := ⟨by omega⟩
  all_goals clear hq hO1 hs1 hc1 hf1 hz1 hox1 hsa hca hfa hza hoxa hcur1
  all_goals have hs0 := (stdo X0).1
  rotate_left 3
  · (refine bodyPost_ret (v := .agg #[.slice none 0 0]) ?_ rfl ?_; focus (simp [results, Try.results23, go_sem, *]; done))
    exact ⟨none, 0, 0, [], rfl, Sl.nil _ _ _ _ _, by omega, hcur.bl inferInstance, inferInstance⟩
  · (refine bodyPost_ret (v := .agg #[.slice (some ⟨g5, 0, none⟩) n c]) ?_ rfl ?_; focus (simp [results, Try.results23, go_sem, *]; done))
    exact ⟨_, _, _, l, rfl, ((hOa.set (.inr (by omega))).sl Pt.enc_len).mono (by omega), by omega, hcur.bl inferInstance, inferInstance⟩
  · obtain ⟨Fw2, hF0⟩ : ∃ F : Nat → Value → World → Prop, F = Fc 4 (fun v _ => ∃ i : Nat, v = I (i : Int) ∧ i < n) (Fc 6 (fun v _ => ∃ x : Int, v = I x) (F0)) := ⟨_, rfl⟩
    have hFw2 := Lib.hid hF0; clear hF0
    refine region_cur (w := wa) 9 [] Fw2 hcur (by kernel_rfl) (by kernel_rfl) (by intro c a w dst v h; cases dst <;> exact h) (by rw [hFw2.out]; exact Fc_keep (fun _ _ _ _ h => h) (Fc_keep (fun _ _ _ _ h => h) (F0_keep))) (by rw [hFw2.out]; exact Fc_some ⟨I ((0 : Nat) : Int), default, 0, rfl, by omega⟩ (Fc_some ⟨I 0, default, 0, rfl⟩ (F0_some))) (fun hne hx p hp => ?_)
    simp only [List.take_succ_cons, List.take_zero, List.drop_succ_cons, List.drop_zero]
    refine wpPro_seg [_, _, _, _] 4 rfl rfl rfl ?_
    repeat (go_big_quiet_step (fail))
    refine wpQuiet_nil ?_
    refine wpPro_call rfl rfl rfl (fun w1 hw1 hd => ?_) ?_
    · obtain ⟨x, rfl⟩ := hw1; clear hd; go_simp; rw [hFw2.out]; refine Calls.draw ((below_c _ _ _ x.cur).mono ?_); rintro e w2 ⟨y, rfl, h0, h1, hc, ho⟩; obtain ⟨i, rfl⟩ := Int.eq_ofNat_of_zero_le h0; exact ⟨_, rfl, ⟨i, rfl, by omega⟩, hc, ho⟩
    obtain ⟨_, h9⟩ := hp 4; rw [hFw2.out] at h9; obtain ⟨x4, e4, h4⟩ := h9; rw [e4]; go_simp
    refine wpPro_seg [_] 6 rfl rfl rfl ?_
    repeat (go_big_quiet_step (fail))
    refine wpQuiet_nil ?_
    refine wpPro_call rfl rfl rfl (fun w1 hw1 hd => ?_) ?_
    · obtain ⟨x, rfl⟩ := hw1; clear hd; go_simp; rw [hFw2.out]; refine Calls.draw ((raw_c _ _ x.cur).mono ?_); rintro e w2 ⟨y, rfl, hc, ho⟩; exact ⟨_, rfl, ⟨y, rfl⟩, hc, ho⟩
    obtain ⟨_, h9⟩ := hp 6; rw [hFw2.out] at h9; obtain ⟨x6, e6⟩ := h9; rw [e6]; go_simp
    refine wpPro_seg [_, _] 9 rfl rfl rfl ?_
    repeat (go_big_quiet_step (fail))
    refine wpQuiet_nil ?_
    refine wpPro_nil ?_
    go_simp
    rintro ⟨w2, hcurw2, hoxw2⟩ hfactw2
    dsimp only at hfactw2 ⊢
    obtain ⟨hsw2, hcw2, hfw2, hzw2⟩ := stdo hoxw2
    clear hfactw2 hx hp hne
    have hO2 := hOa.ox hoxw2 (by omega)
    obtain ⟨y, hy, hl2, d0, d1, d2, d3⟩ := Pts.cells (hOa.sl Pt.enc_len) h4
    have fz := hOa.frozen (by omega)
    simp only [Nat.zero_add] at d0 d1 d2 d3
    go_wp2
    have hu := hO2.upd Pt.enc_len (i := x4) (j := 0) (⟨x6, y.f⟩ : Pt) hy (by decide) rfl
    (refine bodyPost_ret (v := .agg #[.slice (some ⟨g5, 0, none⟩) n c]) ?_ rfl ?_; focus (simp [results, Try.results23, go_sem, *]; done))
    exact ⟨_, _, _, _, rfl, ((hu.set (i := 0) (s := none) (v := .slice (some ⟨g5, 0, none⟩) n c) (.inr (show w.heap.size < w.heap.size + 1 by omega))).sl Pt.enc_len).mono (by omega), by omega, hcurw2.bl inferInstance, inferInstance⟩
  · obtain ⟨Fw2, hF0⟩ : ∃ F : Nat → Value → World → Prop, F = Fc 4 (fun v _ => ∃ i : Nat, v = I (i : Int) ∧ i < n) (Fc 6 (fun v _ => ∃ a b c : Int, v = .agg #[I a, I b, I c]) (F0)) := ⟨_, rfl⟩
    have hFw2 := Lib.hid hF0; clear hF0
    refine region_cur (w := wa) 9 [] Fw2 hcur (by kernel_rfl) (by kernel_rfl) (by intro c a w dst v h; cases dst <;> exact h) (by rw [hFw2.out]; exact Fc_keep (fun _ _ _ _ h => h) (Fc_keep (fun _ _ _ _ h => h) (F0_keep))) (by rw [hFw2.out]; exact Fc_some ⟨I ((0 : Nat) : Int), default, 0, rfl, by omega⟩ (Fc_some ⟨_, default, 0, 0, 0, rfl⟩ (F0_some))) (fun hne hx p hp => ?_)
    simp only [List.take_succ_cons, List.take_zero, List.drop_succ_cons, List.drop_zero]
    refine wpPro_seg [_, _, _, _] 4 rfl rfl rfl ?_
    repeat (go_big_quiet_step (fail))
    refine wpQuiet_nil ?_
    refine wpPro_call rfl rfl rfl (fun w1 hw1 hd => ?_) ?_
    · obtain ⟨x, rfl⟩ := hw1; clear hd; go_simp; rw [hFw2.out]; refine Calls.draw ((below_c _ _ _ x.cur).mono ?_); rintro e w2 ⟨y, rfl, h0, h1, hc, ho⟩; obtain ⟨i, rfl⟩ := Int.eq_ofNat_of_zero_le h0; exact ⟨_, rfl, ⟨i, rfl, by omega⟩, hc, ho⟩
    obtain ⟨_, h9⟩ := hp 4; rw [hFw2.out] at h9; obtain ⟨x4, e4, h4⟩ := h9; rw [e4]; go_simp
    refine wpPro_seg [_] 6 rfl rfl rfl ?_
    repeat (go_big_quiet_step (fail))
    refine wpQuiet_nil ?_
    refine wpPro_call rfl rfl rfl (fun w1 hw1 hd => ?_) ?_
    · obtain ⟨x, rfl⟩ := hw1; clear hd; go_simp; rw [hFw2.out]; refine Calls.draw ((anyVec_c _ _ x.cur).mono ?_); rintro e w2 ⟨y1, y2, y3, rfl, hc, ho⟩; exact ⟨_, rfl, ⟨y1, y2, y3, rfl⟩, hc, ho⟩
    obtain ⟨_, h9⟩ := hp 6; rw [hFw2.out] at h9; obtain ⟨xa6, xb6, xc6, e6⟩ := h9; rw [e6]; go_simp
    refine wpPro_seg [_, _] 9 rfl rfl rfl ?_
    repeat (go_big_quiet_step (fail))
    refine wpQuiet_nil ?_
    refine wpPro_nil ?_
    go_simp
    rintro ⟨w2, hcurw2, hoxw2⟩ hfactw2
    dsimp only at hfactw2 ⊢
    obtain ⟨hsw2, hcw2, hfw2, hzw2⟩ := stdo hoxw2
    clear hfactw2 hx hp hne
    have hO2 := hOa.ox hoxw2 (by omega)
    obtain ⟨y, hy, hl2, d0, d1, d2, d3⟩ := Pts.cells (hOa.sl Pt.enc_len) h4
    have fz := hOa.frozen (by omega)
    simp only [Nat.zero_add] at d0 d1 d2 d3
    go_wp2
    have hx4 : x4 < l.length := by have := hO2.len; omega
    have hu1 := hO2.upd Pt.enc_len (i := x4) (j := 1) (⟨y.t, ⟨xa6, y.f.b, y.f.c⟩⟩ : Pt) hy (by decide) rfl
    have hu2 := hu1.upd Pt.enc_len (i := x4) (j := 2) (⟨y.t, ⟨xa6, xb6, y.f.c⟩⟩ : Pt) (List.getElem?_set_self hx4) (by decide) rfl
    have hu := hu2.upd Pt.enc_len (i := x4) (j := 3) (⟨y.t, ⟨xa6, xb6, xc6⟩⟩ : Pt) (List.getElem?_set_self (by simpa using hx4)) (by decide) rfl
    (refine bodyPost_ret (v := .agg #[.slice (some ⟨g5, 0, none⟩) n c]) ?_ rfl ?_; focus (simp [results, Try.results23, go_sem, *]; done))
    exact ⟨_, _, _, _, rfl, ((hu.set (i := 0) (s := none) (v := .slice (some ⟨g5, 0, none⟩) n c) (.inr (show w.heap.size < w.heap.size + 1 by omega))).sl Pt.enc_len).mono (by omega), by omega, hcurw2.bl inferInstance, inferInstance⟩
  · obtain ⟨m, rfl⟩ : ∃ m, n = m + 1 := ⟨n - 1, by omega⟩
    obtain ⟨y, hy, hl2, d0, d1, d2, d3⟩ := Pts.cells (hOa.sl Pt.enc_len) (show m < m + 1 by omega)
    simp only [Nat.zero_add] at d0 d1 d2 d3
    have hm0 : (0 : Int) ≤ (m : Int) := by omega
    have hm1 : (m : Int) < (m : Int) + 1 := by omega
    have hwm : IntKind.i64.wrap (m : Int) = (m : Int) := IntWalk.i64_in _ (by omega)
    obtain ⟨Fw2, hF0⟩ : ∃ F : Nat → Value → World → Prop, F = Fc 8 (fun v w9 => ∃ b : Nat, v = .slice (some ⟨b, 0, none⟩) 1 1 ∧ wa.heap.size ≤ b ∧ w9.heap[b]? = some (.cells #[I y.t, I y.f.a, I y.f.b, I y.f.c] 64 (0, 0))) (F0) := ⟨_, rfl⟩
    have hFw2 := Lib.hid hF0; clear hF0
    refine region_cur (w := wa) 9 [] Fw2 hcur (by kernel_rfl) (by kernel_rfl) (by intro c a w dst v h; cases dst <;> exact h) (by rw [hFw2.out]; exact Fc_keep (fun _ w1 w2 hr h => (by obtain ⟨b, h1, h2, h3⟩ := h; exact ⟨b, h1, h2, (Ox.block hr h3 (by omega)).trans h3⟩)) (F0_keep)) (by rw [hFw2.out]; exact Fc_some ⟨_, wa.alloc (.cells #[I y.t, I y.f.a, I y.f.b, I y.f.c] 64 (0, 0)), wa.heap.size, rfl, Nat.le_refl _, heap_alloc_new _ _⟩ (F0_some)) (fun hne hx p hp => ?_)
    simp only [List.take_succ_cons, List.take_zero, List.drop_succ_cons, List.drop_zero]
    refine wpPro_seg [_, _, _, _, _, _, _, _] 8 rfl rfl rfl ?_
    repeat (go_big_quiet_step (fail))
    refine wpQuiet_nil ?_
    refine wpPro_call rfl rfl rfl (fun w1 hw1 hd => ?_) ?_
    · obtain ⟨x, rfl⟩ := hw1; clear hd; go_simp; rw [hFw2.out]; exact ⟨x.bel inferInstance, inferInstance, show ∃ _, _ from ⟨_, rfl, x.ox.out.size, heap_alloc_new _ _⟩⟩
    obtain ⟨_, h9⟩ := hp 8; rw [hFw2.out] at h9; obtain ⟨b8, e8, hb8, _⟩ := h9; rw [e8]; go_simp
    refine wpPro_nil ?_
    go_simp
    rintro ⟨w2, hcurw2, hoxw2⟩ hfactw2
    dsimp only at hfactw2 ⊢
    obtain ⟨hsw2, hcw2, hfw2, hzw2⟩ := stdo hoxw2
    have f8 := hfactw2 8 (by decide) rfl; rw [hFw2.out, e8] at f8; obtain ⟨_, ee, _, hh8⟩ := f8; simp only [Value.slice.injEq, Option.some.injEq, Addr.mk.injEq, and_true] at ee; subst ee
    have cell8_0 := cell_of_heap (i := 0) hh8 rfl; have froz8_0 := frozen_of_heap (i := 0) hh8; try dsimp only [List.getElem_toArray, List.getElem_cons_zero, List.getElem_cons_succ] at cell8_0
    have cell8_1 := cell_of_heap (i := 1) hh8 rfl; have froz8_1 := frozen_of_heap (i := 1) hh8; try dsimp only [List.getElem_toArray, List.getElem_cons_zero, List.getElem_cons_succ] at cell8_1
    have cell8_2 := cell_of_heap (i := 2) hh8 rfl; have froz8_2 := frozen_of_heap (i := 2) hh8; try dsimp only [List.getElem_toArray, List.getElem_cons_zero, List.getElem_cons_succ] at cell8_2
    have cell8_3 := cell_of_heap (i := 3) hh8 rfl; have froz8_3 := frozen_of_heap (i := 3) hh8; try dsimp only [List.getElem_toArray, List.getElem_cons_zero, List.getElem_cons_succ] at cell8_3
    have lt8 := lt_of_heap hh8
    clear hfactw2 hx hp hne
    have hO2 := hOa.ox hoxw2 (by omega)
    have lq2 : q < w2.heap.size := by omega
    have lw3 : LeN (w.heap.size + 1) w2.heap.size := ⟨by omega⟩
    have lw4 : LeN (g + 1) w2.heap.size := ⟨by omega⟩
    have lw5 : LeN (g + 1) (w.heap.size + 1) := ⟨by omega⟩
    have hqA : ∀ p, (some (⟨g5, 0, none⟩ : Addr)) = some p → p.block ≠ q := by intro p hp; injection hp with hp; subst hp; exact Ne.symm hq5
    have q2 : w2.cell? ⟨q, 0, none⟩ = some (.slice (some ⟨g5, 0, none⟩) (m + 1) c) := hoxw2.cell_some q0 hna1
    have q2f : w2.frozen? ⟨q, 0, none⟩ = false := hoxw2.frozen hya1 qf hna1
    go_wp2_with ((at_builtin; refine wpList_app ei_pts (hO2) (.tmp 38) (.tmp 45) rfl rfl rfl rfl (Sl.of1 (x := y) (by intro j v hj; rcases j with _ | _ | _ | _ | j <;> simp [Pt.enc] at hj <;> subst hj <;> assumption)) Pt.enc_len Pt.enc_one (by omega) _ rfl _ rfl ?_; intro A7 c7 w7 ho7 hF7 hG7 hat7; obtain ⟨hs7, hc7, hf7, hz7⟩ := hF7); have q7 := (grown_cell (o := 0) hG7 hqA lq2).trans q2; have q7f := (grown_froz (o := 0) hG7 hqA lq2).trans q2f)
    have hA7 : ∀ p, A7 = some p → p.block ≠ q := by
      intro p hp
      rcases hat7 with ⟨rfl, _⟩ | rfl
      · injection hp with hp; subst hp; exact Ne.symm hq5
      · injection hp with hp; subst hp; show w2.heap.size ≠ q; omega
    (refine bodyPost_ret (v := .agg #[.slice A7 (m + 1 + 1) c7]) ?_ rfl ?_; focus (simp [results, Try.results23, go_sem, *]; done))
    exact ⟨_, _, _, _, rfl, (((ho7.set_ne hA7).set (i := 0) (s := none) (v := .slice A7 (m + 1 + 1) c7) (.inr (show w.heap.size < w.heap.size + 1 by omega))).sl Pt.enc_len).mono (by omega), by omega, hcurw2.bl inferInstance, inferInstance⟩
end Go.Proofs.Ytiheokjolaclnaa

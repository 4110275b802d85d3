/- The reference's Holes. -/
import Derived.Test.YtiheokjolaclnaaImplOut
import Derived.Test.YtiheokjolaclnaaTimesLaw
import Derived.Test.YtiheokjolaclnaaChange
namespace Go.Proofs.Ytiheokjolaclnaa
open Go.RowKit
theorem profOk_len {l : List Pt} (h : profOk l = true) : 1 ≤ l.length ∧ l.length ≤ 200 := by
  simp only [profOk, withinB, Bool.and_eq_true, decide_eq_true_eq] at h
  omega
theorem profOk_pt {l : List Pt} (h : profOk l = true) {i : Nat} {x : Pt} (hx : l[i]? = some x) : 0 ≤ x.t ∧ x.t ≤ 1000000000 ∧ x.f.ok = true := by
  simp only [profOk, Bool.and_eq_true, List.all_eq_true] at h
  have h1 := h.2 i (List.mem_range.2 (List.getElem?_eq_some_iff.1 hx).1)
  simp only [okPt, hx, Bool.and_eq_true] at h1
  have := timeB_bd h1.1.1
  exact ⟨this.1, this.2, h1.1.2⟩
theorem profOk_up1 {l : List Pt} (h : profOk l = true) {i : Nat} {x y : Pt} (hx : l[i + 1]? = some x) (hy : l[i]? = some y) : y.t < x.t := by
  simp only [profOk, Bool.and_eq_true, List.all_eq_true] at h
  have h1 := h.2 (i + 1) (List.mem_range.2 (List.getElem?_eq_some_iff.1 hx).1)
  simp [okPt, hx, hy] at h1
  exact h1.2.1
theorem up_of_next {l : List Int} (h : ∀ i x y, l[i + 1]? = some x → l[i]? = some y → y < x) : Up l := by
  refine List.pairwise_iff_getElem.2 ?_
  intro i j hi hj hij
  obtain ⟨d, rfl⟩ : ∃ d, j = i + 1 + d := ⟨j - i - 1, by omega⟩
  clear hij
  induction d with
  | zero => exact h i _ _ (List.getElem?_eq_getElem hj) (List.getElem?_eq_getElem hi)
  | succ d ih =>
    have h1 := ih (by omega)
    have h2 := h (i + 1 + d) _ _ (List.getElem?_eq_getElem (show i + 1 + d + 1 < l.length by omega)) (List.getElem?_eq_getElem (show i + 1 + d < l.length by omega))
    have : l[i + 1 + (d + 1)] = l[i + 1 + d + 1] := by congr 1
    omega
theorem profOk_up {l : List Pt} (h : profOk l = true) : Up (l.map Pt.t) := up_of_next fun i x y hx hy => by
  rw [List.getElem?_map] at hx hy
  obtain ⟨x', hx1, rfl⟩ := Option.map_eq_some_iff.1 hx
  obtain ⟨y', hy1, rfl⟩ := Option.map_eq_some_iff.1 hy
  exact profOk_up1 h hx1 hy1
theorem timesOf_eq (l : List Pt) (f t : Int) : timesOf l f t = insS t (insS f (l.map Pt.t)) := by rw [timesOf, insT_eq, insT_eq]
theorem times_next {l : List Pt} (h : profOk l = true) {f t x : Int} {k : Nat} (hx : (timesOf l f t)[k]? = some x) (hlt : x < t) : k + 1 < (timesOf l f t).length := by
  rw [timesOf_eq] at *
  exact up_next (up_insS (up_insS (profOk_up h))) (mem_insS.2 (.inl rfl)) hx hlt
def specPut (l : List Pt) (f t : Int) (v : Vec) (T : List Int) (acc : List Hole) (k : Nat) : List Hole :=
  match T[k]? with
  | none => acc
  | some x => if f ≤ x ∧ x < t ∧ v.fits (vfree l x) = true then addHole acc ⟨x, T[k + 1]?.getD 0⟩ else acc
def specTo (l : List Pt) (f t : Int) (v : Vec) (T : List Int) (k : Nat) : List Hole := (List.range k).foldl (specPut l f t v T) []
def specHolesR (l : List Pt) (f t : Int) (v : Vec) : List Hole := if (vminR l f t).2 && v.ok then specTo l f t v (timesOf l f t) (timesOf l f t).length else []
theorem specTo_succ {l : List Pt} {f t : Int} {v : Vec} {T : List Int} {k : Nat} {x : Int} (h : T[k]? = some x) : specTo l f t v T (k + 1) = if f ≤ x ∧ x < t ∧ v.fits (vfree l x) = true then addHole (specTo l f t v T k) ⟨x, T[k + 1]?.getD 0⟩ else specTo l f t v T k := by
  unfold specTo
  rw [List.range_succ, List.foldl_append]
  simp only [List.foldl_cons, List.foldl_nil, specPut, h]
theorem specTo_len (l : List Pt) (f t : Int) (v : Vec) (T : List Int) (k : Nat) : (specTo l f t v T k).length ≤ k := by
  induction k with
  | zero => simp [specTo]
  | succ k ih =>
    unfold specTo at *
    rw [List.range_succ, List.foldl_append]
    simp only [List.foldl_cons, List.foldl_nil, specPut]
    split
    · omega
    · split
      · exact Nat.le_trans (addHole_len _ _) (by omega)
      · omega
theorem vminR_ok {l : List Pt} {f t : Int} (h : (vminR l f t).2 = true) : profOk l = true ∧ timeB f = true ∧ timeB t = true ∧ f < t := by
  unfold vminR orNone at h
  by_cases g : (profOk l && timeB f && timeB t && !decide (t ≤ f)) = true
  · simp only [Bool.and_eq_true, Bool.not_eq_true', decide_eq_false_iff_not] at g
    exact ⟨g.1.1.1, g.1.1.2, g.1.2, by omega⟩
  · simp [g] at h
set_option maxHeartbeats 4000000 in
theorem specHoles_c (A : Option Addr) (n c : Nat) (l : List Pt) (v : Vec) (f t : Int) (w : World) (h : Sl w 0 Pt.enc 4 A n l) (hn : n ≤ 1000000) : Calls Try.prog 7 #[.agg #[.slice A n c], .agg #[I v.a, I v.b, I v.c], I f, I t] w
    fun e w' => ∃ A' n' c', e = .returned (.slice A' n' c') ∧ Own w' w.heap.size 36 Hole.enc 2 A' n' c' (specHolesR l f t v) ∧ Bel w w' := by
  have HL := Lib.hid h.len
  generalize hR : specHolesR l f t v = R
  have HR := Lib.hid hR
  clear hR
  rcases ways2 (vminR l f t).2 v.ok with g1 | ⟨g1, g2⟩ | ⟨g1, g2⟩
  all_goals go_enter Try.func7, Try.ntmps7
  all_goals go_wp2_with (first | (go_at_call 29; refine (specProfMin_c _ _ _ _ _ _ _ (h.bel inferInstance) (by omega)).mono ?_; rintro e w1 ⟨rfl, hb1⟩; obtain ⟨hs1, hc1, hf1, hz1⟩ := std hb1; have hy1w0 := lt_bel (b := w.heap.size) hb1 (by first | assumption | (simp <;> omega)); have hy1w1 := lt_bel (b := w.heap.size + 1) hb1 (by first | assumption | (simp <;> omega))) | (go_at_call 10; refine (specVecOk_c ⟨_, _, _⟩ _).mono ?_; rintro e w2 ⟨rfl, hb2⟩; obtain ⟨hs2, hc2, hf2, hz2⟩ := std hb2; have hy2w0 := lt_bel (b := w.heap.size) hb2 (by first | assumption | (simp <;> omega)); have hy2w1 := lt_bel (b := w.heap.size + 1) hb2 (by first | assumption | (simp <;> omega))) | (go_at_call 30; refine (times_c _ _ _ _ _ _ _ (h.bel inferInstance) (by omega)).mono ?_; rintro e w3 ⟨At, nt, ct, rfl, hot, hb3⟩; obtain ⟨hs3, hc3, hf3, hz3⟩ := std hb3; have hy3w0 := lt_bel (b := w.heap.size) hb3 (by first | assumption | (simp <;> omega)); have hy3w1 := lt_bel (b := w.heap.size + 1) hb3 (by first | assumption | (simp <;> omega))))
  · go_ret
    exact ⟨_, 0, 0, rfl, by rw [← HR.out]; simp only [specHolesR, g1]; exact Own.nil _ _ _ _ _ _, inferInstance⟩
  · go_ret
    exact ⟨_, 0, 0, rfl, by rw [← HR.out]; simp only [specHolesR, g1, g2]; exact Own.nil _ _ _ _ _ _, inferInstance⟩
  have htl := timesOf_len l f t
  have hnx : Hid (∀ k x, (timesOf l f t)[k]? = some x → x < t → k + 1 < (timesOf l f t).length) := Lib.hid (fun k x hx hlt => times_next (vminR_ok g1).1 hx hlt)
  have HR : Hid (specTo l f t v (timesOf l f t) (timesOf l f t).length = R) := Lib.hid (by rw [← HR.out]; simp [specHolesR, g1, g2])
  have hst := (hot.sl ie_len).mono (Nat.zero_le _)
  generalize timesOf l f t = T at *
  have Lt := Lib.hid hst.len
  have hnt : nt ≤ 1000002 := by have := Lt.out; have := HL.out; omega
  have HR : Hid (specTo l f t v T nt = R) := Lib.hid (by rw [Lt.out]; exact HR.out)
  refine wp_gen ?_; intro W0 hW0
  have B0 : Bel w W0 := by rw [hW0]; infer_instance
  have a0 : W0.cell? ⟨w.heap.size, 0, none⟩ = some (.slice A n c) := by rw [hW0]; simp [go_sem, *]
  have b0 : W0.cell? ⟨w.heap.size + 1, 0, none⟩ = some (I v.a) := by rw [hW0]; simp [go_sem, *]
  have b1 : W0.cell? ⟨w.heap.size + 1, 1, none⟩ = some (I v.b) := by rw [hW0]; simp [go_sem, *]
  have b2 : W0.cell? ⟨w.heap.size + 1, 2, none⟩ = some (I v.c) := by rw [hW0]; simp [go_sem, *]
  have lw : LeN w.heap.size W0.heap.size := ⟨B0.size⟩
  have y0 := World.block_lt_of_cell? _ _ a0
  have y1 := World.block_lt_of_cell? _ _ b0
  dsimp only at y0 y1
  have H0 := h.bel B0
  have HT : Sl W0 0 ie 1 At nt T := by rw [hW0]; exact hst.bel inferInstance
  clear hW0 hot hst hc1 hf1 hz1 hc2 hf2 hz2 hc3 hf3 hz3 hs1 hs2 hs3 hb1 hb2 hb3
  go_loopw [9, 37] (fun u i wr => ∃ (k : Nat) (A' : Option Addr) (n' c' : Nat), k ≤ nt ∧ i = .int .i64 k ∧ u = .slice A' n' c' ∧ Own wr W0.heap.size 36 Hole.enc 2 A' n' c' (specTo l f t v T k) ∧ Bel W0 wr) (fun _ i _ => nt - (intOf i).toNat)
  case atStart => exact ⟨0, _, _, _, by omega, rfl, rfl, Own.nil _ _ _ _ _ _, inferInstance⟩
  case round =>
    obtain ⟨k, A1, n1, c1, hk, rfl, rfl, hown, hb0⟩ := hrel
    obtain ⟨hs0, hc0, hf0, hz0⟩ := std hb0
    by_cases hlt : k < nt
    case neg =>
      obtain rfl : k = nt := by omega
      rw [HR.out] at hown
      go_wp2
      go_ret
      exact ⟨_, _, _, rfl, hown.mono lw.out, inferInstance⟩
    have HK := HT.bel hb0
    have HP := H0.bel hb0
    have hn1 : n1 ≤ 1000002 := by have := hown.len; have := specTo_len l f t v T k; omega
    obtain ⟨b, o, rfl⟩ := HK.addr (by omega)
    obtain ⟨x, hx, hlb, d0⟩ := Ints.cells HK hlt
    have z0 := hz0 _ y0
    have z1 := hz0 _ y1
    have V := Lib.hid (specTo_succ (l := l) (f := f) (t := t) (v := v) hx)
    have hAt := fun W (hW : Sl W 0 Pt.enc 4 A n l) => specAt_c A n c l x W hW (by omega)
    generalize hv1 : vfree l x = v1 at V hAt
    clear hv1
    rcases ways3 (decide (f ≤ x)) (decide (x < t)) (v.fits v1) with g3 | ⟨g3, g4⟩ | ⟨g3, g4, g5⟩ | ⟨g3, g4, g5⟩
    · have V2 := Lib.hid (V.out.trans (if_neg (by simp at g3; omega)))
      clear V hx
      go_wp2
      (refine wp_region_bel (by kernel_rfl) (by kernel_rfl) (fun hx => ?_); (repeat (any_goals (first | go_big_quiet_step ((first | (go_at_call 32; exact Calls.inBel (hAt _ (Sl.belW HP))) | (go_at_call 31; exact Calls.inBel (specVecFits_c ⟨_, _, _⟩ ⟨_, _, _⟩ _)))) | quiet_step ((first | (go_at_call 32; exact Calls.inBel (hAt _ (Sl.belW HP))) | (go_at_call 31; exact Calls.inBel (specVecFits_c ⟨_, _, _⟩ ⟨_, _, _⟩ _)))) | (refine wpQuiet_step (fun K hK => ?_); go_simp; split <;> (refine hK _ ?_; clear hK K))))); all_goals (refine wpQuiet_nil ?_; rintro _ ⟨⟨w2, hb2⟩, rfl⟩; (try dsimp only)))
      obtain ⟨hs2, hc2, hf2, hz2⟩ := std hb2; have hy2w0 := lt_bel (b := w.heap.size) hb2 (by first | assumption | (simp <;> omega)); have hy2w1 := lt_bel (b := w.heap.size + 1) hb2 (by first | assumption | (simp <;> omega))
      go_wp2
      go_roundw
      case rel => exact ⟨k + 1, _, _, _, by omega, by go_num, rfl, by rw [V2.out]; exact hown.bel inferInstance, inferInstance⟩
      case measure => simp [intOf]; omega
    · have V2 := Lib.hid (V.out.trans (if_neg (by simp at g4; omega)))
      clear V hx
      go_wp2
      (refine wp_region_bel (by kernel_rfl) (by kernel_rfl) (fun hx => ?_); (repeat (any_goals (first | go_big_quiet_step ((first | (go_at_call 32; exact Calls.inBel (hAt _ (Sl.belW HP))) | (go_at_call 31; exact Calls.inBel (specVecFits_c ⟨_, _, _⟩ ⟨_, _, _⟩ _)))) | quiet_step ((first | (go_at_call 32; exact Calls.inBel (hAt _ (Sl.belW HP))) | (go_at_call 31; exact Calls.inBel (specVecFits_c ⟨_, _, _⟩ ⟨_, _, _⟩ _)))) | (refine wpQuiet_step (fun K hK => ?_); go_simp; split <;> (refine hK _ ?_; clear hK K))))); all_goals (refine wpQuiet_nil ?_; rintro _ ⟨⟨w2, hb2⟩, rfl⟩; (try dsimp only)))
      obtain ⟨hs2, hc2, hf2, hz2⟩ := std hb2; have hy2w0 := lt_bel (b := w.heap.size) hb2 (by first | assumption | (simp <;> omega)); have hy2w1 := lt_bel (b := w.heap.size + 1) hb2 (by first | assumption | (simp <;> omega))
      go_wp2
      go_roundw
      case rel => exact ⟨k + 1, _, _, _, by omega, by go_num, rfl, by rw [V2.out]; exact hown.bel inferInstance, inferInstance⟩
      case measure => simp [intOf]; omega
    · have V2 := Lib.hid (V.out.trans (if_neg (by simp [g5])))
      clear V hx
      go_wp2
      (refine wp_region_bel (by kernel_rfl) (by kernel_rfl) (fun hx => ?_); (repeat (any_goals (first | go_big_quiet_step ((first | (go_at_call 32; exact Calls.inBel (hAt _ (Sl.belW HP))) | (go_at_call 31; exact Calls.inBel (specVecFits_c ⟨_, _, _⟩ ⟨_, _, _⟩ _)))) | quiet_step ((first | (go_at_call 32; exact Calls.inBel (hAt _ (Sl.belW HP))) | (go_at_call 31; exact Calls.inBel (specVecFits_c ⟨_, _, _⟩ ⟨_, _, _⟩ _)))) | (refine wpQuiet_step (fun K hK => ?_); go_simp; split <;> (refine hK _ ?_; clear hK K))))); all_goals (refine wpQuiet_nil ?_; rintro _ ⟨⟨w2, hb2⟩, rfl⟩; (try dsimp only)))
      obtain ⟨hs2, hc2, hf2, hz2⟩ := std hb2; have hy2w0 := lt_bel (b := w.heap.size) hb2 (by first | assumption | (simp <;> omega)); have hy2w1 := lt_bel (b := w.heap.size + 1) hb2 (by first | assumption | (simp <;> omega))
      go_wp2
      go_roundw
      case rel => exact ⟨k + 1, _, _, _, by omega, by go_num, rfl, by rw [V2.out]; exact hown.bel inferInstance, inferInstance⟩
      case measure => simp [intOf]; omega
    have hk1 := hnx.out k x hx (of_decide_eq_true g4)
    have hk2 : k + 1 < nt := by rw [Lt.out]; exact hk1
    obtain ⟨y, hy, _, e0⟩ := Ints.cells HK hk2
    have V2 := Lib.hid (V.out.trans (if_pos ⟨of_decide_eq_true g3, of_decide_eq_true g4, g5⟩))
    rw [hy, Option.getD_some] at V2
    clear V hy hx
    have hk3 : (k : Int) + 1 < (nt : Int) := by omega
    have hk4 : (0 : Int) ≤ (k : Int) + 1 := by omega
    go_wp2
    (refine wp_region_bel (by kernel_rfl) (by kernel_rfl) (fun hx => ?_); (repeat (any_goals (first | go_big_quiet_step ((first | (go_at_call 32; exact Calls.inBel (hAt _ (Sl.belW HP))) | (go_at_call 31; exact Calls.inBel (specVecFits_c ⟨_, _, _⟩ ⟨_, _, _⟩ _)))) | quiet_step ((first | (go_at_call 32; exact Calls.inBel (hAt _ (Sl.belW HP))) | (go_at_call 31; exact Calls.inBel (specVecFits_c ⟨_, _, _⟩ ⟨_, _, _⟩ _)))) | (refine wpQuiet_step (fun K hK => ?_); go_simp; split <;> (refine hK _ ?_; clear hK K))))); all_goals (refine wpQuiet_nil ?_; rintro _ ⟨⟨w2, hb2⟩, rfl⟩; (try dsimp only)))
    obtain ⟨hs2, hc2, hf2, hz2⟩ := std hb2; have hy2w0 := lt_bel (b := w.heap.size) hb2 (by first | assumption | (simp <;> omega)); have hy2w1 := lt_bel (b := w.heap.size + 1) hb2 (by first | assumption | (simp <;> omega)); have hy2b := lt_bel (b := b) hb2 (by first | assumption | (simp <;> omega))
    go_wp2_with (go_at_call 33; refine (addHole_c _ _ _ _ ⟨x, y⟩ _ (hown.bel inferInstance) (by omega)).mono ?_; rintro e w4 ⟨A4, n4, c4, rfl, ho4, hb4⟩; obtain ⟨hs4, hc4, hf4, hz4⟩ := appF hb4.out)
    go_roundw
    case rel => exact ⟨k + 1, _, _, _, by omega, by go_num, rfl, by rw [V2.out]; exact ho4, inferInstance⟩
    case measure => simp [intOf]; omega
end Go.Proofs.Ytiheokjolaclnaa

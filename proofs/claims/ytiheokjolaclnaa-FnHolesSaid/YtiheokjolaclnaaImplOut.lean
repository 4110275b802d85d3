/- The program's Holes. -/
import Derived.Test.YtiheokjolaclnaaLen
namespace Go.Proofs.Ytiheokjolaclnaa
open Go.RowKit
def endOf (l : List Pt) (t : Int) (k : Nat) : Int := match l[k + 1]? with | none => t | some y => min t y.t
def putIn (l : List Pt) (f t : Int) (v : Vec) (acc : List Hole) (k : Nat) : List Hole :=
  match l[k]? with
  | none => acc
  | some x => if endOf l t k ≤ max f x.t then acc else if v.fits x.f then addHole acc ⟨max f x.t, endOf l t k⟩ else acc
def holesTo (l : List Pt) (f t : Int) (v : Vec) (k : Nat) : List Hole := (List.range k).foldl (putIn l f t v) []
def holesR (l : List Pt) (f t : Int) (v : Vec) : List Hole := if profOk l && spanB f t && v.ok then holesTo l f t v l.length else []
theorem holesTo_succ {l : List Pt} {f t : Int} {v : Vec} {k : Nat} {x : Pt} {e : Int} (h : l[k]? = some x) (he : endOf l t k = e) : holesTo l f t v (k + 1) = if e ≤ max f x.t then holesTo l f t v k else if v.fits x.f then addHole (holesTo l f t v k) ⟨max f x.t, e⟩ else holesTo l f t v k := by
  unfold holesTo
  rw [List.range_succ, List.foldl_append]
  simp only [List.foldl_cons, List.foldl_nil, putIn, h, he]
theorem addHole_len (l : List Hole) (h : Hole) : (addHole l h).length ≤ l.length + 1 := by
  unfold addHole
  split
  · simp
  · split <;> simp <;> omega
theorem holesTo_len (l : List Pt) (f t : Int) (v : Vec) (k : Nat) : (holesTo l f t v k).length ≤ k := by
  induction k with
  | zero => simp [holesTo]
  | succ k ih =>
    unfold holesTo at *
    rw [List.range_succ, List.foldl_append]
    simp only [List.foldl_cons, List.foldl_nil, putIn]
    split
    · omega
    · split
      · omega
      · split
        · have := addHole_len (List.foldl (putIn l f t v) [] (List.range k)) ⟨max f (by assumption : Pt).t, endOf l t k⟩; omega
        · omega
theorem addHole_nil (h : Hole) : addHole [] h = [h] := rfl
theorem addHole_set {l : List Hole} {h y : Hole} {m : Nat} (hl : m + 1 = l.length) (hy : l[m]? = some y) (ht : y.t = h.f) : addHole l h = l.set m ⟨y.f, h.t⟩ := by
  unfold addHole
  rw [← hl, Nat.add_sub_cancel, hy]
  simp only [ht, beq_self_eq_true, if_true]
  apply List.ext_getElem?
  intro i
  rw [List.getElem?_set]
  rcases Nat.lt_trichotomy i m with h1 | h1 | h1
  · rw [List.getElem?_append_left (by simp; omega), List.getElem?_take_of_lt h1, if_neg (by omega)]
  · subst h1; rw [List.getElem?_append_right (by simp; omega)]; simp [show i < l.length by omega]; rw [Nat.min_eq_left (by omega)]; simp
  · rw [if_neg (by omega), List.getElem?_eq_none (l := l) (by omega), List.getElem?_eq_none (by simp; omega)]
theorem addHole_no {l : List Hole} {h y : Hole} {m : Nat} (hl : m + 1 = l.length) (hy : l[m]? = some y) (ht : y.t ≠ h.f) : addHole l h = l ++ [h] := by
  unfold addHole
  rw [← hl, Nat.add_sub_cancel, hy]
  simp [ht]
set_option maxHeartbeats 4000000 in
theorem implHoles_c (A : Option Addr) (n c : Nat) (l : List Pt) (v : Vec) (f t : Int) (w : World) (h : Sl w 0 Pt.enc 4 A n l) (hn : n ≤ 1000000) : Calls Try.prog 6 #[.agg #[.slice A n c], .agg #[I v.a, I v.b, I v.c], I f, I t] w
    fun e w' => ∃ A' n' c', e = .returned (.slice A' n' c') ∧ Own w' w.heap.size 36 Hole.enc 2 A' n' c' (holesR l f t v) ∧ Bel w w' := by
  have HL := Lib.hid h.len
  generalize hR : holesR l f t v = R
  have HR := Lib.hid hR
  clear hR
  rcases ways3 (profOk l) (spanB f t) v.ok with g1 | ⟨g1, g2⟩ | ⟨g1, g2, g3⟩ | ⟨g1, g2, g3⟩
  all_goals go_enter Try.func6, Try.ntmps6
  all_goals go_wp2_with (first | (go_at_call 26; refine (profOk_c _ _ _ _ _ (h.bel inferInstance) (by omega)).mono ?_; rintro e w1 ⟨rfl, hb1⟩; obtain ⟨hs1, hc1, hf1, hz1⟩ := std hb1; have hy1w0 := lt_bel (b := w.heap.size) hb1 (by first | assumption | (simp <;> omega)); have hy1w1 := lt_bel (b := w.heap.size + 1) hb1 (by first | assumption | (simp <;> omega))) | (go_at_call 27; refine (isSpan_c _ _ _).mono ?_; rintro e w1 ⟨rfl, rfl⟩) | (go_at_call 28; refine (vecOk_c ⟨_, _, _⟩ _).mono ?_; rintro e w1 ⟨rfl, hb1⟩; obtain ⟨hs1, hc1, hf1, hz1⟩ := std hb1; have hy1w0 := lt_bel (b := w.heap.size) hb1 (by first | assumption | (simp <;> omega)); have hy1w1 := lt_bel (b := w.heap.size + 1) hb1 (by first | assumption | (simp <;> omega))))
  · go_ret
    exact ⟨none, 0, 0, rfl, by rw [← HR.out]; simp only [holesR, g1]; exact Own.nil _ _ _ _ _ _, inferInstance⟩
  · go_ret
    exact ⟨none, 0, 0, rfl, by rw [← HR.out]; simp only [holesR, g1, g2]; exact Own.nil _ _ _ _ _ _, inferInstance⟩
  · go_ret
    exact ⟨none, 0, 0, rfl, by rw [← HR.out]; simp only [holesR, g1, g2, g3]; exact Own.nil _ _ _ _ _ _, inferInstance⟩
  have HR : Hid (holesTo l f t v n = R) := Lib.hid (by rw [← HR.out, HL.out]; simp [holesR, g1, g2, g3])
  refine wp_gen ?_; intro W0 hW0
  have B0 : Bel w W0 := by rw [hW0]; infer_instance
  have a0 : W0.cell? ⟨w.heap.size, 0, none⟩ = some (.slice A n c) := by rw [hW0]; simp [go_sem, *]
  have b0 : W0.cell? ⟨w.heap.size + 1, 0, none⟩ = some (I v.a) := by rw [hW0]; simp [go_sem, *]
  have b1 : W0.cell? ⟨w.heap.size + 1, 1, none⟩ = some (I v.b) := by rw [hW0]; simp [go_sem, *]
  have b2 : W0.cell? ⟨w.heap.size + 1, 2, none⟩ = some (I v.c) := by rw [hW0]; simp [go_sem, *]
  have lw : LeN w.heap.size W0.heap.size := ⟨B0.size⟩
  have y0 := World.block_lt_of_cell? _ _ a0
  have y1 := World.block_lt_of_cell? _ _ b0
  dsimp only at y0 y1
  have H0 := h.bel B0
  clear hW0
  go_loopw [9, 33] (fun u i wr => ∃ (k : Nat) (A' : Option Addr) (n' c' : Nat), k ≤ n ∧ i = .int .i64 k ∧ u = .slice A' n' c' ∧ Own wr W0.heap.size 36 Hole.enc 2 A' n' c' (holesTo l f t v k) ∧ Bel W0 wr) (fun _ i _ => n - (intOf i).toNat)
  case atStart => exact ⟨0, _, _, _, by omega, rfl, rfl, Own.nil _ _ _ _ _ _, inferInstance⟩
  case round =>
    obtain ⟨k, A1, n1, c1, hk, rfl, rfl, hown, hb0⟩ := hrel
    obtain ⟨hs0, hc0, hf0, hz0⟩ := std hb0
    by_cases hlt : k < n
    case neg =>
      obtain rfl : k = n := by omega
      rw [HR.out] at hown
      go_wp2
      go_ret
      exact ⟨_, _, _, rfl, hown.mono lw.out, inferInstance⟩
    have HK := H0.bel hb0
    have hn1 : n1 ≤ 1000000 := by have := hown.len; have := holesTo_len l f t v k; omega
    obtain ⟨b, o, rfl⟩ := HK.addr (by omega)
    obtain ⟨x, hx, hlb, d0, d1, d2, d3⟩ := Pts.cells HK hlt
    have z0 := hz0 _ y0
    have z1 := hz0 _ y1
    by_cases hlt1 : k + 1 < n
    · obtain ⟨y, hy, _, e0, _, _, _⟩ := Pts.cells HK hlt1
      have E : endOf l t k = min t y.t := by simp [endOf, hy]
      have V := Lib.hid (holesTo_succ (f := f) (v := v) hx E)
      clear hx hy E
      have e1 : wr.cell? ⟨b, o + (k + 1) * 4, none⟩ = some (I y.t) := e0
      by_cases hge : min t y.t ≤ max f x.t
      · go_wp2
        go_roundw
        case rel => exact ⟨k + 1, _, _, _, by omega, by go_num, rfl, by rw [V.out, if_pos hge]; exact hown.bel inferInstance, inferInstance⟩
        case measure => simp [intOf]; omega
      have V2 := Lib.hid (V.out.trans (if_neg hge))
      clear V
      rcases ways1 (v.fits x.f) with g4 | g4
      · go_wp2_with (go_at_call 11; refine (vecFits_c ⟨_, _, _⟩ ⟨_, _, _⟩ _).mono ?_; rintro e w1 ⟨rfl, hb1⟩; obtain ⟨hs1, hc1, hf1, hz1⟩ := std hb1; have hy1w0 := lt_bel (b := w.heap.size) hb1 (by first | assumption | (simp <;> omega)); have hy1w1 := lt_bel (b := w.heap.size + 1) hb1 (by first | assumption | (simp <;> omega)))
        go_roundw
        case rel => exact ⟨k + 1, _, _, _, by omega, by go_num, rfl, by rw [V2.out, if_neg (by simp [g4])]; exact hown.bel inferInstance, inferInstance⟩
        case measure => simp [intOf]; omega
      have V := Lib.hid (V2.out.trans (if_pos g4))
      clear V2
      rcases Nat.eq_zero_or_pos n1 with h0 | h0
      · subst h0
        have E0 : holesTo l f t v k = [] := List.eq_nil_of_length_eq_zero hown.len.symm
        rw [E0] at hown V
        go_wp2_with first | (go_at_call 11; refine (vecFits_c ⟨_, _, _⟩ ⟨_, _, _⟩ _).mono ?_; rintro e w1 ⟨rfl, hb1⟩; obtain ⟨hs1, hc1, hf1, hz1⟩ := std hb1; have hy1w0 := lt_bel (b := w.heap.size) hb1 (by first | assumption | (simp <;> omega)); have hy1w1 := lt_bel (b := w.heap.size + 1) hb1 (by first | assumption | (simp <;> omega))) | (at_builtin; refine wpList_app1 ei_holes (hown.bel inferInstance) (⟨max f x.t, min t y.t⟩ : Hole) rfl (.tmp 88) (.tmp 92) rfl rfl rfl rfl (by simp) Hole.enc_len Hole.enc_one (by omega) ?_; intro A3 c3 w3 ho3 hF3 hG3 hat3; obtain ⟨hs3, hc3, hf3, hz3⟩ := hF3)
        go_roundw
        case rel => exact ⟨k + 1, _, _, _, by omega, by go_num, rfl, by rw [V.out]; exact ho3, inferInstance⟩
        case measure => simp [intOf]; omega
      obtain ⟨m, rfl⟩ : ∃ m, n1 = m + 1 := ⟨n1 - 1, by omega⟩
      obtain ⟨q, rfl, hql, hq⟩ := hown.addr h0
      have hqf := hown.frozen h0
      have hlen := Lib.hid hown.len
      have lq : LeN W0.heap.size q := ⟨hql⟩
      obtain ⟨z, hz, _, i0, i1⟩ := Holes.cells (hown.sl Hole.enc_len) (show m < m + 1 by omega)
      simp only [Nat.zero_add] at i0 i1
      have J0 : (0 : Int) ≤ (m : Int) := by omega
      have J1 : ((m + 1 : Nat) : Int) = (m : Int) + 1 := by omega
      have J2 : (m : Int) < (m : Int) + 1 := by omega
      have J3 : IntKind.i64.wrap (m : Int) = (m : Int) := IntWalk.i64_in _ (by omega)
      by_cases htch : z.t = max f x.t
      · have V2 := Lib.hid (V.out.trans (addHole_set hlen.out hz htch))
        clear V
        go_wp2_with (go_at_call 11; refine (vecFits_c ⟨_, _, _⟩ ⟨_, _, _⟩ _).mono ?_; rintro e w1 ⟨rfl, hb1⟩; obtain ⟨hs1, hc1, hf1, hz1⟩ := std hb1; have hy1w0 := lt_bel (b := w.heap.size) hb1 (by first | assumption | (simp <;> omega)); have hy1w1 := lt_bel (b := w.heap.size + 1) hb1 (by first | assumption | (simp <;> omega)); have hy1q := lt_bel (b := q) hb1 (by first | assumption | (simp <;> omega)))
        go_roundw
        case rel => exact ⟨k + 1, _, _, _, by omega, by go_num, rfl, by rw [V2.out]; exact (hown.bel inferInstance).upd Hole.enc_len ⟨z.f, min t y.t⟩ hz (by omega) rfl, inferInstance⟩
        case measure => simp [intOf]; omega
      · have V2 := Lib.hid (V.out.trans (addHole_no hlen.out hz htch))
        clear V
        go_wp2_with first | (go_at_call 11; refine (vecFits_c ⟨_, _, _⟩ ⟨_, _, _⟩ _).mono ?_; rintro e w1 ⟨rfl, hb1⟩; obtain ⟨hs1, hc1, hf1, hz1⟩ := std hb1; have hy1w0 := lt_bel (b := w.heap.size) hb1 (by first | assumption | (simp <;> omega)); have hy1w1 := lt_bel (b := w.heap.size + 1) hb1 (by first | assumption | (simp <;> omega)); have hy1q := lt_bel (b := q) hb1 (by first | assumption | (simp <;> omega))) | (at_builtin; refine wpList_app1 ei_holes (hown.bel inferInstance) (⟨max f x.t, min t y.t⟩ : Hole) rfl (.tmp 88) (.tmp 92) rfl rfl rfl rfl (by simp) Hole.enc_len Hole.enc_one (by omega) ?_; intro A3 c3 w3 ho3 hF3 hG3 hat3; obtain ⟨hs3, hc3, hf3, hz3⟩ := hF3)
        go_roundw
        case rel => exact ⟨k + 1, _, _, _, by omega, by go_num, rfl, by rw [V2.out]; exact ho3, inferInstance⟩
        case measure => simp [intOf]; omega
    · have E : endOf l t k = t := by simp [endOf, List.getElem?_eq_none (l := l) (i := k + 1) (by rw [← HL.out]; omega)]
      have V := Lib.hid (holesTo_succ (f := f) (v := v) hx E)
      clear hx E
      by_cases hge : t ≤ max f x.t
      · go_wp2
        go_roundw
        case rel => exact ⟨k + 1, _, _, _, by omega, by go_num, rfl, by rw [V.out, if_pos hge]; exact hown.bel inferInstance, inferInstance⟩
        case measure => simp [intOf]; omega
      have V2 := Lib.hid (V.out.trans (if_neg hge))
      clear V
      rcases ways1 (v.fits x.f) with g4 | g4
      · go_wp2_with (go_at_call 11; refine (vecFits_c ⟨_, _, _⟩ ⟨_, _, _⟩ _).mono ?_; rintro e w1 ⟨rfl, hb1⟩; obtain ⟨hs1, hc1, hf1, hz1⟩ := std hb1; have hy1w0 := lt_bel (b := w.heap.size) hb1 (by first | assumption | (simp <;> omega)); have hy1w1 := lt_bel (b := w.heap.size + 1) hb1 (by first | assumption | (simp <;> omega)))
        go_roundw
        case rel => exact ⟨k + 1, _, _, _, by omega, by go_num, rfl, by rw [V2.out, if_neg (by simp [g4])]; exact hown.bel inferInstance, inferInstance⟩
        case measure => simp [intOf]; omega
      have V := Lib.hid (V2.out.trans (if_pos g4))
      clear V2
      rcases Nat.eq_zero_or_pos n1 with h0 | h0
      · subst h0
        have E0 : holesTo l f t v k = [] := List.eq_nil_of_length_eq_zero hown.len.symm
        rw [E0] at hown V
        go_wp2_with first | (go_at_call 11; refine (vecFits_c ⟨_, _, _⟩ ⟨_, _, _⟩ _).mono ?_; rintro e w1 ⟨rfl, hb1⟩; obtain ⟨hs1, hc1, hf1, hz1⟩ := std hb1; have hy1w0 := lt_bel (b := w.heap.size) hb1 (by first | assumption | (simp <;> omega)); have hy1w1 := lt_bel (b := w.heap.size + 1) hb1 (by first | assumption | (simp <;> omega))) | (at_builtin; refine wpList_app1 ei_holes (hown.bel inferInstance) (⟨max f x.t, t⟩ : Hole) rfl (.tmp 88) (.tmp 92) rfl rfl rfl rfl (by simp) Hole.enc_len Hole.enc_one (by omega) ?_; intro A3 c3 w3 ho3 hF3 hG3 hat3; obtain ⟨hs3, hc3, hf3, hz3⟩ := hF3)
        go_roundw
        case rel => exact ⟨k + 1, _, _, _, by omega, by go_num, rfl, by rw [V.out]; exact ho3, inferInstance⟩
        case measure => simp [intOf]; omega
      obtain ⟨m, rfl⟩ : ∃ m, n1 = m + 1 := ⟨n1 - 1, by omega⟩
      obtain ⟨q, rfl, hql, hq⟩ := hown.addr h0
      have hqf := hown.frozen h0
      have hlen := Lib.hid hown.len
      have lq : LeN W0.heap.size q := ⟨hql⟩
      obtain ⟨z, hz, _, i0, i1⟩ := Holes.cells (hown.sl Hole.enc_len) (show m < m + 1 by omega)
      simp only [Nat.zero_add] at i0 i1
      have J0 : (0 : Int) ≤ (m : Int) := by omega
      have J1 : ((m + 1 : Nat) : Int) = (m : Int) + 1 := by omega
      have J2 : (m : Int) < (m : Int) + 1 := by omega
      have J3 : IntKind.i64.wrap (m : Int) = (m : Int) := IntWalk.i64_in _ (by omega)
      by_cases htch : z.t = max f x.t
      · have V2 := Lib.hid (V.out.trans (addHole_set hlen.out hz htch))
        clear V
        go_wp2_with (go_at_call 11; refine (vecFits_c ⟨_, _, _⟩ ⟨_, _, _⟩ _).mono ?_; rintro e w1 ⟨rfl, hb1⟩; obtain ⟨hs1, hc1, hf1, hz1⟩ := std hb1; have hy1w0 := lt_bel (b := w.heap.size) hb1 (by first | assumption | (simp <;> omega)); have hy1w1 := lt_bel (b := w.heap.size + 1) hb1 (by first | assumption | (simp <;> omega)); have hy1q := lt_bel (b := q) hb1 (by first | assumption | (simp <;> omega)))
        go_roundw
        case rel => exact ⟨k + 1, _, _, _, by omega, by go_num, rfl, by rw [V2.out]; exact (hown.bel inferInstance).upd Hole.enc_len ⟨z.f, t⟩ hz (by omega) rfl, inferInstance⟩
        case measure => simp [intOf]; omega
      · have V2 := Lib.hid (V.out.trans (addHole_no hlen.out hz htch))
        clear V
        go_wp2_with first | (go_at_call 11; refine (vecFits_c ⟨_, _, _⟩ ⟨_, _, _⟩ _).mono ?_; rintro e w1 ⟨rfl, hb1⟩; obtain ⟨hs1, hc1, hf1, hz1⟩ := std hb1; have hy1w0 := lt_bel (b := w.heap.size) hb1 (by first | assumption | (simp <;> omega)); have hy1w1 := lt_bel (b := w.heap.size + 1) hb1 (by first | assumption | (simp <;> omega)); have hy1q := lt_bel (b := q) hb1 (by first | assumption | (simp <;> omega))) | (at_builtin; refine wpList_app1 ei_holes (hown.bel inferInstance) (⟨max f x.t, t⟩ : Hole) rfl (.tmp 88) (.tmp 92) rfl rfl rfl rfl (by simp) Hole.enc_len Hole.enc_one (by omega) ?_; intro A3 c3 w3 ho3 hF3 hG3 hat3; obtain ⟨hs3, hc3, hf3, hz3⟩ := hF3)
        go_roundw
        case rel => exact ⟨k + 1, _, _, _, by omega, by go_num, rfl, by rw [V2.out]; exact ho3, inferInstance⟩
        case measure => simp [intOf]; omega
end Go.Proofs.Ytiheokjolaclnaa

/- The law on free intervals: its walk. -/
import Derived.Test.YtiheokjolaclnaaHolesDraw
import Derived.Test.YtiheokjolaclnaaHolesLaw
import Derived.Test.YtiheokjolaclnaaRowAid
namespace Go.Proofs.Ytiheokjolaclnaa
open Go.RowKit
def hinB (l : List Hole) (s : Int) : Bool := l.any fun h => decide (h.f ≤ s) && decide (s < h.t)
theorem hinB_iff (l : List Hole) (s : Int) : hinB l s = true ↔ hin l s := by
  simp [hinB, hin]
theorem hinB_succ {l : List Hole} {k : Nat} {x : Hole} (h : l[k]? = some x) (s : Int) : hinB (l.take (k + 1)) s = (hinB (l.take k) s || (decide (x.f ≤ s) && decide (s < x.t))) := by
  obtain ⟨hk, hx⟩ := List.getElem?_eq_some_iff.1 h
  rw [List.take_succ_eq_append_getElem hk, hx]
  simp [hinB]
theorem holes_nil {l : List Pt} {f t : Int} {v : Vec} (h : (profOk l && spanB f t && v.ok) = false) : holesR l f t v = [] := by unfold holesR; rw [h]; rfl
theorem holes_nil' {l : List Pt} {f t : Int} {v : Vec} (h : profOk l = false ∨ f < 0 ∨ 1000000000 < t ∨ t ≤ f ∨ v.ok = false) : holesR l f t v = [] := by
  refine holes_nil ?_
  rw [Bool.eq_false_iff]
  intro hh
  simp only [Bool.and_eq_true] at hh
  have := spanB_bd hh.1.2
  rcases h with h | h | h | h | h
  · rw [h] at hh; cases hh.1.1
  · omega
  · omega
  · omega
  · rw [h] at hh; cases hh.2
theorem holes_len {l : List Pt} {f t : Int} {v : Vec} : (holesR l f t v).length ≤ 200 := by
  unfold holesR
  split
  · rename_i h
    simp only [Bool.and_eq_true] at h
    have := holesTo_len l f t v l.length
    have := profOk_len h.1.1
    omega
  · simp
theorem ways_law (l : List Pt) (f t : Int) (v : Vec) : profOk l = false ∨ (profOk l = true ∧ f < 0) ∨ (profOk l = true ∧ 0 ≤ f ∧ 1000000000 < t) ∨ (profOk l = true ∧ 0 ≤ f ∧ t ≤ 1000000000 ∧ t ≤ f) ∨ (profOk l = true ∧ 0 ≤ f ∧ t ≤ 1000000000 ∧ f < t ∧ v.ok = false) ∨ (profOk l = true ∧ 0 ≤ f ∧ t ≤ 1000000000 ∧ f < t ∧ v.ok = true) := by
  cases profOk l with
  | false => simp
  | true =>
    cases v.ok <;> simp <;> omega
theorem holesOkT_c (A : Option Addr) (n c : Nat) (l : List Hole) (w : World) (h : Sl w 0 Hole.enc 2 A n l) (hn : n ≤ 2147483600) (hok : holesOk l = true) : Calls Try.prog 8 #[.slice A n c] w fun e w' => e = .returned (.bool true) ∧ Bel w w' := by
  have := holesOk_c A n c l w h hn
  rwa [hok] at this
theorem meetR_len {R : List Hole} (h : R.length ≤ 200) : (meetR R R).length ≤ 40000 := by
  unfold meetR
  split
  · refine Nat.le_trans (meetAll_len R R) ?_
    exact Nat.mul_le_mul h h
  · simp
theorem at_law {l : List Pt} {R : List Hole} {f t s : Int} {v : Vec} (h : profOk l = true) (hs : spanB f t = true) (hl : ∀ s, hin R s ↔ f ≤ s ∧ s < t ∧ v.fits (vfree l s) = true) (h1 : f ≤ s) (h2 : s < t) : hinB R s = v.fits (atR l s) := by
  have hb := spanB_bd hs
  have ht : timeB s = true := by simp only [timeB, withinB, Bool.and_eq_true, decide_eq_true_eq]; omega
  have e : atR l s = vfree l s := by simp [atR, h, ht]
  rw [e, Bool.eq_iff_iff, hinB_iff, hl s]
  simp [h1, h2]
set_option maxRecDepth 100000 in
set_option maxHeartbeats 4000000 in
theorem fnHoles_c (A : Option Addr) (n c : Nat) (w : World) (h : Bytes w A n) (hn : n ≤ maxLen) : Calls Try.prog 3 #[.slice A n c] w fun e w' => e = .returned (.bool true) ∧ Bel w w' := by
  unfold maxLen at hn
  by_cases hbig : 1048576 < n
  · go_enter Try.func3, Try.ntmps3
    go_wp2
    go_ret
    exact ⟨rfl, inferInstance⟩
  go_enter Try.func3, Try.ntmps3
  go_wp2_with first
    | (go_at_call 5; refine (drawHoles_c _ _ _ _ h (by omega)).mono ?_; rintro e w1 ⟨A1, n1, c1, l, a, b, d, f, t, rfl, hS1, hn1, hb1⟩; obtain ⟨hs1, hc1, hf1, hz1⟩ := std hb1; have hsame := Lib.hid (holes_same l f t ⟨a, b, d⟩); have hok := Lib.hid (holesR_ok l f t ⟨a, b, d⟩); have hlen := Lib.hid (holes_len (l := l) (f := f) (t := t) (v := ⟨a, b, d⟩)); rcases ways_law l f t ⟨a, b, d⟩ with g1 | ⟨g1, g2⟩ | ⟨g1, g2, g3⟩ | ⟨g1, g2, g3, g4⟩ | ⟨g1, g2, g3, g4, g5⟩ | ⟨g1, g2, g3, g4, g5⟩)
    | (go_at_call 6; refine (implHoles_c _ _ _ l ⟨a, b, d⟩ f t _ (hS1.bel inferInstance) (by omega)).mono ?_; rintro e w2 ⟨A2, n2, c2, rfl, hO2, hb2⟩; obtain ⟨hs2, hc2, hf2, hz2⟩ := std hb2; have hy2w10 := lt_bel (b := w1.heap.size) hb2 (by first | assumption | (simp <;> omega)); have hy2w11 := lt_bel (b := w1.heap.size + 1) hb2 (by first | assumption | (simp <;> omega)); have hn2 : n2 ≤ 200 := Nat.le_trans (Nat.le_of_eq hO2.len) hlen.out)
    | (go_at_call 7; refine (specHoles_c _ _ _ l ⟨a, b, d⟩ f t _ (hS1.bel inferInstance) (by omega)).mono ?_; rintro e w3 ⟨A3, n3, c3, rfl, hO3, hb3⟩; have e3 : n3 = n2 := (hO3.len.trans ((congrArg List.length hsame.out).trans hO2.len.symm)); subst e3; obtain ⟨hs3, hc3, hf3, hz3⟩ := std hb3; have hy3w10 := lt_bel (b := w1.heap.size) hb3 (by first | assumption | (simp <;> omega)); have hy3w11 := lt_bel (b := w1.heap.size + 1) hb3 (by first | assumption | (simp <;> omega)))
    | (go_at_call 8; refine (holesOkT_c _ _ _ (holesR l f t ⟨a, b, d⟩) _ (((hO2.bel inferInstance).sl Hole.enc_len).mono (Nat.zero_le _)) (by omega) hok.out).mono ?_; rintro e w4 ⟨rfl, hb4⟩; obtain ⟨hs4, hc4, hf4, hz4⟩ := std hb4; have hy4w10 := lt_bel (b := w1.heap.size) hb4 (by first | assumption | (simp <;> omega)); have hy4w11 := lt_bel (b := w1.heap.size + 1) hb4 (by first | assumption | (simp <;> omega)))
    | (go_at_call 9; refine (specProfOk_c _ _ _ l _ (hS1.bel inferInstance) (by omega)).mono ?_; rintro e w5 ⟨rfl, hb5⟩; obtain ⟨hs5, hc5, hf5, hz5⟩ := std hb5; have hy5w10 := lt_bel (b := w1.heap.size) hb5 (by first | assumption | (simp <;> omega)); have hy5w11 := lt_bel (b := w1.heap.size + 1) hb5 (by first | assumption | (simp <;> omega)))
    | (go_at_call 10; refine (specVecOk_c ⟨_, _, _⟩ _).mono ?_; rintro e w6 ⟨rfl, hb6⟩; obtain ⟨hs6, hc6, hf6, hz6⟩ := std hb6; have hy6w10 := lt_bel (b := w1.heap.size) hb6 (by first | assumption | (simp <;> omega)); have hy6w11 := lt_bel (b := w1.heap.size + 1) hb6 (by first | assumption | (simp <;> omega)))
  rotate_right 1
  all_goals try (
    go_ret
    refine ⟨?_, inferInstance⟩
    have e0 : n3 = 0 := hO2.len.trans (congrArg List.length (holes_nil' (by first | exact .inl g1 | exact .inr (.inl g2) | exact .inr (.inr (.inl g3)) | exact .inr (.inr (.inr (.inl g4))) | exact .inr (.inr (.inr (.inr g5))))))
    subst e0
    rfl
    done)
  have hsp : spanB f t = true := by simp only [spanB, timeB, withinB, Bool.and_eq_true, decide_eq_true_eq]; omega
  obtain ⟨_, _, hlaw⟩ := holesR_law g1 hsp g5
  have hlw := Lib.hid hlaw
  have hle := Lib.hid (length_le (v := ⟨a, b, d⟩) g1 hsp g5)
  have hme := Lib.hid (meet_length l f t ⟨a, b, d⟩)
  clear hlaw
  refine wp_gen ?_; intro W0 hW0
  have B0 : Bel w W0 := by rw [hW0]; infer_instance
  have p0 : W0.cell? ⟨w1.heap.size, 0, none⟩ = some (.slice A1 n1 c1) := by rw [hW0]; simp [go_sem, *]
  have v0 : W0.cell? ⟨w1.heap.size + 1, 0, none⟩ = some (I a) := by rw [hW0]; simp [go_sem, *]
  have v1 : W0.cell? ⟨w1.heap.size + 1, 1, none⟩ = some (I b) := by rw [hW0]; simp [go_sem, *]
  have v2 : W0.cell? ⟨w1.heap.size + 1, 2, none⟩ = some (I d) := by rw [hW0]; simp [go_sem, *]
  have hSP : Sl W0 0 Pt.enc 4 A1 n1 l := by rw [hW0]; exact hS1.bel inferInstance
  have hSH : Sl W0 0 Hole.enc 2 A2 n3 (holesR l f t ⟨a, b, d⟩) := by rw [hW0]; exact ((hO2.bel inferInstance).sl Hole.enc_len).mono (Nat.zero_le _)
  have hHL := Lib.hid hSH.len
  obtain ⟨q, hq⟩ : ∃ q, q = w1.heap.size := ⟨_, rfl⟩
  rw [← hq] at p0 v0 v1 v2 ⊢
  have hqW := World.block_lt_of_cell? _ _ p0
  have hqV := World.block_lt_of_cell? _ _ v0
  dsimp only at hqW hqV
  generalize holesR l f t ⟨a, b, d⟩ = R at *
  clear hW0 hq hs1 hc1 hf1 hz1 hb1 hs2 hc2 hf2 hz2 hb2 hs3 hc3 hf3 hz3 hb3 hO3 hs4 hc4 hf4 hz4 hb4 hs5 hc5 hf5 hz5 hb5 hs6 hc6 hf6 hz6 hb6 hO2 hsame hok hS1
  have hs0 := (std B0).1
  go_loopw [8] (fun i wr => ∃ s : Int, i = I s ∧ f ≤ s ∧ s ≤ t ∧ Bel W0 wr) (fun i _ => (t - intOf i).toNat)
  case atStart => exact ⟨f, rfl, by omega, by omega, inferInstance⟩
  case round =>
    obtain ⟨s, rfl, hs1, hs2, hbr⟩ := hrel
    have hsr := (std hbr).1
    obtain ⟨_, hcr, hfr, hzr⟩ := std hbr
    by_cases hlt : s < t ∧ s < f + 60
    case neg =>
      have hmm := Lib.hid (meetR_len hlen.out)
      have hle1 := hle.out
      rcases (show t ≤ s ∨ (s < t ∧ f + 60 ≤ s) by omega) with h1 | ⟨h1, h2⟩
      all_goals clear hlt
      all_goals go_wp2_with first
        | (go_at_call 13; (with_reducible refine (length_c A2 n3 _ R _ (hSH.bel inferInstance) (by omega)).mono ?_); rintro e w7 ⟨rfl, hb7⟩; obtain ⟨hs7, hc7, hf7, hz7⟩ := std hb7)
        | (go_at_call 14; refine (meet_c A2 A2 n3 _ n3 _ R R _ (hSH.bel inferInstance) (hSH.bel inferInstance) (by omega) (by omega)).mono ?_; rintro e w8 ⟨A8, n8, c8, rfl, hO8, hb8⟩; have hn8 : n8 ≤ 40000 := Nat.le_trans (Nat.le_of_eq hO8.len) hmm.out; obtain ⟨hs8, hc8, hf8, hz8⟩ := std hb8)
        | (go_at_call 13; (with_reducible refine (length_c A8 n8 _ (meetR R R) _ (((hO8.bel inferInstance).sl Hole.enc_len).mono (Nat.zero_le _)) (by omega)).mono ?_); rintro e w9 ⟨rfl, hb9⟩; obtain ⟨hs9, hc9, hf9, hz9⟩ := std hb9)
      all_goals go_ret
      all_goals exact ⟨by rw [hme.out]; simp, inferInstance⟩
    obtain ⟨hlt1, hlt2⟩ := hlt
    have hat := Lib.hid (at_law g1 hsp hlw.out hs1 hlt1)
    go_wp2
    go_loopw [9, 79] (fun iv k wr2 => ∃ j : Nat, j ≤ n3 ∧ k = .int .i64 j ∧ iv = .bool (hinB (R.take j) s) ∧ Bel W0 wr2) (fun _ k _ => n3 - (intOf k).toNat)
    case atStart => exact ⟨0, by omega, rfl, rfl, inferInstance⟩
    case round =>
      clear hsr hcr hfr hzr
      obtain ⟨j, hj, rfl, rfl, hbi⟩ := hrel
      have hsi := (std hbi).1
      obtain ⟨_, hci, hfi, hzi⟩ := std hbi
      by_cases hjn : j < n3
      case pos =>
        obtain ⟨bb, oo, rfl⟩ := hSH.addr (by omega)
        obtain ⟨x, hx, hlb, d0, d1⟩ := Holes.cells (hSH.bel hbi) hjn
        have hxt := Lib.hid (hinB_succ hx s)
        have hlb2 := World.block_lt_of_cell? _ _ d0
        clear hx
        by_cases hc1 : x.f ≤ s
        all_goals by_cases hc2 : s < x.t
        all_goals go_wp2
        all_goals (
          go_roundw
          case rel => exact ⟨j + 1, by omega, by go_num, by rw [hxt.out]; simp [hc1, hc2], inferInstance⟩
          case measure => simp [intOf]; omega)
      obtain rfl : j = n3 := by omega
      have HPA := fun W hS => profAt_c A1 n1 c1 l s W hS (by omega)
      obtain ⟨vv, hvv⟩ : ∃ vv, atR l s = vv := ⟨_, rfl⟩
      have e : hinB (R.take j) s = (⟨a, b, d⟩ : Vec).fits vv := by rw [← hvv, ← hat.out, hHL.out, List.take_length]
      simp only [hvv] at HPA
      clear hvv
      rw [e]
      clear e
      go_wp2
      (refine wp_region_bel (by kernel_rfl) (by kernel_rfl) (fun hx => ?_); (repeat (any_goals (first | go_big_quiet_step ((first | (go_at_call 12; exact Calls.inBel (HPA _ ((hSP.bel hbi).belW))) | (go_at_call 11; exact Calls.inBel (vecFits_c ⟨_, _, _⟩ ⟨_, _, _⟩ _)))) | quiet_step ((first | (go_at_call 12; exact Calls.inBel (HPA _ ((hSP.bel hbi).belW))) | (go_at_call 11; exact Calls.inBel (vecFits_c ⟨_, _, _⟩ ⟨_, _, _⟩ _)))) | (refine wpQuiet_step (fun K hK => ?_); go_simp; split <;> (refine hK _ ?_; clear hK K))))); all_goals (refine wpQuiet_nil ?_; rintro _ ⟨⟨w2, hb2⟩, rfl⟩; (try dsimp only)))
      obtain ⟨hs2', _, _, _⟩ := std hb2
      go_wp2
      go_roundw
      case rel => exact ⟨s + 1, by go_num, by omega, by omega, inferInstance⟩
      case measure => simp [intOf]; omega
end Go.Proofs.Ytiheokjolaclnaa

/- The reference's ProfMin, ProfNew. -/
import Derived.Test.YtiheokjolaclnaaVec
namespace Go.Proofs.Ytiheokjolaclnaa
open Go.RowKit
def vmin (l : List Pt) (f t : Int) : Vec := l.foldl (fun v x => if f ≤ x.t ∧ x.t < t then v.lst x.f else v) (vfree l f)
def vminR (l : List Pt) (f t : Int) : Vec × Bool := orNone (profOk l && timeB f && timeB t && !decide (t ≤ f)) (vmin l f t)
def vminTo (l : List Pt) (f t : Int) (k : Nat) : Vec := (l.take k).foldl (fun v x => if f ≤ x.t ∧ x.t < t then v.lst x.f else v) (vfree l f)
theorem vminTo_succ {l : List Pt} {k : Nat} {x : Pt} (h : l[k]? = some x) (f t : Int) : vminTo l f t (k + 1) = if f ≤ x.t ∧ x.t < t then (vminTo l f t k).lst x.f else vminTo l f t k := by
  unfold vminTo
  rw [List.take_add_one, h]
  simp [List.foldl_append]
set_option maxHeartbeats 2000000 in
theorem specProfMin_c (A : Option Addr) (n c : Nat) (l : List Pt) (f t : Int) (w : World) (h : Sl w 0 Pt.enc 4 A n l) (hn : n ≤ 2147483648) : Calls Try.prog 29 #[.agg #[.slice A n c], I f, I t] w
    fun e w' => e = .returned (.tuple #[.agg #[I (vminR l f t).1.a, I (vminR l f t).1.b, I (vminR l f t).1.c], .bool (vminR l f t).2]) ∧ Bel w w' := by
  have HL := Lib.hid h.len
  rcases ways4 (profOk l) (timeB f) (timeB t) (!decide (t ≤ f)) with g1 | ⟨g1, g2⟩ | ⟨g1, g2, g3⟩ | ⟨g1, g2, g3, g4⟩ | ⟨g1, g2, g3, g4⟩
  case inr.inr.inr.inr =>
    simp only [Bool.not_eq_eq_eq_not, Bool.not_true] at g4
    go_enter Try.func29, Try.ntmps29
    go_wp2_with first | (go_at_call 9; refine (specProfOk_c _ _ _ _ _ (h.bel inferInstance) hn).mono ?_; rintro e w1 ⟨rfl, hb1⟩; obtain ⟨hs1, hc1, hf1, hz1⟩ := std hb1; have hy1w0 := lt_bel (b := w.heap.size) hb1 (by first | assumption | (simp <;> omega)); have hy1w1 := lt_bel (b := w.heap.size + 1) hb1 (by first | assumption | (simp <;> omega))) | (go_at_call 34; refine (specTime_c _ _).mono ?_; rintro e w1 ⟨rfl, rfl⟩) | (go_at_call 32; refine (specAt_c _ _ _ _ _ _ (h.bel inferInstance) hn).mono ?_; rintro e w1 ⟨rfl, hb1⟩; obtain ⟨hs1, hc1, hf1, hz1⟩ := std hb1; have hy1w0 := lt_bel (b := w.heap.size) hb1 (by first | assumption | (simp <;> omega)); have hy1w1 := lt_bel (b := w.heap.size + 1) hb1 (by first | assumption | (simp <;> omega)))
    obtain ⟨g, hg⟩ : ∃ g, g = w1.heap.size := ⟨_, rfl⟩
    rw [← hg]
    refine wp_gen ?_; intro W0 hW0
    have B0 : Bel w W0 := by rw [hW0]; infer_instance
    have VA : VecAt W0 g (vminTo l f t 0) := by rw [hW0, hg]; exact VecAt.new _ _ _ _ _
    have y0 : w.heap.size + 1 < g := by omega
    have lg : LeN w.heap.size g := ⟨by omega⟩
    have VR : VecAt W0 (w.heap.size + 1) ⟨0, 0, 0⟩ := by rw [hW0]; simp [VecAt, go_sem, *]
    have HS := h.bel B0
    have lW : LeN g W0.heap.size := ⟨Nat.le_of_lt VA.2.2.2.2⟩
    clear hW0 hg
    go_loopw [36] (fun i wr => ∃ k : Nat, k ≤ n ∧ i = .int .i64 k ∧ Bl g W0 wr ∧ VecAt wr g (vminTo l f t k)) (fun i _ => n - (intOf i).toNat)
    case atStart => exact ⟨0, by omega, rfl, inferInstance, VA⟩
    case round =>
      clear VA
      obtain ⟨k, hk, rfl, hb0, VA⟩ := hrel
      have hs0 : App g W0 wr := ⟨hb0.out⟩
      have VR1 := VR.bl hb0 y0
      have VA0 := VA
      obtain ⟨a0, a1, a2, af, al⟩ := VA
      by_cases hlt : k < n
      case neg =>
        obtain rfl : k = n := by omega
        have e : vminTo l f t k = vmin l f t := by unfold vminTo vmin; rw [List.take_of_length_le (by rw [HL.out]; exact Nat.le_refl _)]
        rw [e] at a0 a1 a2
        obtain ⟨r0, r1, r2, rf, rl⟩ := VR1
        go_wp2
        (refine bodyPost_ret (v := .tuple #[.agg #[I (vminR l f t).1.a, I (vminR l f t).1.b, I (vminR l f t).1.c], .bool (vminR l f t).2]) ?_ rfl ?_; focus (simp [results, Try.results29, go_sem, *, vminR, orNone]; done))
        exact ⟨rfl, inferInstance⟩
      have HK : Sl wr 0 Pt.enc 4 A n l := h.bel inferInstance
      obtain ⟨b, o, rfl⟩ := HK.addr (by omega)
      obtain ⟨x, hx, hlb, d0, d1, d2, d3⟩ := Pts.cells HK hlt
      have V := Lib.hid (vminTo_succ hx f t)
      clear hx
      by_cases g5 : f ≤ x.t ∧ x.t < t
      · obtain ⟨g5, g6⟩ := g5
        have V := Lib.hid (V.out.trans (if_pos ⟨g5, g6⟩))
        go_wp2_with first | (go_at_call 60; refine (specVecMin_c ⟨_, _, _⟩ ⟨_, _, _⟩ _).mono ?_; rintro e w1 ⟨rfl, hb1⟩; obtain ⟨hs1, hc1, hf1, hz1⟩ := std hb1; have hy1wr0 := lt_bel (b := wr.heap.size) hb1 (by first | assumption | (simp <;> omega))) 
        go_roundw
        case rel => exact ⟨k + 1, by omega, by go_num, inferInstance, by rw [V.out]; exact VecAt.set (VA0.bel inferInstance) _ _ _⟩
        case measure => simp [intOf]; omega
      · have V := Lib.hid (V.out.trans (if_neg g5))
        have g6 : x.t < f ∨ (f ≤ x.t ∧ t ≤ x.t) := by omega
        rcases g6 with g6 | ⟨g6, g7⟩
        all_goals go_wp2
        all_goals
          go_roundw
          case rel => exact ⟨k + 1, by omega, by go_num, inferInstance, by rw [V.out]; simp [VecAt, go_sem, *]⟩
          case measure => simp [intOf]; omega
  all_goals (try simp only [Bool.not_eq_eq_eq_not, Bool.not_false] at g4)
  all_goals go_enter Try.func29, Try.ntmps29
  all_goals go_wp2_with first | (go_at_call 9; refine (specProfOk_c _ _ _ _ _ (h.bel inferInstance) hn).mono ?_; rintro e w1 ⟨rfl, hb1⟩; obtain ⟨hs1, hc1, hf1, hz1⟩ := std hb1; have hy1w0 := lt_bel (b := w.heap.size) hb1 (by first | assumption | (simp <;> omega)); have hy1w1 := lt_bel (b := w.heap.size + 1) hb1 (by first | assumption | (simp <;> omega))) | (go_at_call 34; refine (specTime_c _ _).mono ?_; rintro e w1 ⟨rfl, rfl⟩)
  all_goals (refine bodyPost_ret (v := .tuple #[.agg #[I (vminR l f t).1.a, I (vminR l f t).1.b, I (vminR l f t).1.c], .bool (vminR l f t).2]) ?_ rfl ?_; focus (simp [results, Try.results29, go_sem, *, vminR, orNone]; done))
  all_goals exact ⟨rfl, inferInstance⟩
end Go.Proofs.Ytiheokjolaclnaa

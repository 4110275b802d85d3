/- The program's ProfAt, HolesOk, Length, Meet, Holes. -/
import Derived.Test.YtiheokjolaclnaaHoles
namespace Go.Proofs.Ytiheokjolaclnaa
open Go.RowKit
def atR (l : List Pt) (t : Int) : Vec := if profOk l && timeB t then vfree l t else ⟨0, 0, 0⟩
set_option maxHeartbeats 1000000 in
theorem profAt_c (A : Option Addr) (n c : Nat) (l : List Pt) (t : Int) (w : World) (h : Sl w 0 Pt.enc 4 A n l) (hn : n ≤ 2147483600) : Calls Try.prog 12 #[.agg #[.slice A n c], I t] w
    fun e w' => e = .returned (.agg #[I (atR l t).a, I (atR l t).b, I (atR l t).c]) ∧ Bel w w' := by
  rcases ways2 (profOk l) (timeB t) with g1 | ⟨g1, g2⟩ | ⟨g1, g2⟩
  all_goals go_enter Try.func12, Try.ntmps12
  all_goals go_wp2_with (first | (go_at_call 26; refine (profOk_c _ _ _ _ _ (h.bel inferInstance) (by omega)).mono ?_; rintro e w1 ⟨rfl, hb1⟩; obtain ⟨hs1, hc1, hf1, hz1⟩ := std hb1; have hy1w0 := lt_bel (b := w.heap.size) hb1 (by first | assumption | (simp <;> omega)); have hy1w1 := lt_bel (b := w.heap.size + 1) hb1 (by first | assumption | (simp <;> omega))) | (go_at_call 36; refine (isTime_c _ _).mono ?_; rintro e w1 ⟨rfl, rfl⟩) | (go_at_call 37; refine (free_c _ _ _ _ _ _ (h.bel inferInstance) (by omega)).mono ?_; rintro e w1 ⟨rfl, hb1⟩; obtain ⟨hs1, hc1, hf1, hz1⟩ := std hb1; have hy1w0 := lt_bel (b := w.heap.size) hb1 (by first | assumption | (simp <;> omega)); have hy1w1 := lt_bel (b := w.heap.size + 1) hb1 (by first | assumption | (simp <;> omega))))
  all_goals (refine bodyPost_ret (v := .agg #[I (atR l t).a, I (atR l t).b, I (atR l t).c]) ?_ rfl ?_; focus (simp [results, Try.results12, go_sem, *, atR]; done))
  all_goals exact ⟨rfl, inferInstance⟩
/-! ## valid intervals -/
def okHole (l : List Hole) (i : Nat) : Bool :=
  match l[i]? with
  | none => true
  | some x => spanB x.f x.t && (i == 0 || match l[i - 1]? with | none => true | some y => !decide (x.f ≤ y.t))
def holesOk (l : List Hole) : Bool := (List.range l.length).all (okHole l)
set_option maxHeartbeats 1000000 in
theorem holesOk_c (A : Option Addr) (n c : Nat) (l : List Hole) (w : World) (h : Sl w 0 Hole.enc 2 A n l) (hn : n ≤ 2147483600) : Calls Try.prog 8 #[.slice A n c] w fun e w' => e = .returned (.bool (holesOk l)) ∧ Bel w w' := by
  have HL := Lib.hid h.len
  go_enter Try.func8, Try.ntmps8
  go_wp2
  go_loopw [7] (fun i wr => ∃ k : Nat, k ≤ n ∧ i = .int .i64 k ∧ Bel w wr ∧ (List.range k).all (okHole l) = true) (fun i _ => n - (intOf i).toNat)
  case atStart => exact ⟨0, by omega, rfl, inferInstance, rfl⟩
  case round =>
    obtain ⟨k, hk, rfl, hb0, hall⟩ := hrel
    obtain ⟨hs0, hc0, hf0, hz0⟩ := std hb0
    by_cases hlt : k < n
    case neg =>
      obtain rfl : k = n := by omega
      go_wp2
      go_ret
      refine ⟨?_, inferInstance⟩
      simp [holesOk, ← HL.out]
      simpa using hall
    have HK := h.bel hb0
    obtain ⟨b, o, rfl⟩ := HK.addr (by omega)
    obtain ⟨x, hx, hlb, d0, d1⟩ := Holes.cells HK hlt
    rcases Nat.eq_zero_or_pos k with h0 | h0
    · subst h0
      have OK := Lib.hid (show okHole l 0 = spanB x.f x.t by simp [okHole, hx])
      clear hx
      simp only [Nat.zero_mul, Nat.add_zero] at d0 d1
      rcases ways1 (spanB x.f x.t) with g1 | g1
      all_goals go_wp2
      all_goals (refine wp_region_bel (by kernel_rfl) (by kernel_rfl) (fun hx => ?_); (repeat (any_goals (first | go_big_quiet_step ((first | (go_at_call 27; exact Calls.inBel_same (isSpan_c _ _ _)))) | quiet_step ((first | (go_at_call 27; exact Calls.inBel_same (isSpan_c _ _ _)))) | (refine wpQuiet_step (fun K hK => ?_); go_simp; split <;> (refine hK _ ?_; clear hK K))))); all_goals (refine wpQuiet_nil ?_; rintro _ ⟨⟨w2, hb2⟩, rfl⟩; (try dsimp only)))
      all_goals obtain ⟨hs2, hc2, hf2, hz2⟩ := std hb2
      all_goals go_wp2
      case roundEnd =>
        go_roundw
        case rel => exact ⟨1, by omega, rfl, inferInstance, by simp [OK.out, g1]⟩
        case measure => simp [intOf]; omega
      go_ret
      refine ⟨?_, inferInstance⟩
      have e : okHole l 0 = false := by rw [OK.out, g1]
      simp [holesOk, ← HL.out, range_no hlt e]
    · obtain ⟨j, rfl⟩ : ∃ j, k = j + 1 := ⟨k - 1, by omega⟩
      obtain ⟨y, hy, _, e0, e1⟩ := Holes.cells HK (show j < n by omega)
      have OK := Lib.hid (show okHole l (j + 1) = (spanB x.f x.t && !decide (x.f ≤ y.t)) by simp [okHole, hx, hy])
      clear hx hy
      have J1 : ((j + 1 : Nat) : Int) = (j : Int) + 1 := by omega
      rw [J1]
      rcases ways2 (spanB x.f x.t) (!decide (x.f ≤ y.t)) with g1 | ⟨g1, g2⟩ | ⟨g1, g2⟩
      all_goals (try simp only [Bool.not_eq_eq_eq_not, Bool.not_true, Bool.not_false] at g2)
      all_goals go_wp2
      all_goals (refine wp_region_bel (by kernel_rfl) (by kernel_rfl) (fun hx => ?_); (repeat (any_goals (first | go_big_quiet_step ((first | (go_at_call 27; exact Calls.inBel_same (isSpan_c _ _ _)))) | quiet_step ((first | (go_at_call 27; exact Calls.inBel_same (isSpan_c _ _ _)))) | (refine wpQuiet_step (fun K hK => ?_); go_simp; split <;> (refine hK _ ?_; clear hK K))))); all_goals (refine wpQuiet_nil ?_; rintro _ ⟨⟨w2, hb2⟩, rfl⟩; (try dsimp only)))
      all_goals obtain ⟨hs2, hc2, hf2, hz2⟩ := std hb2
      all_goals go_wp2
      case roundEnd =>
        go_roundw
        case rel => exact ⟨j + 1 + 1, by omega, by go_num, inferInstance, range_yes hall (by simp only [OK.out, g1, g2]; rfl)⟩
        case measure => simp [intOf]; omega
      all_goals go_ret
      all_goals refine ⟨?_, inferInstance⟩
      all_goals (have e : okHole l (j + 1) = false := by (rw [OK.out]; simp [*]))
      all_goals simp [holesOk, ← HL.out, range_no hlt e]
end Go.Proofs.Ytiheokjolaclnaa

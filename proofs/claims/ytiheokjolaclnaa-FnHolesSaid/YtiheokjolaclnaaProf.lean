/- Profiles. -/
import Derived.Test.YtiheokjolaclnaaRes
namespace Go.Proofs.Ytiheokjolaclnaa
open Go.RowKit
def okPt (l : List Pt) (i : Nat) : Bool :=
  match l[i]? with
  | none => true
  | some x => timeB x.t && x.f.ok && (i == 0 || match l[i - 1]? with | none => true | some y => !decide (x.t ≤ y.t) && !decide (y.f = x.f))
def profOk (l : List Pt) : Bool := withinB l.length 1 200 && decide (l[0]?.map Pt.t = some 0) && (List.range l.length).all (okPt l)
set_option maxHeartbeats 1000000 in
theorem profOk_c (A : Option Addr) (n c : Nat) (l : List Pt) (w : World) (h : Sl w 0 Pt.enc 4 A n l) (hn : n ≤ 2147483648) : Calls Try.prog 26 #[.agg #[.slice A n c]] w fun e w' => e = .returned (.bool (profOk l)) ∧ Bel w w' := by
  have HL := Lib.hid h.len
  by_cases h1 : withinB n 1 200 = true
  case neg =>
    go_enter Try.func26, Try.ntmps26
    go_wp2_with (go_at_call 40; refine (within_c _ _ _ _).mono ?_; rintro e w1 ⟨rfl, rfl⟩)
    all_goals (go_ret; refine ⟨?_, inferInstance⟩; simp [profOk, ← HL.out, h1])
  have hpos : 0 < n := by simp [withinB] at h1; omega
  obtain ⟨b, o, rfl⟩ := h.addr hpos
  obtain ⟨x, hx, hlt, c0, c1, c2, c3⟩ := Pts.cells h hpos
  have HX := Lib.hid hx
  clear hx
  simp only [Nat.zero_mul, Nat.add_zero] at c0 c1 c2 c3
  by_cases h2 : x.t = 0
  case neg =>
    have h2' : (x.t != 0) = true := by simpa using h2
    go_enter Try.func26, Try.ntmps26
    go_wp2_with (go_at_call 40; refine (within_c _ _ _ _).mono ?_; rintro e w1 ⟨rfl, rfl⟩)
    all_goals go_ret
    all_goals (refine ⟨?_, inferInstance⟩; simp [profOk, ← HL.out, HX.out, h2])
  have h2' : (x.t != 0) = false := by simpa using h2
  go_enter Try.func26, Try.ntmps26
  go_wp2_with (go_at_call 40; refine (within_c _ _ _ _).mono ?_; rintro e w1 ⟨rfl, rfl⟩)
  refine wp_gen ?_; intro W0 hW0
  have B0 : Bel w W0 := by rw [hW0]; infer_instance
  have y0 : w.heap.size < W0.heap.size := by rw [hW0]; simp
  have c0 := congrArg (World.cell? · ⟨w.heap.size, 0, none⟩) hW0; simp at c0
  have HS := h.bel B0
  clear hW0
  go_loopw [21] (fun i wr => ∃ k : Nat, k ≤ n ∧ i = .int .i64 k ∧ Bel W0 wr ∧ (List.range k).all (okPt l) = true) (fun i _ => n - (intOf i).toNat)
  case atStart => exact ⟨0, by omega, rfl, inferInstance, rfl⟩
  case round =>
    obtain ⟨k, hk, rfl, hb0, hall⟩ := hrel
    obtain ⟨hs0, hc0, hf0, hz0⟩ := std hb0
    have y1 := lt_bel hb0 y0
    by_cases hlt : k < n
    case neg =>
      obtain rfl : k = n := by omega
      go_wp2
      go_ret
      refine ⟨?_, inferInstance⟩
      have h0 : l[0]?.map Pt.t = some 0 := by rw [HX.out]; simp [h2]
      simp [profOk, ← HL.out, h1, h0]
      simpa using hall
    obtain ⟨x1, hx1, hlt1, d0, d1, d2, d3⟩ := Pts.cells (HS.bel hb0) hlt
    rcases Nat.eq_zero_or_pos k with h0 | h0
    · subst h0
      have OK := Lib.hid (show okPt l 0 = (timeB x1.t && x1.f.ok) by simp [okPt, hx1])
      clear hx1
      simp only [Nat.zero_mul, Nat.add_zero] at d0 d1 d2 d3
      go_wp2
      (refine wp_region_bel (by kernel_rfl) (by kernel_rfl) (fun hx => ?_); (repeat (any_goals (first | go_big_quiet_step ((first | (go_at_call 36; exact Calls.inBel_same (isTime_c _ _)) | (go_at_call 28; exact Calls.inBel (vecOk_c _ _)))) | quiet_step ((first | (go_at_call 36; exact Calls.inBel_same (isTime_c _ _)) | (go_at_call 28; exact Calls.inBel (vecOk_c _ _)))) | (refine wpQuiet_step (fun K hK => ?_); go_simp; split <;> (refine hK _ ?_; clear hK K))))); all_goals (refine wpQuiet_nil ?_; rintro _ ⟨⟨w2, hb2⟩, rfl⟩; (try dsimp only)))
      all_goals obtain ⟨hs2, hc2, hf2, hz2⟩ := std hb2
      all_goals go_wp2
      · go_roundw
        case rel => exact ⟨1, by omega, rfl, inferInstance, by simp [OK.out, *]⟩
        case measure => simp [intOf]; omega
      all_goals go_ret
      all_goals refine ⟨?_, inferInstance⟩
      all_goals (have e : okPt l 0 = false := by (simp [OK.out, *]))
      all_goals simp [profOk, ← HL.out, range_no hlt e]
    · obtain ⟨j, rfl⟩ : ∃ j, k = j + 1 := ⟨k - 1, by omega⟩
      obtain ⟨y, hy, _, e0, e1, e2, e3⟩ := Pts.cells (HS.bel hb0) (show j < n by omega)
      have OK := Lib.hid (show okPt l (j + 1) = (timeB x1.t && x1.f.ok && (!decide (x1.t ≤ y.t) && !decide (y.f = x1.f))) by simp [okPt, hx1, hy])
      clear hx1 hy
      have J1 : ((j + 1 : Nat) : Int) = (j : Int) + 1 := by omega
      rw [J1]
      rcases ways4 (timeB x1.t) x1.f.ok (!decide (x1.t ≤ y.t)) (!decide (y.f = x1.f)) with g1 | ⟨g1, g2⟩ | ⟨g1, g2, g3⟩ | ⟨g1, g2, g3, g4⟩ | ⟨g1, g2, g3, g4⟩
      all_goals (try simp only [Bool.not_eq_eq_eq_not, Bool.not_true, Bool.not_false] at g3 g4); (try simp only [Bool.not_eq_eq_eq_not, Bool.not_false] at g3)
      all_goals go_wp2
      all_goals (refine wp_region_bel (by kernel_rfl) (by kernel_rfl) (fun hx => ?_); (repeat (any_goals (first | go_big_quiet_step ((first | (go_at_call 36; exact Calls.inBel_same (isTime_c _ _)) | (go_at_call 28; exact Calls.inBel (vecOk_c _ _)))) | quiet_step ((first | (go_at_call 36; exact Calls.inBel_same (isTime_c _ _)) | (go_at_call 28; exact Calls.inBel (vecOk_c _ _)))) | (refine wpQuiet_step (fun K hK => ?_); go_simp; split <;> (refine hK _ ?_; clear hK K))))); all_goals (refine wpQuiet_nil ?_; rintro _ ⟨⟨w2, hb2⟩, rfl⟩; (try dsimp only)))
      all_goals obtain ⟨hs2, hc2, hf2, hz2⟩ := std hb2
      all_goals go_wp2
      case roundEnd =>
        go_roundw
        case rel => exact ⟨j + 1 + 1, by omega, by go_num, inferInstance, range_yes hall (by simp only [OK.out, g1, g2, g3, g4]; rfl)⟩
        case measure => simp [intOf]; omega
      all_goals go_ret
      all_goals refine ⟨?_, inferInstance⟩
      all_goals (have e : okPt l (j + 1) = false := by (rw [OK.out]; simp [*]))
      all_goals simp [profOk, ← HL.out, range_no hlt e]
set_option maxHeartbeats 1000000 in
theorem specProfOk_c (A : Option Addr) (n c : Nat) (l : List Pt) (w : World) (h : Sl w 0 Pt.enc 4 A n l) (hn : n ≤ 2147483648) : Calls Try.prog 9 #[.agg #[.slice A n c]] w fun e w' => e = .returned (.bool (profOk l)) ∧ Bel w w' := by
  have HL := Lib.hid h.len
  by_cases h1 : withinB n 1 200 = true
  case neg =>
    have h1' : (n : Int) < 1 ∨ (200 : Int) < n := by simp [withinB] at h1; omega
    rcases h1' with h1' | h1'
    all_goals go_enter Try.func9, Try.ntmps9
    all_goals go_wp2
    all_goals (go_ret; refine ⟨?_, inferInstance⟩; simp [profOk, ← HL.out, h1])
  have hpos : 0 < n := by simp [withinB] at h1; omega
  have hle : n ≤ 200 := by simp [withinB] at h1; omega
  obtain ⟨b, o, rfl⟩ := h.addr hpos
  obtain ⟨x, hx, hlt, c0, c1, c2, c3⟩ := Pts.cells h hpos
  have HX := Lib.hid hx
  clear hx
  simp only [Nat.zero_mul, Nat.add_zero] at c0 c1 c2 c3
  by_cases h2 : x.t = 0
  case neg =>
    have h2' : (x.t != 0) = true := by simpa using h2
    go_enter Try.func9, Try.ntmps9
    go_wp2
    all_goals go_ret
    all_goals (refine ⟨?_, inferInstance⟩; simp [profOk, ← HL.out, HX.out, h2])
  have h2' : (x.t != 0) = false := by simpa using h2
  go_enter Try.func9, Try.ntmps9
  go_wp2
  refine wp_gen ?_; intro W0 hW0
  have B0 : Bel w W0 := by rw [hW0]; infer_instance
  have y0 : w.heap.size < W0.heap.size := by rw [hW0]; simp
  have c0 := congrArg (World.cell? · ⟨w.heap.size, 0, none⟩) hW0; simp at c0
  have HS := h.bel B0
  clear hW0
  go_loopw [26] (fun i wr => ∃ k : Nat, k ≤ n ∧ i = .int .i64 k ∧ Bel W0 wr ∧ (List.range k).all (okPt l) = true) (fun i _ => n - (intOf i).toNat)
  case atStart => exact ⟨0, by omega, rfl, inferInstance, rfl⟩
  case round =>
    obtain ⟨k, hk, rfl, hb0, hall⟩ := hrel
    obtain ⟨hs0, hc0, hf0, hz0⟩ := std hb0
    have y1 := lt_bel hb0 y0
    by_cases hlt : k < n
    case neg =>
      obtain rfl : k = n := by omega
      go_wp2
      go_ret
      refine ⟨?_, inferInstance⟩
      have h0 : l[0]?.map Pt.t = some 0 := by rw [HX.out]; simp [h2]
      simp [profOk, ← HL.out, h1, h0]
      simpa using hall
    obtain ⟨x1, hx1, hlt1, d0, d1, d2, d3⟩ := Pts.cells (HS.bel hb0) hlt
    rcases Nat.eq_zero_or_pos k with h0 | h0
    · subst h0
      have OK := Lib.hid (show okPt l 0 = (timeB x1.t && x1.f.ok) by simp [okPt, hx1])
      clear hx1
      simp only [Nat.zero_mul, Nat.add_zero] at d0 d1 d2 d3
      go_wp2
      (refine wp_region_bel (by kernel_rfl) (by kernel_rfl) (fun hx => ?_); (repeat (any_goals (first | go_big_quiet_step ((first | (go_at_call 34; exact Calls.inBel_same (specTime_c _ _)) | (go_at_call 10; exact Calls.inBel (specVecOk_c _ _)))) | quiet_step ((first | (go_at_call 34; exact Calls.inBel_same (specTime_c _ _)) | (go_at_call 10; exact Calls.inBel (specVecOk_c _ _)))) | (refine wpQuiet_step (fun K hK => ?_); go_simp; split <;> (refine hK _ ?_; clear hK K))))); all_goals (refine wpQuiet_nil ?_; rintro _ ⟨⟨w2, hb2⟩, rfl⟩; (try dsimp only)))
      all_goals obtain ⟨hs2, hc2, hf2, hz2⟩ := std hb2
      all_goals go_wp2
      · go_roundw
        case rel => exact ⟨1, by omega, rfl, inferInstance, by simp [OK.out, *]⟩
        case measure => simp [intOf]; omega
      all_goals go_ret
      all_goals refine ⟨?_, inferInstance⟩
      all_goals (have e : okPt l 0 = false := by (simp [OK.out, *]))
      all_goals simp [profOk, ← HL.out, range_no hlt e]
    · obtain ⟨j, rfl⟩ : ∃ j, k = j + 1 := ⟨k - 1, by omega⟩
      obtain ⟨y, hy, _, e0, e1, e2, e3⟩ := Pts.cells (HS.bel hb0) (show j < n by omega)
      have OK := Lib.hid (show okPt l (j + 1) = (timeB x1.t && x1.f.ok && (!decide (x1.t ≤ y.t) && !decide (y.f = x1.f))) by simp [okPt, hx1, hy])
      clear hx1 hy
      have J1 : ((j + 1 : Nat) : Int) = (j : Int) + 1 := by omega
      rw [J1]
      rcases ways4 (timeB x1.t) x1.f.ok (!decide (x1.t ≤ y.t)) (!decide (y.f = x1.f)) with g1 | ⟨g1, g2⟩ | ⟨g1, g2, g3⟩ | ⟨g1, g2, g3, g4⟩ | ⟨g1, g2, g3, g4⟩
      all_goals (try simp only [Bool.not_eq_eq_eq_not, Bool.not_true, Bool.not_false] at g3 g4); (try simp only [Bool.not_eq_eq_eq_not, Bool.not_false] at g3)
      all_goals go_wp2
      all_goals (refine wp_region_bel (by kernel_rfl) (by kernel_rfl) (fun hx => ?_); (repeat (any_goals (first | go_big_quiet_step ((first | (go_at_call 34; exact Calls.inBel_same (specTime_c _ _)) | (go_at_call 10; exact Calls.inBel (specVecOk_c _ _)))) | quiet_step ((first | (go_at_call 34; exact Calls.inBel_same (specTime_c _ _)) | (go_at_call 10; exact Calls.inBel (specVecOk_c _ _)))) | (refine wpQuiet_step (fun K hK => ?_); go_simp; split <;> (refine hK _ ?_; clear hK K))))); all_goals (refine wpQuiet_nil ?_; rintro _ ⟨⟨w2, hb2⟩, rfl⟩; (try dsimp only)))
      all_goals obtain ⟨hs2, hc2, hf2, hz2⟩ := std hb2
      all_goals go_wp2
      case roundEnd =>
        go_roundw
        case rel => exact ⟨j + 1 + 1, by omega, by go_num, inferInstance, range_yes hall (by simp only [OK.out, g1, g2, g3, g4]; rfl)⟩
        case measure => simp [intOf]; omega
      all_goals go_ret
      all_goals refine ⟨?_, inferInstance⟩
      all_goals (have e : okPt l (j + 1) = false := by (rw [OK.out]; simp [*]))
      all_goals simp [profOk, ← HL.out, range_no hlt e]
end Go.Proofs.Ytiheokjolaclnaa

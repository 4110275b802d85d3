/- The reference's ProfNew and ProfTake. -/
import Derived.Test.YtiheokjolaclnaaChange
namespace Go.Proofs.Ytiheokjolaclnaa
open Go.RowKit
def newR (v : Vec) : List Pt × Bool := if v.ok then ([⟨0, v⟩], true) else ([], false)
set_option maxHeartbeats 1000000 in
theorem specNew_c (v : Vec) (w : World) : Calls Try.prog 69 #[.agg #[I v.a, I v.b, I v.c]] w
    fun e w' => ∃ A' n' c', e = .returned (.tuple #[.agg #[.slice A' n' c'], .bool (newR v).2]) ∧ Own w' w.heap.size 64 Pt.enc 4 A' n' c' (newR v).1 ∧ Bel w w' := by
  rcases ways1 v.ok with g | g
  · go_enter Try.func69, Try.ntmps69
    go_wp2_with (go_at_call 10; refine (specVecOk_c ⟨_, _, _⟩ _).mono ?_; rintro e w1 ⟨rfl, hb1⟩; obtain ⟨hs1, hc1, hf1, hz1⟩ := std hb1; have hy1w0 := lt_bel (b := w.heap.size) hb1 (by first | assumption | (simp <;> omega)); have hy1w1 := lt_bel (b := w.heap.size + 1) hb1 (by first | assumption | (simp <;> omega)))
    (refine bodyPost_ret (v := .tuple #[.agg #[.slice none 0 0], .bool false]) ?_ rfl ?_; focus (simp [results, Try.results69, go_sem, *]; done))
    exact ⟨_, _, _, by simp only [newR, g]; rfl, by simp only [newR, g]; exact Own.nil _ _ _ _ _ _, inferInstance⟩
  · go_enter Try.func69, Try.ntmps69
    go_wp2_with (go_at_call 10; refine (specVecOk_c ⟨_, _, _⟩ _).mono ?_; rintro e w1 ⟨rfl, hb1⟩; obtain ⟨hs1, hc1, hf1, hz1⟩ := std hb1; have hy1w0 := lt_bel (b := w.heap.size) hb1 (by first | assumption | (simp <;> omega)); have hy1w1 := lt_bel (b := w.heap.size + 1) hb1 (by first | assumption | (simp <;> omega)))
    have lw : LeN w.heap.size w1.heap.size := ⟨by omega⟩
    have hl := Own.lit (enc := Pt.enc) (k := 4) (w1.setCell ⟨w.heap.size + 1, 0, none⟩ (.slice (some ⟨w1.heap.size, 0, none⟩) 1 1)) #[.int .i64 0, .int .i64 v.a, .int .i64 v.b, .int .i64 v.c] 64 [⟨0, v⟩] rfl rfl (by simp)
    simp only [World.size_setCell] at hl
    (refine bodyPost_ret (v := .tuple #[.agg #[.slice (some ⟨w1.heap.size, 0, none⟩) 1 1], .bool true]) ?_ rfl ?_; focus (simp [results, Try.results69, go_sem, *]; done))
    exact ⟨some ⟨w1.heap.size, 0, none⟩, 1, 1, by simp only [newR, g]; rfl, by simp only [newR, g]; exact hl.mono lw.out, inferInstance⟩
def takeR (l : List Pt) (f t : Int) (v : Vec) : List Pt × Bool := if (vminR l f t).2 then changeR l f t (byR false v) else ([], false)
set_option maxHeartbeats 1000000 in
theorem specTake_c (A : Option Addr) (n c : Nat) (l : List Pt) (f t : Int) (v : Vec) (w : World) (h : Sl w 0 Pt.enc 4 A n l) (hn : n ≤ 2147483600) : Calls Try.prog 70 #[.agg #[.slice A n c], I f, I t, .agg #[I v.a, I v.b, I v.c]] w
    fun e w' => ∃ A' n' c', e = .returned (.tuple #[.agg #[.slice A' n' c'], .bool (takeR l f t v).2]) ∧ Own w' w.heap.size 64 Pt.enc 4 A' n' c' (takeR l f t v).1 ∧ Bel w w' := by
  generalize hR : takeR l f t v = R
  have HR := Lib.hid hR
  clear hR
  rcases ways1 (vminR l f t).2 with g | g
  · obtain rfl : R = ([], false) := by rw [← HR.out, takeR, g]; rfl
    go_enter Try.func70, Try.ntmps70
    go_wp2_with (go_at_call 29; refine (specProfMin_c _ _ _ _ _ _ _ (h.bel inferInstance) (by omega)).mono ?_; rintro e w1 ⟨rfl, hb1⟩; obtain ⟨hs1, hc1, hf1, hz1⟩ := std hb1; have hy1w0 := lt_bel (b := w.heap.size) hb1 (by first | assumption | (simp <;> omega)); have hy1w1 := lt_bel (b := w.heap.size + 1) hb1 (by first | assumption | (simp <;> omega)); have hy1w2 := lt_bel (b := w.heap.size + 1 + 1) hb1 (by first | assumption | (simp <;> omega)))
    (refine bodyPost_ret (v := .tuple #[.agg #[.slice none 0 0], .bool false]) ?_ rfl ?_; focus (simp [results, Try.results70, go_sem, *]; done))
    exact ⟨none, 0, 0, rfl, Own.nil _ _ _ _ _ _, inferInstance⟩
  · have HR2 : Hid (changeR l f t (byR false v) = R) := Lib.hid (by rw [← HR.out, takeR, g]; rfl)
    clear HR
    have HC := fun W hW => specChange_c A n c l f t v false W hW hn
    rw [HR2.out] at HC
    go_enter Try.func70, Try.ntmps70
    go_wp2_with first | (go_at_call 29; refine (specProfMin_c _ _ _ _ _ _ _ (h.bel inferInstance) (by omega)).mono ?_; rintro e w1 ⟨rfl, hb1⟩; obtain ⟨hs1, hc1, hf1, hz1⟩ := std hb1; have hy1w0 := lt_bel (b := w.heap.size) hb1 (by first | assumption | (simp <;> omega)); have hy1w1 := lt_bel (b := w.heap.size + 1) hb1 (by first | assumption | (simp <;> omega)); have hy1w2 := lt_bel (b := w.heap.size + 1 + 1) hb1 (by first | assumption | (simp <;> omega))) | (go_at_call 77; refine (HC _ (h.bel inferInstance)).mono ?_; rintro e w2 ⟨A2, n2, c2, rfl, ho2, hb2⟩; obtain ⟨hs2, hc2, hf2, hz2⟩ := std hb2; have hy2w0 := lt_bel (b := w.heap.size) hb2 (by first | assumption | (simp <;> omega)); have hy2w1 := lt_bel (b := w.heap.size + 1) hb2 (by first | assumption | (simp <;> omega)); have hy2w2 := lt_bel (b := w.heap.size + 1 + 1) hb2 (by first | assumption | (simp <;> omega)))
    (refine bodyPost_ret (v := .tuple #[.agg #[.slice A2 n2 c2], .bool R.2]) ?_ rfl ?_; focus (simp [results, Try.results70, go_sem, *]; done))
    exact ⟨A2, n2, c2, rfl, (ho2.ox (g := w.heap.size + 1 + 1) inferInstance (by first | assumption | (simp; omega))).mono (lo' := w.heap.size) LeN.out, inferInstance⟩
end Go.Proofs.Ytiheokjolaclnaa

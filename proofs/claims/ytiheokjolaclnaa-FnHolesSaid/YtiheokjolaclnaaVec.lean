/- Vectors: least, sum, difference; a profile of one point. -/
import Derived.Test.YtiheokjolaclnaaFree
import Derived.Test.YtiheokjolaclnaaTail
namespace Go.Proofs.Ytiheokjolaclnaa
open Go.RowKit
def imin (x y : Int) : Int := if x < y then x else y
def Vec.lst (x y : Vec) : Vec := if x.ok && y.ok then ⟨imin x.a y.a, imin x.b y.b, imin x.c y.c⟩ else ⟨0, 0, 0⟩
def Vec.add (x y : Vec) : Vec := ⟨x.a + y.a, x.b + y.b, x.c + y.c⟩
def Vec.sub (x y : Vec) : Vec := ⟨x.a - y.a, x.b - y.b, x.c - y.c⟩
/-- a result that is valid, else nothing -/
def orNone (ok : Bool) (v : Vec) : Vec × Bool := if ok then (v, true) else (⟨0, 0, 0⟩, false)
def Vec.addR (x y : Vec) : Vec × Bool := orNone (x.ok && y.ok && (x.add y).ok) (x.add y)
def Vec.subR (x y : Vec) : Vec × Bool := orNone (y.fits x) (x.sub y)
theorem resB_bd {x : Int} (h : resB x = true) : 0 ≤ x ∧ x ≤ 1000000 := by simpa [resB, withinB] using h
theorem Vec.ok_bd {v : Vec} (h : v.ok = true) : (0 ≤ v.a ∧ v.a ≤ 1000000) ∧ (0 ≤ v.b ∧ v.b ≤ 1000000) ∧ (0 ≤ v.c ∧ v.c ≤ 1000000) := by
  simp only [Vec.ok, Bool.and_eq_true] at h
  exact ⟨resB_bd h.1.1, resB_bd h.1.2, resB_bd h.2⟩
/-- a variable of the call's own that holds a vector -/
def VecAt (w : World) (g : Nat) (v : Vec) : Prop := w.cell? ⟨g, 0, none⟩ = some (I v.a) ∧ w.cell? ⟨g, 1, none⟩ = some (I v.b) ∧ w.cell? ⟨g, 2, none⟩ = some (I v.c) ∧ (∀ o, w.frozen? ⟨g, o, none⟩ = false) ∧ g < w.heap.size
theorem VecAt.bel {w w' : World} {g : Nat} {v : Vec} (h : VecAt w g v) (hb : Bel w w') : VecAt w' g v := by
  obtain ⟨h0, h1, h2, h3, h4⟩ := h
  exact ⟨hb.cell_some h0, hb.cell_some h1, hb.cell_some h2, fun o => (hb.out.frozen (p := ⟨g, o, none⟩) h4).trans (h3 o), lt_bel hb h4⟩
theorem VecAt.bl {lo : Nat} {w w' : World} {g : Nat} {v : Vec} (h : VecAt w g v) (hb : Bl lo w w') (hg : g < lo) : VecAt w' g v := by
  obtain ⟨h0, h1, h2, h3, h4⟩ := h
  exact ⟨(hb.cell hg).trans h0, (hb.cell hg).trans h1, (hb.cell hg).trans h2, fun o => (hb.out.frozen (p := ⟨g, o, none⟩) hg).trans (h3 o), lt_bel hb h4⟩
theorem VecAt.ox {g' : Nat} {w w' : World} {g : Nat} {v : Vec} (h : VecAt w g v) (hb : Ox g' w w') (hg : g ≠ g') : VecAt w' g v := by
  obtain ⟨h0, h1, h2, h3, h4⟩ := h
  exact ⟨hb.cell_some h0 hg, hb.cell_some h1 hg, hb.cell_some h2 hg, fun o => (World.frozen?_of_block (a := ⟨g, o, none⟩) (hb.out.block g h4 (by intro e; injection e with e; exact hg e))).trans (h3 o), lt_ox hb h4⟩
theorem VecAt.set {w : World} {g : Nat} {v : Vec} (h : VecAt w g v) (a b c : Int) : VecAt (((w.setCell ⟨g, 0, none⟩ (I a)).setCell ⟨g, 1, none⟩ (I b)).setCell ⟨g, 2, none⟩ (I c)) g ⟨a, b, c⟩ := by
  obtain ⟨h0, h1, h2, h3, h4⟩ := h
  simp [VecAt, go_sem, *]
theorem VecAt.new (w : World) (a b c : Int) (t : TypeId) : VecAt (w.alloc (.cells #[I a, I b, I c] t)) w.heap.size ⟨a, b, c⟩ := by simp [VecAt, go_sem]
theorem specMin_c (x y : Int) (w : World) : Calls Try.prog 73 #[.int .i64 x, .int .i64 y] w fun e w' => e = .returned (.int .i64 (imin x y)) ∧ w = w' := by
  go_enter Try.func73, Try.ntmps73
  by_cases h : x < y
  all_goals go_wp2
  all_goals (go_ret; refine ⟨?_, rfl⟩; simp [imin, h]; try omega)
set_option maxHeartbeats 1000000 in
theorem specVecMin_c (x y : Vec) (w : World) : Calls Try.prog 60 #[.agg #[I x.a, I x.b, I x.c], .agg #[I y.a, I y.b, I y.c]] w fun e w' => e = .returned (.agg #[I (x.lst y).a, I (x.lst y).b, I (x.lst y).c]) ∧ Bel w w' := by
  rcases ways2 x.ok y.ok with g1 | ⟨g1, g2⟩ | ⟨g1, g2⟩
  all_goals go_enter Try.func60, Try.ntmps60
  all_goals go_wp2_with (go_at_call 10; refine (specVecOk_c _ _).mono ?_; rintro e w1 ⟨rfl, hb1⟩; obtain ⟨hs1, hc1, hf1, hz1⟩ := std hb1; have hy1w0 := lt_bel (b := w.heap.size) hb1 (by first | assumption | (simp <;> omega)); have hy1w1 := lt_bel (b := w.heap.size + 1) hb1 (by first | assumption | (simp <;> omega)); have hy1w2 := lt_bel (b := w.heap.size + 1 + 1) hb1 (by first | assumption | (simp <;> omega)))
  all_goals try ((refine wp_region_bel_tail 16 (by kernel_rfl) (by kernel_rfl) (fun hx => ?_); simp only [List.take_succ_cons, List.take_zero, List.drop_succ_cons, List.drop_zero]; (repeat (any_goals (first | go_big_quiet_step ((first | (go_at_call 73; exact Calls.inBel_same (specMin_c _ _ _)))) | quiet_step ((first | (go_at_call 73; exact Calls.inBel_same (specMin_c _ _ _)))) | (refine wpQuiet_step (fun K hK => ?_); go_simp; split <;> (refine hK _ ?_; clear hK K))))); all_goals (refine wpQuiet_nil ?_; rintro _ ⟨⟨w2, hb2⟩, rfl⟩; (try dsimp only))); obtain ⟨hs2, hc2, hf2, hz2⟩ := std hb2; have hy2w0 := lt_bel (b := w.heap.size) hb2 (by first | assumption | (simp <;> omega)); have hy2w1 := lt_bel (b := w.heap.size + 1) hb2 (by first | assumption | (simp <;> omega)); have hy2w2 := lt_bel (b := w.heap.size + 1 + 1) hb2 (by first | assumption | (simp <;> omega)); go_wp2)
  all_goals (refine bodyPost_ret (v := .agg #[I (x.lst y).a, I (x.lst y).b, I (x.lst y).c]) ?_ rfl ?_; focus (simp [results, Try.results60, go_sem, *, Vec.lst]; done))
  all_goals exact ⟨rfl, inferInstance⟩
set_option maxHeartbeats 1000000 in
theorem specVecAdd_c (x y : Vec) (w : World) : Calls Try.prog 78 #[.agg #[I x.a, I x.b, I x.c], .agg #[I y.a, I y.b, I y.c]] w fun e w' => e = .returned (.tuple #[.agg #[I (x.addR y).1.a, I (x.addR y).1.b, I (x.addR y).1.c], .bool (x.addR y).2]) ∧ Bel w w' := by
  rcases ways2 x.ok y.ok with g1 | ⟨g1, g2⟩ | ⟨g1, g2⟩
  case inr.inr =>
    have b1 := Vec.ok_bd g1
    have b2 := Vec.ok_bd g2
    rcases ways1 (x.add y).ok with g3 | g3
    all_goals simp only [Vec.add] at g3
    all_goals go_enter Try.func78, Try.ntmps78
    all_goals go_wp2_with (go_at_call 10; refine (specVecOk_c ⟨_, _, _⟩ _).mono ?_; rintro e w1 ⟨rfl, hb1⟩; obtain ⟨hs1, hc1, hf1, hz1⟩ := std hb1; have hy1w0 := lt_bel (b := w.heap.size) hb1 (by first | assumption | (simp <;> omega)); have hy1w1 := lt_bel (b := w.heap.size + 1) hb1 (by first | assumption | (simp <;> omega)); have hy1w2 := lt_bel (b := w.heap.size + 1 + 1) hb1 (by first | assumption | (simp <;> omega)))
    all_goals (refine bodyPost_ret (v := .tuple #[.agg #[I (x.addR y).1.a, I (x.addR y).1.b, I (x.addR y).1.c], .bool (x.addR y).2]) ?_ rfl ?_; focus (simp [results, Try.results78, go_sem, *, Vec.addR, Vec.add, orNone]; done))
    all_goals exact ⟨rfl, inferInstance⟩
  all_goals go_enter Try.func78, Try.ntmps78
  all_goals go_wp2_with (go_at_call 10; refine (specVecOk_c _ _).mono ?_; rintro e w1 ⟨rfl, hb1⟩; obtain ⟨hs1, hc1, hf1, hz1⟩ := std hb1; have hy1w0 := lt_bel (b := w.heap.size) hb1 (by first | assumption | (simp <;> omega)); have hy1w1 := lt_bel (b := w.heap.size + 1) hb1 (by first | assumption | (simp <;> omega)); have hy1w2 := lt_bel (b := w.heap.size + 1 + 1) hb1 (by first | assumption | (simp <;> omega)))
  all_goals (refine bodyPost_ret (v := .tuple #[.agg #[I (x.addR y).1.a, I (x.addR y).1.b, I (x.addR y).1.c], .bool (x.addR y).2]) ?_ rfl ?_; focus (simp [results, Try.results78, go_sem, *, Vec.addR, orNone]; done))
  all_goals exact ⟨rfl, inferInstance⟩
theorem Vec.fits_ok {x y : Vec} (h : x.fits y = true) : x.ok = true ∧ y.ok = true := by
  simp only [Vec.fits, Bool.and_eq_true] at h
  exact ⟨h.1.1.1.1, h.1.1.1.2⟩
set_option maxHeartbeats 1000000 in
theorem specVecSub_c (x y : Vec) (w : World) : Calls Try.prog 79 #[.agg #[I x.a, I x.b, I x.c], .agg #[I y.a, I y.b, I y.c]] w fun e w' => e = .returned (.tuple #[.agg #[I (x.subR y).1.a, I (x.subR y).1.b, I (x.subR y).1.c], .bool (x.subR y).2]) ∧ Bel w w' := by
  rcases ways1 (y.fits x) with g1 | g1
  case inr =>
    have b1 := Vec.ok_bd (Vec.fits_ok g1).1
    have b2 := Vec.ok_bd (Vec.fits_ok g1).2
    go_enter Try.func79, Try.ntmps79
    go_wp2_with (go_at_call 31; refine (specVecFits_c _ _ _).mono ?_; rintro e w1 ⟨rfl, hb1⟩; obtain ⟨hs1, hc1, hf1, hz1⟩ := std hb1; have hy1w0 := lt_bel (b := w.heap.size) hb1 (by first | assumption | (simp <;> omega)); have hy1w1 := lt_bel (b := w.heap.size + 1) hb1 (by first | assumption | (simp <;> omega)); have hy1w2 := lt_bel (b := w.heap.size + 1 + 1) hb1 (by first | assumption | (simp <;> omega)))
    (refine bodyPost_ret (v := .tuple #[.agg #[I (x.subR y).1.a, I (x.subR y).1.b, I (x.subR y).1.c], .bool (x.subR y).2]) ?_ rfl ?_; focus (simp [results, Try.results79, go_sem, *, Vec.subR, Vec.sub, orNone]; done))
    exact ⟨rfl, inferInstance⟩
  go_enter Try.func79, Try.ntmps79
  go_wp2_with (go_at_call 31; refine (specVecFits_c _ _ _).mono ?_; rintro e w1 ⟨rfl, hb1⟩; obtain ⟨hs1, hc1, hf1, hz1⟩ := std hb1; have hy1w0 := lt_bel (b := w.heap.size) hb1 (by first | assumption | (simp <;> omega)); have hy1w1 := lt_bel (b := w.heap.size + 1) hb1 (by first | assumption | (simp <;> omega)); have hy1w2 := lt_bel (b := w.heap.size + 1 + 1) hb1 (by first | assumption | (simp <;> omega)))
  (refine bodyPost_ret (v := .tuple #[.agg #[I (x.subR y).1.a, I (x.subR y).1.b, I (x.subR y).1.c], .bool (x.subR y).2]) ?_ rfl ?_; focus (simp [results, Try.results79, go_sem, *, Vec.subR, orNone]; done))
  exact ⟨rfl, inferInstance⟩
end Go.Proofs.Ytiheokjolaclnaa

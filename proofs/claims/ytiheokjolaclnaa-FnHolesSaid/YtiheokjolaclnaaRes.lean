/- Vectors, small tests, and profiles: what the program's and the reference's functions compute, and that they compute it. -/
import Derived.Test.YtiheokjolaclnaaMem
namespace Go.Proofs.Ytiheokjolaclnaa
open Go.RowKit

structure Vec where
  a : Int
  b : Int
  c : Int
deriving DecidableEq
structure Pt where
  t : Int
  f : Vec
deriving DecidableEq
def Pt.enc (p : Pt) : List Value := [I p.t, I p.f.a, I p.f.b, I p.f.c]
theorem Pt.enc_len (p : Pt) : p.enc.length = 4 := rfl
theorem Pt.enc_one (p : Pt) : ∀ u ∈ p.enc, u.oneCell' = true := by intro u hu; simp [Pt.enc] at hu; rcases hu with rfl | rfl | rfl | rfl <;> rfl
theorem Pts.cells {w : World} {lo b o : Nat} {n : Nat} {l : List Pt} (h : Sl w lo Pt.enc 4 (some ⟨b, o, none⟩) n l) {i : Nat} (hi : i < n) :
    ∃ x, l[i]? = some x ∧ b < w.heap.size ∧ w.cell? ⟨b, o + i * 4, none⟩ = some (I x.t) ∧ w.cell? ⟨b, o + i * 4 + 1, none⟩ = some (I x.f.a) ∧ w.cell? ⟨b, o + i * 4 + 2, none⟩ = some (I x.f.b) ∧ w.cell? ⟨b, o + i * 4 + 3, none⟩ = some (I x.f.c) := by
  obtain ⟨x, h1, _, h4⟩ := Sl.cells h hi
  have c0 := h4 0 _ rfl
  exact ⟨x, h1, World.block_lt_of_cell? _ _ c0, c0, h4 1 _ rfl, h4 2 _ rfl, h4 3 _ rfl⟩

@[go_sem ↓] theorem run_eql_vec (a b c a' b' c' : Int) (w : World) : (binOp .eql 27 (.agg #[I a, I b, I c]) (.agg #[I a', I b', I c'])).run Try.prog w = .ok (.bool (decide ((⟨a, b, c⟩ : Vec) = ⟨a', b', c'⟩))) w := by
  simp [binOp, Op.equal, Op.maxDepth, go_sem]
  by_cases h1 : a = a' <;> by_cases h2 : b = b' <;> by_cases h3 : c = c' <;> simp [h1, h2, h3]
@[go_sem ↓] theorem run_neq_vec (a b c a' b' c' : Int) (w : World) : (binOp .neq 27 (.agg #[I a, I b, I c]) (.agg #[I a', I b', I c'])).run Try.prog w = .ok (.bool (!decide ((⟨a, b, c⟩ : Vec) = ⟨a', b', c'⟩))) w := by
  simp [binOp, Op.equal, Op.maxDepth, go_sem]
  by_cases h1 : a = a' <;> by_cases h2 : b = b' <;> by_cases h3 : c = c' <;> simp [h1, h2, h3]
@[simp] theorem Vec.eta (v : Vec) : (⟨v.a, v.b, v.c⟩ : Vec) = v := rfl

/-! ## tests on numbers and vectors -/
def withinB (x lo hi : Int) : Bool := decide (lo ≤ x) && decide (x ≤ hi)
def timeB (x : Int) : Bool := withinB x 0 1000000000
def resB (x : Int) : Bool := withinB x 0 1000000
def spanB (f t : Int) : Bool := timeB f && timeB t && decide (f < t)
def Vec.ok (v : Vec) : Bool := resB v.a && resB v.b && resB v.c
def Vec.fits (a b : Vec) : Bool := a.ok && b.ok && decide (a.a ≤ b.a) && decide (a.b ≤ b.b) && decide (a.c ≤ b.c)
theorem within_c (x lo hi : Int) (w : World) : Calls Try.prog 40 #[.int .i64 x, .int .i64 lo, .int .i64 hi] w fun e w' => e = .returned (.bool (withinB x lo hi)) ∧ w = w' := by
  go_enter Try.func40, Try.ntmps40
  go_wp2
  all_goals (go_ret; refine ⟨?_, rfl⟩; simp [withinB] ; try omega)
theorem isTime_c (x : Int) (w : World) : Calls Try.prog 36 #[.int .i64 x] w fun e w' => e = .returned (.bool (timeB x)) ∧ w = w' := by
  go_enter Try.func36, Try.ntmps36
  go_wp2_with (go_at_call 40; refine (within_c _ _ _ _).mono ?_; rintro e w1 ⟨rfl, rfl⟩)
  all_goals (go_ret; exact ⟨rfl, rfl⟩)
theorem isSpan_c (x y : Int) (w : World) : Calls Try.prog 27 #[.int .i64 x, .int .i64 y] w fun e w' => e = .returned (.bool (spanB x y)) ∧ w = w' := by
  go_enter Try.func27, Try.ntmps27
  go_wp2_with (go_at_call 36; refine (isTime_c _ _).mono ?_; rintro e w1 ⟨rfl, rfl⟩)
  all_goals (go_ret; refine ⟨?_, rfl⟩; simp [spanB, *])
theorem vecOk_c (x : Vec) (w : World) : Calls Try.prog 28 #[.agg #[I x.a, I x.b, I x.c]] w fun e w' => e = .returned (.bool x.ok) ∧ Bel w w' := by
  go_enter Try.func28, Try.ntmps28
  go_wp2_with (go_at_call 40; refine (within_c _ _ _ _).mono ?_; rintro e w1 ⟨rfl, rfl⟩)
  all_goals (go_ret; refine ⟨?_, inferInstance⟩; simp [Vec.ok, resB, *])
theorem vecFits_c (x y : Vec) (w : World) : Calls Try.prog 11 #[.agg #[I x.a, I x.b, I x.c], .agg #[I y.a, I y.b, I y.c]] w fun e w' => e = .returned (.bool (x.fits y)) ∧ Bel w w' := by
  go_enter Try.func11, Try.ntmps11
  go_wp2_with (go_at_call 28; refine (vecOk_c ⟨_, _, _⟩ _).mono ?_; rintro e w1 ⟨rfl, hb1⟩; obtain ⟨hs1, hc1, hf1, hz1⟩ := std hb1; have hy1w0 := lt_bel (b := w.heap.size) hb1 (by first | assumption | (simp <;> omega)); have hy1w1 := lt_bel (b := w.heap.size + 1) hb1 (by first | assumption | (simp <;> omega)))
  all_goals (go_ret; refine ⟨?_, inferInstance⟩; simp [Vec.fits, *] ; try omega)
theorem specRes_c (x : Int) (w : World) : Calls Try.prog 35 #[.int .i64 x] w fun e w' => e = .returned (.bool (resB x)) ∧ w = w' := by
  go_enter Try.func35, Try.ntmps35
  go_wp2
  all_goals (go_ret; refine ⟨?_, rfl⟩; simp [resB, withinB] ; try omega)
theorem specTime_c (x : Int) (w : World) : Calls Try.prog 34 #[.int .i64 x] w fun e w' => e = .returned (.bool (timeB x)) ∧ w = w' := by
  go_enter Try.func34, Try.ntmps34
  go_wp2
  all_goals (go_ret; refine ⟨?_, rfl⟩; simp [timeB, withinB] ; try omega)
theorem specVecOk_c (x : Vec) (w : World) : Calls Try.prog 10 #[.agg #[I x.a, I x.b, I x.c]] w fun e w' => e = .returned (.bool x.ok) ∧ Bel w w' := by
  go_enter Try.func10, Try.ntmps10
  go_wp2_with (go_at_call 35; refine (specRes_c _ _).mono ?_; rintro e w1 ⟨rfl, rfl⟩)
  all_goals (go_ret; refine ⟨?_, inferInstance⟩; simp [Vec.ok, *])
theorem specVecFits_c (x y : Vec) (w : World) : Calls Try.prog 31 #[.agg #[I x.a, I x.b, I x.c], .agg #[I y.a, I y.b, I y.c]] w fun e w' => e = .returned (.bool (x.fits y)) ∧ Bel w w' := by
  go_enter Try.func31, Try.ntmps31
  go_wp2_with (go_at_call 10; refine (specVecOk_c ⟨_, _, _⟩ _).mono ?_; rintro e w1 ⟨rfl, hb1⟩; obtain ⟨hs1, hc1, hf1, hz1⟩ := std hb1; have hy1w0 := lt_bel (b := w.heap.size) hb1 (by first | assumption | (simp <;> omega)); have hy1w1 := lt_bel (b := w.heap.size + 1) hb1 (by first | assumption | (simp <;> omega)))
  all_goals (go_ret; refine ⟨?_, inferInstance⟩; simp [Vec.fits, *] ; try omega)
end Go.Proofs.Ytiheokjolaclnaa

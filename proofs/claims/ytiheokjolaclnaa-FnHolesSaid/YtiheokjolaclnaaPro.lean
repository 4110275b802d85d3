/- A region that draws its order and holds calls or new blocks whose values are not known beforehand: one walk in the order of the text serves every order, with the value of each such operation a letter (foretold), and what is known of it, and of memory, stated once for each. The last operations may store or append. -/
import Derived.Test.YtiheokjolaclnaaTail
import Derived.Test.YtiheokjolaclnaaDraw
namespace Go.Proofs.Ytiheokjolaclnaa
open Go.RowKit
/-- operations that hand back one value, and never enter a function -/
def pureB : Op → Bool
  | .move _ | .assign _ | .pick _ _ _ | .load _ _ | .binOp _ _ _ _ _ | .unOp _ _ _ | .convert _ _ _ | .fieldAddr _ _ _ | .build _ _ | .field _ _ _ | .indexAddr _ _ _ | .index _ _ _ | .extract _ _ | .slice _ _ _ _ _ => true
  | .call { callee := .builtin .len, .. } | .call { callee := .builtin .cap, .. } | .call { callee := .builtin .min, .. } | .call { callee := .builtin .max, .. } => true
  | _ => false
theorem run_value {P : Program} {s : Sem Value} {w w' : World} {n : Next} (h : (do pure (Next.value (← s)) : Sem Next).run P w = .ok n w') : ∃ u, n = .value u := by
  rw [Sem.run_bind] at h
  cases hs : s.run P w with
  | ok u w2 => rw [hs] at h; simp only [Result.andThen_ok, Sem.run_pure] at h; injection h with h1 _; exact ⟨u, h1.symm⟩
  | halt x w2 => rw [hs] at h; cases h
theorem run_value2 {r : Result Value} {w' : World} {n : Next} (h : (r.andThen fun a w' => Result.ok (Next.value a) w') = .ok n w') : ∃ u, n = .value u := by
  cases r with
  | ok u w2 => simp only [Result.andThen_ok] at h; injection h with h1 _; exact ⟨u, h1.symm⟩
  | halt x w2 => cases h
theorem pureB_value {P : Program} {ρ : Operand → Value} {o : Oper} {w w' : World} {n : Next} (hp : pureB o.op = true) (h : (execOp ρ o).run P w = .ok n w') : ∃ u, n = .value u := by
  unfold execOp at h
  generalize o.op = q at hp h
  cases q <;> first | (exfalso; revert hp; simp [pureB]; done) | exact run_value h | skip
  case move => simp only [Sem.run_pure] at h; injection h with h1 _; exact ⟨_, h1.symm⟩
  case assign => simp only [Sem.run_pure] at h; injection h with h1 _; exact ⟨_, h1.symm⟩
  case pick c a b =>
    simp only [Sem.run_bind] at h
    cases hs : (asBool (ρ c)).run P w with
    | ok u w2 => rw [hs] at h; simp only [Result.andThen_ok, Sem.run_pure] at h; injection h with h1 _; exact ⟨_, h1.symm⟩
    | halt x w2 => rw [hs] at h; cases h
  case call c =>
    obtain ⟨cal, args, ts⟩ := c
    cases cal with
    | value _ => simp [pureB] at hp
    | invoke _ _ => simp [pureB] at hp
    | builtin b =>
      cases b <;> first | (exfalso; revert hp; simp [pureB]; done) | skip
      all_goals (simp only [resolve, Sem.run_bind, Sem.run_pure, Result.andThen_ok, invoke, builtin] at h; exact run_value2 h)

section
variable {P : Program} {ops : Array Oper} {md : Region.Mode} {B : World → Prop} {R : World → World → Prop} {F : Nat → Value → World → Prop} {p : Nat → Value} {lt : List Nat}
/-- what is asked behind such a call -/
def ProPost (B : World → Prop) (R : World → World → Prop) (G : Value → World → Prop) (w : World) (e : Ending) (w' : World) : Prop := ∃ v, e = .returned v ∧ B w' ∧ R w w' ∧ G v w'
/-- what operation k, that is not pure, brings about: a world of the class, a step, and what is stated of its value -/
def proUpon (P : Program) (B : World → Prop) (R : World → World → Prop) (G : Value → World → Prop) (w : World) : Result Next → Prop
  | .ok (.value u) w' => B w' ∧ R w w' ∧ G u w'
  | .ok .skip w' => B w' ∧ R w w' ∧ G undef w'
  | .ok (.enter f args) w' => w' = w ∧ Calls P f args w (ProPost B R G w)
  | _ => False
def proAt (P : Program) (B : World → Prop) (R : World → World → Prop) (G : Value → World → Prop) (o : Oper) (a : Act) (w : World) : Prop := proUpon P B R G w ((execOp a.eval o).run P w)
attribute [go_sem] proAt proUpon
def sureB (ops : Array Oper) (j : Nat) : Bool := match ops[j]? with | some o => o.guard.isNone && !pureB o.op | none => false
/-- operation j, not pure and not guarded, is waited for by operation o -/
def depB (md : Region.Mode) (ops : Array Oper) (o : Oper) (j : Nat) : Bool := sureB ops j && o.after.any fun e => Region.binds md e && e.on == j
theorem sureB_spec {j : Nat} (h : sureB ops j = true) : ∃ o, ops[j]? = some o ∧ o.guard = none ∧ pureB o.op = false := by
  unfold sureB at h
  split at h
  · rename_i o ho
    simp only [Bool.and_eq_true, Option.isNone_iff_eq_none, Bool.not_eq_true'] at h
    exact ⟨o, ho, h⟩
  · cases h
/-- operation i in the frame a, the values of calls and new blocks being as p foretells, leaves v -/
def Yp (P : Program) (md : Region.Mode) (ops : Array Oper) (B : World → Prop) (R : World → World → Prop) (F : Nat → Value → World → Prop) (lt : List Nat) (p : Nat → Value) (i : Nat) (o : Oper) (v : Value) (a : Act) : Prop :=
  (Region.wanted o (yielded ops a.tmps) = true ∧ pureB o.op = true ∧ ∀ w, (lt.contains i = false → B w) → o.quietAt P a B w v) ∨
  (Region.wanted o (yielded ops a.tmps) = true ∧ pureB o.op = false ∧ lt.contains i = false ∧ v = p i ∧ ∀ w, B w → (∀ j, depB md ops o j = true → F j (p j) w) → proAt P B R (F i) o a w) ∨
  (Region.wanted o (yielded ops a.tmps) = false ∧ v = undef)
theorem Yp.of_same {i : Nat} {o : Oper} {v : Value} {a a' : Act} (hy : Yp P md ops B R F lt p i o v a) (he : execOp a'.eval o = execOp a.eval o)
    (hw : Region.wanted o (yielded ops a'.tmps) = Region.wanted o (yielded ops a.tmps)) : Yp P md ops B R F lt p i o v a' := by
  unfold Yp Oper.quietAt proAt at *
  rw [he, hw]
  exact hy
def pOp (P : Program) (md : Region.Mode) (ops : Array Oper) (B : World → Prop) (R : World → World → Prop) (F : Nat → Value → World → Prop) (lt : List Nat) (p : Nat → Value) (i : Nat) (K : Act → Prop) (a : Act) : Prop :=
  ∀ o, ops[i]? = some o → ∃ v, Yp P md ops B R F lt p i o v a ∧ K (a.put o.dst v)
theorem pOp_mono {i : Nat} {a : Act} {K K' : Act → Prop} (h : ∀ a, K a → K' a) (hh : pOp P md ops B R F lt p i K a) : pOp P md ops B R F lt p i K' a := fun o ho =>
  let ⟨v, h1, h2⟩ := hh o ho
  ⟨v, h1, h _ h2⟩
theorem Yp.pOp {i : Nat} {o : Oper} {v : Value} {a : Act} (hi : ops[i]? = some o) (hy : Yp P md ops B R F lt p i o v a) {K : Act → Prop} (h : K (a.put o.dst v)) : pOp P md ops B R F lt p i K a := fun o' ho' => by
  obtain rfl : o = o' := Option.some.inj (hi.symm.trans ho')
  exact ⟨v, hy, h⟩
theorem pOp_put {i j : Nat} {oi oj : Oper} {v : Value} (hj : ops[j]? = some oj) (hap : oi.apart ops oj = true)
    (hsi : ∀ cs b, oi.op ≠ .select cs b) (hsj : ∀ cs b, oj.op ≠ .select cs b) {K : Act → Prop} {a : Act}
    (hy : Yp P md ops B R F lt p i oi v a) (h : pOp P md ops B R F lt p j K (a.put oi.dst v)) :
    pOp P md ops B R F lt p j (fun a' => Yp P md ops B R F lt p i oi v a' ∧ K (a'.put oi.dst v)) a := by
  obtain ⟨h1, h2, h3⟩ := Oper.apart_spec hap
  obtain ⟨u, y0, k0⟩ := h oj hj
  refine Yp.pOp hj (y0.of_same (execOp_put oj hsj a oi.dst v h1).symm (wanted_put oj a oi.dst v h1).symm) ⟨hy.of_same (execOp_put oi hsi a oj.dst u h3) (wanted_put oi a oj.dst u h3), ?_⟩
  rw [← Act.put_comm a v u h2]
  exact k0
/-- operations below n that are not late are all done -/
def allH (n : Nat) (lt : List Nat) (done : Array Bool) : Prop := ∀ i, i < n → lt.contains i = false → done.getD i false = true
/-- the head in whatever order; what is late may come among the last operations -/
def headM (P : Program) (md : Region.Mode) (ops : Array Oper) (B : World → Prop) (R : World → World → Prop) (F : Nat → Value → World → Prop) (lt : List Nat) (Q : Exit → Act → World → Prop) (p : Nat → Value) (n : Nat) : Nat → Array Bool → Act → Prop
  | 0, done, a => allH n lt done ∧ Region.ready md ops done = [] ∧ ∀ w, B w → (∀ j, j < n → sureB ops j = true → F j (p j) w) → Q .normal a w
  | f + 1, done, a => (allH n lt done → ∀ w, B w → (∀ j, j < n → sureB ops j = true → F j (p j) w) → wpAny P md ops Q (f + 1) done a w) ∧
    (¬ allH n lt done → Region.ready md ops done ≠ [] ∧ ∀ i ∈ Region.ready md ops done, i < n) ∧
    ∀ i ∈ Region.ready md ops done, i < n → pOp P md ops B R F lt p i (headM P md ops B R F lt Q p n f (done.setIfInBounds i true)) a
/-- what is known on the way: s holds the values of the calls that came up -/
structure Way (ops : Array Oper) (B : World → Prop) (F : Nat → Value → World → Prop) (s : Nat → Option Value) (done : Array Bool) (w : World) : Prop where
  base : B w
  fact : ∀ m v, s m = some v → F m v w
  sure : ∀ m, sureB ops m = true → done.getD m false = true → ∃ v, s m = some v
  left : ∀ m v, s m = some v → done.getD m false = true
theorem Way.keep {s : Nat → Option Value} {done : Array Bool} {w : World} {i : Nat} {o : Oper} (h : Way ops B F s done w) (hi : ops[i]? = some o) (hn : pureB o.op = true ∨ o.guard ≠ none) : Way ops B F s (done.setIfInBounds i true) w :=
  ⟨h.base, h.fact, fun m hm hd => by
    by_cases hmi : i = m
    · subst hmi
      obtain ⟨o', ho', g1, g2⟩ := sureB_spec hm
      obtain rfl : o = o' := Option.some.inj (hi.symm.trans ho')
      rcases hn with hn | hn
      · rw [g2] at hn; cases hn
      · exact absurd g1 hn
    · rw [getD_set_ne false hmi] at hd; exact h.sure m hm hd, fun m v hm => getD_set_true (h.left m v hm)⟩
theorem Way.next {s : Nat → Option Value} {done : Array Bool} {w w' : World} {i : Nat} {v : Value} (hR : ∀ m v w w', R w w' → F m v w → F m v w') (h : Way ops B F s done w) (hib : i < done.size) (hb : B w') (hr : R w w') (hf : F i v w') :
    Way ops B F (fun m => if m = i then some v else s m) (done.setIfInBounds i true) w' :=
  ⟨hb, fun m u hm => by
    by_cases hmi : m = i
    · subst hmi; simp only [if_true] at hm; injection hm with hm; subst hm; exact hf
    · simp only [if_neg hmi] at hm; exact hR m u w w' hr (h.fact m u hm), fun m hm hd => by
    by_cases hmi : m = i
    · exact ⟨v, by simp [hmi]⟩
    · rw [getD_set_ne false (Ne.symm hmi)] at hd
      obtain ⟨u, hu⟩ := h.sure m hm hd
      exact ⟨u, by simp [hmi, hu]⟩, fun m u hm => by
    by_cases hmi : m = i
    · subst hmi; simp [hib]
    · simp only [if_neg hmi] at hm; exact getD_set_true (h.left m u hm)⟩
/-- p agrees with what came up, and may be -/
structure May (F : Nat → Value → World → Prop) (s : Nat → Option Value) (p : Nat → Value) : Prop where
  may : ∀ m, ∃ w', F m (p m) w'
  same : ∀ m v, s m = some v → p m = v
theorem May.some (hne : ∀ m, ∃ v w', F m v w') {s : Nat → Option Value} {done : Array Bool} {w : World} (h : Way ops B F s done w) : ∃ p, May F s p := by
  refine ⟨fun m => match s m with | .some v => v | .none => Classical.choose (hne m), fun m => ?_, fun m v hm => by simp [hm]⟩
  cases hm : s m with
  | some v => simp only []; exact ⟨w, h.fact m v hm⟩
  | none => simp only []; exact Classical.choose_spec (hne m)
theorem any_of_headM {n : Nat} {Q : Exit → Act → World → Prop} (hR : ∀ m v w w', R w w' → F m v w → F m v w') (hne : ∀ m, ∃ v w', F m v w') (hsl : ∀ j, sureB ops j = true → lt.contains j = false) :
    ∀ (f : Nat) (s : Nat → Option Value) (done : Array Bool) (a : Act) (w : World), done.size = ops.size → Way ops B F s done w → (∀ p, May F s p → headM P md ops B R F lt Q p n f done a) → wpAny P md ops Q f done a w
  | 0, s, done, a, w, _, hw, h => by
    obtain ⟨p0, m0⟩ := May.some hne hw
    obtain ⟨h1, h2, h3⟩ := h p0 m0
    exact ⟨h2, h3 w hw.base fun j hj hs => by
      obtain ⟨v, hv⟩ := hw.sure j hs (h1 j hj (hsl j hs))
      rw [m0.same j v hv]
      exact hw.fact j v hv⟩
  | f + 1, s, done, a, w, hz, hw, h => by
    obtain ⟨p0, m0⟩ := May.some hne hw
    by_cases hall0 : allH n lt done
    · exact (h p0 m0).1 hall0 w hw.base fun j hj hs => by
        obtain ⟨v, hv⟩ := hw.sure j hs (hall0 j hj (hsl j hs))
        rw [m0.same j v hv]
        exact hw.fact j v hv
    have hrd := (h p0 m0).2.1 hall0
    refine ⟨fun h0 => absurd h0 hrd.1, fun i hi => ?_⟩
    have hin := hrd.2 i hi
    obtain ⟨hun, o, ho, hall⟩ := mem_ready.1 hi
    have hib : i < done.size := by rw [hz]; exact (Array.getElem?_eq_some_iff.1 ho).1
    have hdep : ∀ p, May F s p → ∀ j, depB md ops o j = true → F j (p j) w := fun p hp j hj => by
      simp only [depB, Bool.and_eq_true] at hj
      obtain ⟨e, he, hb⟩ := Array.any_eq_true'.1 hj.2
      simp only [Bool.and_eq_true, beq_iff_eq] at hb
      obtain ⟨v, hv⟩ := hw.sure j hj.1 (hb.2 ▸ hall e he hb.1)
      rw [hp.same j v hv]
      exact hw.fact j v hv
    have hs : ∀ v, s i ≠ some v := fun v hv => by
      have := hw.left i v hv
      rw [getD_both hun] at this
      cases this
    obtain ⟨v0, y0, _⟩ := (h p0 m0).2.2 i hi hin o ho
    unfold wpOp
    simp only [ho]
    rcases y0 with ⟨h1, h2, h3⟩ | ⟨h1, h2, _, _, h3⟩ | ⟨h1, _⟩
    · rw [if_pos h1]
      left
      have h3 := h3 w fun _ => hw.base
      have key : ∀ p, May F s p → headM P md ops B R F lt Q p n f (done.setIfInBounds i true) (a.put o.dst v0) := fun p hp => by
        obtain ⟨v1, y1, k1⟩ := (h p hp).2.2 i hi hin o ho
        rcases y1 with ⟨_, _, g3⟩ | ⟨_, g2, _⟩ | ⟨g1, _⟩
        · have g3 := g3 w fun _ => hw.base
          unfold Oper.quietAt at h3 g3
          cases hr : (execOp a.eval o).run P w with
          | halt x w' => rw [hr] at h3; exact h3.elim
          | ok nx w' =>
            obtain ⟨x, rfl⟩ := pureB_value h2 hr
            rw [hr] at h3 g3
            simp only [Oper.quietUpon] at h3 g3
            rw [← h3.2, g3.2]
            exact k1
        · rw [h2] at g2; cases g2
        · rw [h1] at g1; cases g1
      unfold Oper.quietAt at h3
      unfold Oper.wp
      cases hr : (execOp a.eval o).run P w with
      | halt x w' => rw [hr] at h3; exact h3.elim
      | ok nx w' =>
        obtain ⟨x, rfl⟩ := pureB_value h2 hr
        rw [hr] at h3
        simp only [Oper.quietUpon] at h3
        simp only [Oper.upon]
        obtain ⟨e1, e2⟩ := h3
        rw [e1, e2]
        exact any_of_headM hR hne hsl f s _ _ _ (by simpa using hz) (hw.keep ho (.inl h2)) key
    · rw [if_pos h1]
      left
      have h3 := h3 w hw.base (hdep p0 m0)
      have key : ∀ v w', B w' → R w w' → F i v w' → wpAny P md ops Q f (done.setIfInBounds i true) (a.put o.dst v) w' := fun v w' hb hr hf => by
        refine any_of_headM (n := n) hR hne hsl f _ _ _ _ (by simpa using hz) (hw.next hR hib hb hr hf) fun p hp => ?_
        have hpi : p i = v := hp.same i v (by simp)
        obtain ⟨v1, y1, k1⟩ := (h p ⟨hp.may, fun m u hm => hp.same m u (by
          by_cases hmi : m = i
          · subst hmi; exact absurd hm (hs u)
          · simp [hmi, hm])⟩).2.2 i hi hin o ho
        rcases y1 with ⟨_, g2, _⟩ | ⟨_, _, _, g3, _⟩ | ⟨g1, _⟩
        · rw [h2] at g2; cases g2
        · rw [← hpi, ← g3]; exact k1
        · rw [h1] at g1; cases g1
      unfold proAt at h3
      unfold Oper.wp
      generalize (execOp a.eval o).run P w = r at h3 ⊢
      cases r with
      | halt x w' => exact h3.elim
      | ok nx w' =>
        cases nx <;> simp only [proUpon] at h3 <;> simp only [Oper.upon]
        case value u => exact key u w' h3.1 h3.2.1 h3.2.2
        case skip => exact key _ w' h3.1 h3.2.1 h3.2.2
        case enter fn args =>
          obtain ⟨e1, hc⟩ := h3
          rw [e1]
          exact hc.mono fun e w'' ⟨v, he, hb, hr, hf⟩ => by subst he; exact key v w'' hb hr hf
    · rw [if_neg (by simp [h1])]
      refine any_of_headM (n := n) hR hne hsl f s _ _ _ (by simpa using hz) (hw.keep ho (.inr fun hg => ?_)) fun p hp => ?_
      · simp [Region.wanted, hg] at h1
      · obtain ⟨v1, y1, k1⟩ := (h p hp).2.2 i hi hin o ho
        rcases y1 with ⟨g1, _⟩ | ⟨g1, _⟩ | ⟨_, g2⟩
        · rw [h1] at g1; cases g1
        · rw [h1] at g1; cases g1
        · rw [← g2]; exact k1
/-- the walk in the order of the text -/
def wpPro (P : Program) (md : Region.Mode) (ops : Array Oper) (B : World → Prop) (R : World → World → Prop) (F : Nat → Value → World → Prop) (lt : List Nat) (p : Nat → Value) (Q : Act → Prop) : Nat → List Oper → Act → Prop
  | _, [], a => Q a
  | k, o :: rest, a =>
    if Region.wanted o (yielded ops a.tmps) then
      (if pureB o.op then o.quiet P a (fun w => lt.contains k = false → B w) (wpPro P md ops B R F lt p Q (k + 1) rest) else lt.contains k = false ∧ (∀ w, B w → (∀ j, depB md ops o j = true → F j (p j) w) → proAt P B R (F k) o a w) ∧ wpPro P md ops B R F lt p Q (k + 1) rest (a.put o.dst (p k)))
    else wpPro P md ops B R F lt p Q (k + 1) rest (a.put o.dst undef)
theorem quietAt_class {C C' : World → Prop} {o : Oper} {a : Act} {w : World} {v : Value} (hp : pureB o.op = true) (h : o.quietAt P a C w v) : o.quietAt P a C' w v := by
  unfold Oper.quietAt at *
  cases hr : (execOp a.eval o).run P w with
  | halt x w' => rw [hr] at h; exact h.elim
  | ok nx w' =>
    obtain ⟨x, rfl⟩ := pureB_value hp hr
    rw [hr] at h
    exact h
theorem yp_of_wpPro {k : Nat} {o : Oper} {rest : List Oper} {a : Act} {Q : Act → Prop} (h : wpPro P md ops B R F lt p Q k (o :: rest) a) : ∃ v, Yp P md ops B R F lt p k o v a ∧ wpPro P md ops B R F lt p Q (k + 1) rest (a.put o.dst v) := by
  unfold wpPro at h
  by_cases hw : Region.wanted o (yielded ops a.tmps) = true
  · rw [if_pos hw] at h
    by_cases hp : pureB o.op = true
    · rw [if_pos hp] at h
      obtain ⟨v, h1, h2⟩ := h
      exact ⟨v, .inl ⟨hw, hp, fun w hC => quietAt_class hp (h1 w hC)⟩, h2⟩
    · rw [if_neg hp] at h
      exact ⟨p k, .inr (.inl ⟨hw, by simpa using hp, h.1, rfl, h.2.1⟩), h.2.2⟩
  · rw [if_neg hw] at h
    exact ⟨undef, .inr (.inr ⟨by simpa using hw, rfl⟩), h⟩
/-- operations from k on that are not late, each handing back one value, are walked as a quiet region is -/
theorem wpPro_seg0 {C : World → Prop} {Q : Act → Prop} (s : List Oper) : ∀ {k : Nat} {rest : List Oper} {a : Act}, s.all (fun o => pureB o.op) = true → (∀ w j, j < s.length → (lt.contains (k + j) = false → B w) → C w) → wpQuiet P ops C (fun a' => wpPro P md ops B R F lt p Q (k + s.length) rest a') s a → wpPro P md ops B R F lt p Q k (s ++ rest) a := by
  induction s with
  | nil => intro k rest a _ _ h; exact h
  | cons o s ih =>
    intro k rest a hp hC h
    simp only [List.all_cons, Bool.and_eq_true] at hp
    have hC' : ∀ w j, j < s.length → (lt.contains (k + 1 + j) = false → B w) → C w := fun w j hj hb => hC w (j + 1) (by simpa using hj) (by rw [show k + (j + 1) = k + 1 + j by omega]; exact hb)
    unfold wpQuiet at h
    show (if _ then _ else _)
    by_cases hw : Region.wanted o (yielded ops a.tmps) = true
    · rw [if_pos hw] at h ⊢
      rw [if_pos hp.1]
      obtain ⟨v, h1, h2⟩ := h
      exact ⟨v, fun w hl => quietAt_class hp.1 (h1 w (hC w 0 (by simp) hl)), ih hp.2 hC' (by simpa only [List.length_cons, Nat.add_assoc, Nat.add_comm 1] using h2)⟩
    · rw [if_neg hw] at h ⊢
      exact ih hp.2 hC' (by simpa only [List.length_cons, Nat.add_assoc, Nat.add_comm 1] using h)
theorem wpPro_seg {Q : Act → Prop} {k : Nat} (s : List Oper) (k' : Nat) {rest : List Oper} {a : Act} (hp : s.all (fun o => pureB o.op) = true) (hk : k + s.length = k') (hl : (List.range s.length).all (fun j => !lt.contains (k + j)) = true) (h : wpQuiet P ops B (fun a' => wpPro P md ops B R F lt p Q k' rest a') s a) : wpPro P md ops B R F lt p Q k (s ++ rest) a := by
  subst hk; exact wpPro_seg0 s hp (fun w j hj hb => hb (by simpa using List.all_eq_true.1 hl j (List.mem_range.2 hj))) h
/-- late operations look at no memory -/
theorem wpPro_late {Q : Act → Prop} {k : Nat} (s : List Oper) (k' : Nat) {rest : List Oper} {a : Act} (hp : s.all (fun o => pureB o.op) = true) (hk : k + s.length = k') (h : wpQuiet P ops (fun w' => ∃ _ : Unit, w' = w') (fun a' => wpPro P md ops B R F lt p Q k' rest a') s a) : wpPro P md ops B R F lt p Q k (s ++ rest) a := by
  subst hk; exact wpPro_seg0 s hp (fun w j hj hb => ⟨(), rfl⟩) h
theorem wpPro_call {Q : Act → Prop} {k : Nat} {o : Oper} {rest : List Oper} {a : Act} (hw : Region.wanted o (yielded ops a.tmps) = true) (hp : pureB o.op = false) (hl : lt.contains k = false)
    (h1 : ∀ w, B w → (∀ j, depB md ops o j = true → F j (p j) w) → proAt P B R (F k) o a w) (h2 : wpPro P md ops B R F lt p Q (k + 1) rest (a.put o.dst (p k))) : wpPro P md ops B R F lt p Q k (o :: rest) a := by
  unfold wpPro
  rw [if_pos hw, if_neg (by simp [hp])]
  exact ⟨hl, h1, h2⟩
theorem wpPro_skip {Q : Act → Prop} {k : Nat} {o : Oper} {rest : List Oper} {a : Act} (hw : Region.wanted o (yielded ops a.tmps) = false)
    (h2 : wpPro P md ops B R F lt p Q (k + 1) rest (a.put o.dst undef)) : wpPro P md ops B R F lt p Q k (o :: rest) a := by
  unfold wpPro
  rw [if_neg (by simp [hw])]
  exact h2
theorem wpPro_nil {Q : Act → Prop} {k : Nat} {a : Act} (h : Q a) : wpPro P md ops B R F lt p Q k [] a := h

theorem headM_first {n i : Nat} {oi : Oper} {v : Value} {Q : Exit → Act → World → Prop} (hi : ops[i]? = some oi) (hsel : ∀ (j : Nat) (o : Oper) cs b, ops[j]? = some o → o.op ≠ .select cs b)
    (hlt : ∀ done, HeadInv md ops n done → ∀ i, i < n → lt.contains i = false → done.getD i true = false → ∀ j ∈ Region.ready md ops done, j < n) (hin : i < n) (hil : lt.contains i = false) :
    ∀ (f : Nat) (done : Array Bool) (a : Act), HeadInv md ops n done →
      (∀ j oj, ops[j]? = some oj → j ≠ i → done.getD j true = false → (∀ e ∈ oj.after, Region.binds md e = true → e.on ≠ i) → oi.apart ops oj = true) →
      i ∈ Region.ready md ops done → Yp P md ops B R F lt p i oi v a → headM P md ops B R F lt Q p n f (done.setIfInBounds i true) (a.put oi.dst v) → headM P md ops B R F lt Q p n (f + 1) done a := by
  intro f
  induction f with
  | zero =>
    intro done a inv _ hr hy H
    have hun := (mem_ready.1 hr).1
    refine ⟨fun h => ?_, fun _ => ⟨fun h => (by rw [h] at hr; cases hr), hlt done inv i hin hil hun⟩, fun j hj _ => ?_⟩
    · have := h i hin hil
      rw [getD_both hun] at this; cases this
    by_cases hji : j = i
    · subst hji; exact hy.pOp hi H
    · have := ready_mono hj hji
      rw [H.2.1] at this; cases this
  | succ f ih =>
    intro done a inv hfree hr hy H
    have hun := (mem_ready.1 hr).1
    refine ⟨fun h => ?_, fun _ => ⟨fun h => (by rw [h] at hr; cases hr), hlt done inv i hin hil hun⟩, fun j hj hjn => ?_⟩
    · have := h i hin hil
      rw [getD_both hun] at this; cases this
    by_cases hji : j = i
    · subst hji; exact hy.pOp hi H
    · have h1 := H.2.2 j (ready_mono hj hji) hjn
      obtain ⟨hjun, oj, hoj, hall⟩ := mem_ready.1 hj
      have hnot : ∀ e ∈ oj.after, Region.binds md e = true → e.on ≠ i := fun e he hb heq => by
        have h1 := hall e he hb
        rw [heq, getD_both hun] at h1
        cases h1
      have h2 := pOp_put hoj (hfree j oj hoj hji hjun hnot) (fun cs b => hsel i oi cs b hi) (fun cs b => hsel j oj cs b hoj) hy h1
      have hfree' : ∀ k ok, ops[k]? = some ok → k ≠ i → (done.setIfInBounds j true).getD k true = false → (∀ e ∈ ok.after, Region.binds md e = true → e.on ≠ i) → oi.apart ops ok = true := fun k ok hk hki hun hno => by
        refine hfree k ok hk hki ?_ hno
        by_cases hjk : j = k
        · subst hjk; exact hjun
        · rw [getD_set_ne true hjk] at hun; exact hun
      refine pOp_mono (fun a' h3 => ih (done.setIfInBounds j true) a' (inv.set hj hjn) hfree' (ready_mono hr (Ne.symm hji)) h3.1 ?_) h2
      rw [Array.setIfInBounds_comm _ _ hji]
      exact h3.2
theorem Yp.yields {i : Nat} {o : Oper} {v : Value} {a : Act} (h : Yp P md ops B R F lt p i o v a) (hl : lt.contains i = true) : Yields P ops o v a := by
  rcases h with ⟨h1, h2, h3⟩ | ⟨_, _, h3, _⟩ | h
  · refine .inl ⟨h1, fun w => ?_⟩
    have h3 := h3 w fun h => by rw [hl] at h; cases h
    unfold Oper.quietAt at h3
    cases hr : (execOp a.eval o).run P w with
    | halt x w' => rw [hr] at h3; exact h3.elim
    | ok nx w' =>
      obtain ⟨x, rfl⟩ := pureB_value h2 hr
      rw [hr] at h3
      simp only [Oper.quietUpon] at h3
      rw [h3.1, h3.2]
  · rw [hl] at h3; cases h3
  · exact .inr h
theorem headM_late {n i : Nat} {oi : Oper} {v : Value} {Q : Exit → Act → World → Prop} (hz : n ≤ ops.size) (hQ : ∀ c a w dst v, Q (.panic c) (Act.put a dst v) w → Q (.panic c) a w) (hi : ops[i]? = some oi) (hsel : ∀ (j : Nat) (o : Oper) cs b, ops[j]? = some o → o.op ≠ .select cs b)
    (hlt : ∀ done, HeadInv md ops n done → ∀ i, i < n → lt.contains i = false → done.getD i true = false → ∀ j ∈ Region.ready md ops done, j < n) (hin : i < n) (hil : lt.contains i = true) :
    ∀ (f : Nat) (done : Array Bool) (a : Act), HeadInv md ops n done →
      (∀ j oj, ops[j]? = some oj → j ≠ i → done.getD j true = false → (∀ e ∈ oj.after, Region.binds md e = true → e.on ≠ i) → oi.apart ops oj = true) →
      i ∈ Region.ready md ops done → Yp P md ops B R F lt p i oi v a → headM P md ops B R F lt Q p n f (done.setIfInBounds i true) (a.put oi.dst v) → headM P md ops B R F lt Q p n (f + 1) done a := by
  have more : ∀ done, allH n lt done → allH n lt (done.setIfInBounds i true) := fun done h j hj hl => getD_set_true (h j hj hl)
  have lack : ∀ done, HeadInv md ops n done → ¬ allH n lt done → ∀ j ∈ Region.ready md ops done, j < n := fun done inv hna => by
    unfold allH at hna
    have ⟨j, hj⟩ := Classical.not_forall.1 hna
    have ⟨hjn, hj⟩ := Classical.not_imp.1 hj
    have ⟨hjl, hj⟩ := Classical.not_imp.1 hj
    exact hlt done inv j hjn hjl (getD_in (by rw [inv.size]; exact Nat.lt_of_lt_of_le hjn hz) (by simpa using hj))
  intro f
  induction f with
  | zero =>
    intro done a inv hfree hr hy H
    have hun := (mem_ready.1 hr).1
    refine ⟨fun h w hb hf => ?_, fun hna => ⟨fun h => (by rw [h] at hr; cases hr), lack done inv hna⟩, fun j hj _ => ?_⟩
    · exact wpAny_first hi hsel (fun c a w => hQ c a w _ _) 0 done a w hfree hr (hy.yields hil) ⟨H.2.1, H.2.2 w hb hf⟩
    by_cases hji : j = i
    · subst hji; exact hy.pOp hi H
    · have := ready_mono hj hji
      rw [H.2.1] at this; cases this
  | succ f ih =>
    intro done a inv hfree hr hy H
    have hun := (mem_ready.1 hr).1
    refine ⟨fun h w hb hf => ?_, fun hna => ⟨fun h => (by rw [h] at hr; cases hr), lack done inv hna⟩, fun j hj hjn => ?_⟩
    · exact wpAny_first hi hsel (fun c a w => hQ c a w _ _) (f + 1) done a w hfree hr (hy.yields hil) (H.1 (more done h) w hb hf)
    by_cases hji : j = i
    · subst hji; exact hy.pOp hi H
    · have h1 := H.2.2 j (ready_mono hj hji) hjn
      obtain ⟨hjun, oj, hoj, hall⟩ := mem_ready.1 hj
      have hnot : ∀ e ∈ oj.after, Region.binds md e = true → e.on ≠ i := fun e he hb heq => by
        have h1 := hall e he hb
        rw [heq, getD_both hun] at h1
        cases h1
      have h2 := pOp_put hoj (hfree j oj hoj hji hjun hnot) (fun cs b => hsel i oi cs b hi) (fun cs b => hsel j oj cs b hoj) hy h1
      have hfree' : ∀ k ok, ops[k]? = some ok → k ≠ i → (done.setIfInBounds j true).getD k true = false → (∀ e ∈ ok.after, Region.binds md e = true → e.on ≠ i) → oi.apart ops ok = true := fun k ok hk hki hun hno => by
        refine hfree k ok hk hki ?_ hno
        by_cases hjk : j = k
        · subst hjk; exact hjun
        · rw [getD_set_ne true hjk] at hun; exact hun
      refine pOp_mono (fun a' h3 => ih (done.setIfInBounds j true) a' (inv.set hj hjn) hfree' (ready_mono hr (Ne.symm hji)) h3.1 ?_) h2
      rw [Array.setIfInBounds_comm _ _ hji]
      exact h3.2
theorem headM_lex {n : Nat} {Q : Exit → Act → World → Prop} {tl : List Oper} (hQ : ∀ c a w dst v, Q (.panic c) (Act.put a dst v) w → Q (.panic c) a w) (hsel : Region.noSelect ops = true)
    (hlt : ∀ done, HeadInv md ops n done → ∀ i, i < n → lt.contains i = false → done.getD i true = false → ∀ j ∈ Region.ready md ops done, j < n) (htl : ∀ j, tl[j]? = ops[n + j]?) :
    ∀ (l : List Oper) (k : Nat) (done : Array Bool) (a : Act), (∀ j, j < l.length → l[j]? = ops[k + j]?) → k + l.length = n → n ≤ ops.size → HeadInv md ops n done → (∀ j, j < k → done.getD j false = true) → Region.lexHead md ops tl.length l.length k done = true →
    wpPro P md ops B R F lt p (fun a' => ∀ w', B w' → (∀ j, j < n → sureB ops j = true → F j (p j) w') → wpList P ops Q tl a' w') k l a →
    headM P md ops B R F lt Q p n (l.length + tl.length) done a
  | [], k, done, a, _, hk, _, _, hall, hB, h => by
    have : k = n := by simpa using hk
    subst this
    have hB : Region.seqB md ops tl.length k done = true := by simpa [Region.lexHead] using hB
    have hq : ∀ w, B w → (∀ j, j < k → sureB ops j = true → F j (p j) w) → wpAny P md ops Q tl.length done a w := fun w hb hf => wpAny_of_seq tl k done a w htl hB (h w hb hf)
    rw [List.length_nil, Nat.zero_add]
    cases tl with
    | nil =>
      refine ⟨fun i hi _ => hall i hi, by simpa [Region.seqB] using hB, fun w hb hf => (hq w hb hf).2⟩
    | cons o tl =>
      have hk0 := seqB_ready hB
      exact ⟨fun _ => hq, fun hna => absurd (fun i hi _ => hall i hi) hna, fun i hi hik => absurd (hk0 i hi) (by omega)⟩
  | o :: l, k, done, a, hl, hk, hz, inv, hall, hB, h => by
    have h0 : ops[k]? = some o := by simpa using (hl 0 (by simp)).symm
    simp only [List.length_cons, Region.lexHead, Bool.and_eq_true] at hB
    obtain ⟨⟨hr, hf⟩, hB'⟩ := hB
    have hkn : k < n := by simp only [List.length_cons] at hk; omega
    have hr' : k ∈ Region.ready md ops done := by simpa using hr
    obtain ⟨v, hy, hK⟩ := yp_of_wpPro h
    have H := headM_lex hQ hsel hlt htl l (k + 1) (done.setIfInBounds k true) _ (fun j hj => by have := hl (j + 1) (by simp; omega); simpa [Nat.add_assoc, Nat.add_comm 1 j] using this) (by simp only [List.length_cons] at hk; omega) hz (inv.set hr' hkn) (fun j hj => by
      by_cases hjk : j = k
      · subst hjk
        have : j < done.size := by rw [inv.size]; exact (Array.getElem?_eq_some_iff.1 h0).1
        simp [this]
      · exact getD_set_true (hall j (by omega))) hB' hK
    rw [List.length_cons, show l.length + 1 + tl.length = l.length + tl.length + 1 by omega]
    cases hl' : lt.contains k with
    | false => exact headM_first h0 (Region.noSelect_spec hsel) hlt hkn hl' _ done a inv (Region.free_spec h0 hf) hr' hy H
    | true => exact headM_late hz hQ h0 (Region.noSelect_spec hsel) hlt hkn hl' _ done a inv (Region.free_spec h0 hf) hr' hy H
/-- every operation of the head that is not late is waited for, through others, by operation n; those behind n wait for one another -/
def sinkL (md : Region.Mode) (ops : Array Oper) (lt : List Nat) (n : Nat) : Bool :=
  (List.range n).all fun i => lt.contains i || (List.range (n + 1)).any fun j => decide (i < j) && (j == n || !lt.contains j) && Region.waitsFor md ops j i
def tailB (md : Region.Mode) (ops : Array Oper) (lt : List Nat) (n : Nat) : Bool :=
  Region.noSelect ops && decide (n ≤ ops.size) && (n == ops.size || sinkL md ops lt n && Region.chainB md ops n) && (List.range ops.size).all (fun j => !sureB ops j || !lt.contains j) && Region.lexHead md ops (ops.size - n) n 0 (Array.replicate ops.size false)
theorem tail_waitsL {n : Nat} {done : Array Bool} (hs : sinkL md ops lt n = true) (hc : Region.chainB md ops n = true) (hn : n < ops.size) (inv : HeadInv md ops n done) :
    ∀ (d i : Nat), n - i = d → i < n → lt.contains i = false → done.getD i true = false → ∀ t, n ≤ t → t ∉ Region.ready md ops done := by
  intro d
  induction d using Nat.strongRecOn with
  | _ d ih =>
    intro i hd hi hil hun t ht hr
    obtain ⟨_, ot, hot, hall⟩ := mem_ready.1 hr
    have htlt : t < ops.size := (Array.getElem?_eq_some_iff.1 hot).1
    by_cases htn : t = n
    · subst htn
      have h1 := List.all_eq_true.1 hs i (List.mem_range.2 hi)
      simp only [hil, Bool.false_or] at h1
      obtain ⟨j, hj, hj2⟩ := List.any_eq_true.1 h1
      simp only [Bool.and_eq_true, decide_eq_true_eq, Bool.or_eq_true, beq_iff_eq, Bool.not_eq_true'] at hj2
      obtain ⟨oj, hoj, e, he, hb, hon⟩ := Region.waitsFor_spec hj2.2
      have hjle : j ≤ t := by have := List.mem_range.1 hj; omega
      by_cases hjt : j = t
      · subst hjt
        obtain rfl : oj = ot := Option.some.inj (hoj.symm.trans hot)
        have h2 := hall e he hb
        rw [hon, getD_both hun] at h2
        cases h2
      · have hjl : lt.contains j = false := by rcases hj2.1.2 with h | h; exact absurd h hjt; exact h
        cases hl : done.getD j false with
        | true =>
          have h2 := inv.closed j oj hoj hl e he hb
          rw [hon, getD_both hun] at h2
          cases h2
        | false =>
          have hjs : j < done.size := by rw [inv.size]; omega
          exact ih (t - j) (by omega) j rfl (by omega) hjl (getD_in hjs hl) t (Nat.le_refl _) hr
    · have h1 := List.all_eq_true.1 hc t (List.mem_range.2 htlt)
      simp only [Bool.or_eq_true, decide_eq_true_eq] at h1
      rcases h1 with h1 | h1
      · omega
      · obtain ⟨o', ho', e, he, hb, hon⟩ := Region.waitsFor_spec h1
        obtain rfl : o' = ot := Option.some.inj (ho'.symm.trans hot)
        have h2 := hall e he hb
        rw [hon, getD_both (inv.tail (t - 1) (by omega) (by omega))] at h2
        cases h2
/-- A REGION THAT DRAWS ITS ORDER: operations 0 to n-1 in the order of the text, with foretold values, then the last ones, from n on. 'lt': those of the first that may come among the last (they look at no memory). -/
theorem wp_region_pro {id : Nat} {Q : Exit → Act → World → Prop} {a : Act} {w : World} {l : List Oper} (n : Nat) (lt : List Nat) (B : World → Prop) (R : World → World → Prop) (F : Nat → Value → World → Prop) (hm : P.follows .mixedOrders = true) (hB : tailB .any l.toArray lt n = true)
    (hQ : ∀ c a w dst v, Q (.panic c) (Act.put a dst v) w → Q (.panic c) a w) (hR : ∀ m v w w', R w w' → F m v w → F m v w') (hne : ∀ m, ∃ v w', F m v w') (hw : B w.drew)
    (h : ∀ p, (∀ m, ∃ w', F m (p m) w') → wpPro P .any l.toArray B R F lt p (fun a' => ∀ w', B w' → (∀ j, j < n → sureB l.toArray j = true → F j (p j) w') → wpList P l.toArray Q (l.drop n) a' w') 0 (l.take n) a) : (Code.region id l.toArray true).wp P Q a w := by
  simp only [tailB, Bool.and_eq_true, decide_eq_true_eq, Bool.or_eq_true, beq_iff_eq] at hB
  obtain ⟨⟨⟨⟨hsel, hn⟩, hsc⟩, hsl⟩, hlex⟩ := hB
  have hn' : n ≤ l.length := by simpa using hn
  have htl : (l.take n).length = n := by simp; omega
  have hdl : (l.drop n).length = l.toArray.size - n := by simp
  have inv0 : HeadInv .any l.toArray n (Array.replicate l.toArray.size false) :=
    ⟨by simp, fun j oj _ hl => (by rw [getD_replicate_false] at hl; cases hl), fun t _ ht => getD_in (by simpa using ht) (getD_replicate_false _ _)⟩
  have hlt : ∀ done, HeadInv .any l.toArray n done → ∀ i, i < n → lt.contains i = false → done.getD i true = false → ∀ j ∈ Region.ready .any l.toArray done, j < n := fun done inv i hin hil hun j hj => by
    rcases hsc with hsc | ⟨hs, hc⟩
    · obtain ⟨_, o, ho, _⟩ := mem_ready.1 hj
      rw [hsc]; exact (Array.getElem?_eq_some_iff.1 ho).1
    · rcases Nat.lt_or_ge j n with h | h
      · exact h
      · have hns : n < l.toArray.size := by
          obtain ⟨_, o, ho, _⟩ := mem_ready.1 hj
          have := (Array.getElem?_eq_some_iff.1 ho).1
          omega
        exact absurd hj (tail_waitsL hs hc hns inv _ i rfl hin hil hun j h)
  have H := fun p hp => headM_lex (md := .any) hQ hsel hlt (tl := l.drop n) (fun j => by simp [List.getElem?_drop]) (l.take n) 0 _ a (fun j hj => by
    have hj' : j < n := by rw [htl] at hj; exact hj
    simp [hj']) (by simpa using htl) hn inv0 (fun j hj => absurd hj (by omega)) (by rw [htl, hdl]; exact hlex) (h p hp)
  refine wp_region_any hm ?_
  have := any_of_headM (n := n) (md := .any) (ops := l.toArray) (Q := Q) (lt := lt) hR hne (fun j hj => by
    have hjs : j < l.toArray.size := by obtain ⟨o, ho, _⟩ := sureB_spec hj; exact (Array.getElem?_eq_some_iff.1 ho).1
    have := List.all_eq_true.1 hsl j (List.mem_range.2 hjs)
    simpa [hj] using this) l.toArray.size (fun _ => none) (Array.replicate l.toArray.size false) a w.drew (by simp) ⟨hw, fun m v hm => (nomatch hm), fun m _ hd => (by rw [getD_replicate_false] at hd; cases hd), fun m v hm => (nomatch hm)⟩ (fun p hp => by
      have := H p hp.may
      rwa [htl, hdl, show n + (l.toArray.size - n) = l.toArray.size by omega] at this)
  exact this
theorem cell_of_heap {w : World} {b i : Nat} {cs : Array Value} {T : TypeId} {v : Value} (h : w.heap[b]? = some (.cells cs T (0, 0))) (hv : cs[i]? = some v) : w.cell? ⟨b, i, none⟩ = some v := by
  simp [World.cell?, h, hv]
theorem frozen_of_heap {w : World} {b i : Nat} {cs : Array Value} {T : TypeId} (h : w.heap[b]? = some (.cells cs T (0, 0))) : w.frozen? ⟨b, i, none⟩ = false := by
  simp [World.frozen?, h]
theorem lt_of_heap {w : World} {b : Nat} {o : Obj} (h : w.heap[b]? = some o) : b < w.heap.size := (Array.getElem?_eq_some_iff.1 h).1
theorem Own.set {α : Type} {w : World} {lo : Nat} {e : TypeId} {enc : α → List Value} {k n c b i : Nat} {A : Option Addr} {l : List α} {s : Option Nat} {v : Value} (h : Own w lo e enc k A n c l) (hb : (∃ cs T, w.heap[b]? = some (.cells cs T (0, 0)) ∧ e ≠ T) ∨ b < lo) : Own (w.setCell ⟨b, i, s⟩ v) lo e enc k A n c l := by
  refine ⟨h.1, ?_⟩
  rcases h.2 with h2 | ⟨g, cur, h1, h2, h3, h4⟩
  · exact .inl h2
  · refine .inr ⟨g, cur, h1, h2, (Below.heap_setCell w _ v g ?_).trans h3, h4⟩
    rintro rfl
    rcases hb with ⟨cs, T, hb, hT⟩ | hb
    · try dsimp only at h3
      rw [hb] at h3
      injection h3 with h3
      injection h3 with _ h3 _
      exact hT h3.symm
    · (try dsimp only at h2); omega
theorem Own.set_ne {α : Type} {w : World} {lo : Nat} {e : TypeId} {enc : α → List Value} {k n c b i : Nat} {A : Option Addr} {l : List α} {s : Option Nat} {v : Value} (h : Own w lo e enc k A n c l) (hA : ∀ p, A = some p → p.block ≠ b) : Own (w.setCell ⟨b, i, s⟩ v) lo e enc k A n c l :=
  h.keep fun g hg _ _ => Below.heap_setCell w _ v g (hA _ hg)
theorem grown_froz {w w' : World} {A : Option Addr} {g o : Nat} (h : w.grownBy w' (rowOf A)) (hA : ∀ p, A = some p → p.block ≠ g) (hg : g < w.heap.size) : w'.frozen? ⟨g, o, none⟩ = w.frozen? ⟨g, o, none⟩ :=
  World.frozen?_of_block (h.block g hg (by cases A with | none => simp [rowOf] | some p => intro e; simp only [rowOf, Option.some.injEq] at e; exact hA p rfl e.symm))
/-- what is stated of the value of operation k -/
def Fc (k : Nat) (G : Value → World → Prop) (F : Nat → Value → World → Prop) : Nat → Value → World → Prop := fun m v w => if m = k then G v w else F m v w
def F0 : Nat → Value → World → Prop := fun _ _ _ => True
theorem F0_keep {R : World → World → Prop} : ∀ m v w w', R w w' → F0 m v w → F0 m v w' := fun _ _ _ _ _ h => h
theorem F0_some : ∀ m, ∃ v w', F0 m v w' := fun _ => ⟨undef, default, trivial⟩
theorem Fc_keep {R : World → World → Prop} {k : Nat} {G : Value → World → Prop} {F : Nat → Value → World → Prop} (h : ∀ v w w', R w w' → G v w → G v w') (hF : ∀ m v w w', R w w' → F m v w → F m v w') : ∀ m v w w', R w w' → Fc k G F m v w → Fc k G F m v w' := fun m v w w' hr hf => by
  unfold Fc at *
  split
  · rename_i hm; rw [if_pos hm] at hf; exact h v w w' hr hf
  · rename_i hm; rw [if_neg hm] at hf; exact hF m v w w' hr hf
theorem Fc_some {k : Nat} {G : Value → World → Prop} {F : Nat → Value → World → Prop} (h : ∃ v w', G v w') (hF : ∀ m, ∃ v w', F m v w') : ∀ m, ∃ v w', Fc k G F m v w' := fun m => by
  unfold Fc
  split
  · exact h
  · exact hF m
/-- the worlds behind w in which all but block g is as it was, and a cursor lies at g -/
structure CurW (w : World) (g : Nat) where
  val : World
  cur : Cur val g
  ox : Ox g w val
theorem CurW.bel {w w' : World} {g : Nat} (x : CurW w g) (h : Bel x.val w') : ∃ y : CurW w g, w' = y.val :=
  ⟨⟨w', x.cur.bel h, @Ox.step' _ _ _ _ ⟨h.out⟩ x.ox⟩, rfl⟩
theorem CurW.next {w w' : World} {g : Nat} (x : CurW w g) (hc : Cur w' g) (h : Ox g x.val w') : ∃ y : CurW w g, w' = y.val :=
  ⟨⟨w', hc, @Ox.oe' _ _ _ _ ⟨h.out⟩ x.ox⟩, rfl⟩
/-- a draw -/
theorem Calls.draw {f : FuncId} {args : Array Value} {w : World} {g : Nat} {G : Value → World → Prop} {x : CurW w g} (h : Calls P f args x.val fun e w' => ∃ v, e = .returned v ∧ G v w' ∧ Cur w' g ∧ Ox g x.val w') : Calls P f args x.val (ProPost (fun w' => ∃ x : CurW w g, w' = x.val) (Ox g) G x.val) :=
  h.mono fun _ _ ⟨v, he, hg, hc, ho⟩ => ⟨v, he, x.next hc ho, ho, hg⟩
/-- a call that leaves all that was there as it was -/
theorem Calls.still {f : FuncId} {args : Array Value} {w : World} {g : Nat} {G : Value → World → Prop} {x : CurW w g} (h : Calls P f args x.val fun e w' => ∃ v, e = .returned v ∧ G v w' ∧ Bel x.val w') : Calls P f args x.val (ProPost (fun w' => ∃ x : CurW w g, w' = x.val) (Ox g) G x.val) :=
  h.mono fun _ _ ⟨v, he, hg, ho⟩ => ⟨v, he, x.bel ho, Ox.of_bel ho, hg⟩
theorem region_cur {id : Nat} {Q : Exit → Act → World → Prop} {a : Act} {w : World} {l : List Oper} {g : Nat} (n : Nat) (lt : List Nat) (F : Nat → Value → World → Prop) (hcur : Cur w g) (hm : P.follows .mixedOrders = true) (hB : tailB .any l.toArray lt n = true)
    (hQ : ∀ c a w dst v, Q (.panic c) (Act.put a dst v) w → Q (.panic c) a w) (hR : ∀ m v w w', Ox g w w' → F m v w → F m v w') (hne : ∀ m, ∃ v w', F m v w')
    (h : Nonempty (CurW w g) → (∀ x : CurW w g, ∀ b o, b < w.heap.size → b ≠ g → x.val.cell? ⟨b, o, none⟩ = w.cell? ⟨b, o, none⟩) → ∀ p, (∀ m, ∃ w', F m (p m) w') →
      wpPro P .any l.toArray (fun w' => ∃ x : CurW w g, w' = x.val) (Ox g) F lt p (fun a' => ∀ w', (∃ x : CurW w g, w' = x.val) → (∀ j, j < n → sureB l.toArray j = true → F j (p j) w') → wpList P l.toArray Q (l.drop n) a' w') 0 (l.take n) a) : (Code.region id l.toArray true).wp P Q a w :=
  wp_region_pro n lt (fun w' => ∃ x : CurW w g, w' = x.val) (Ox g) F hm hB hQ hR hne ⟨⟨w.drew, hcur.bel inferInstance, inferInstance⟩, rfl⟩ (h ⟨⟨w, hcur, inferInstance⟩⟩ fun x b o hb hg => (stdo x.ox).2.1 b o hb hg)
end
end Go.Proofs.Ytiheokjolaclnaa

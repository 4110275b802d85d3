/- The reference's times: they rise, and hold what they should. -/
import Derived.Test.YtiheokjolaclnaaTimes
namespace Go.Proofs.Ytiheokjolaclnaa
def insS (t : Int) : List Int → List Int
  | [] => [t]
  | x :: l => if t ≤ x then t :: (x :: l).filter (· != t) else x :: insS t l
theorem insFold_true (t : Int) : ∀ (l acc : List Int), l.foldl (insStep t) (acc, true) = (acc ++ l.filter (· != t), true) := by
  intro l
  induction l with
  | nil => intro acc; simp
  | cons x l ih =>
    intro acc
    rw [List.foldl_cons]
    have : insStep t (acc, true) x = (acc ++ [x].filter (· != t), true) := by
      by_cases h : x = t <;> simp [insStep, h]
    rw [this, ih, List.append_assoc, ← List.filter_append]; rfl
def endS (t : Int) (s : List Int × Bool) : List Int := if s.2 then s.1 else s.1 ++ [t]
theorem insFold_false (t : Int) : ∀ (l acc : List Int), endS t (l.foldl (insStep t) (acc, false)) = acc ++ insS t l := by
  intro l
  induction l with
  | nil => intro acc; simp [insS, endS]
  | cons x l ih =>
    intro acc
    rw [List.foldl_cons]
    by_cases h : t ≤ x
    · have : insStep t (acc, false) x = (acc ++ [t] ++ [x].filter (· != t), true) := by
        by_cases h2 : x = t <;> simp [insStep, h, h2]
      rw [this, insFold_true]
      simp only [insS, if_pos h, endS, if_true, List.append_assoc, ← List.filter_append]
      rfl
    · have : insStep t (acc, false) x = (acc ++ [x], false) := by
        have h2 : x ≠ t := by omega
        simp [insStep, h, h2]
      rw [this, ih]
      simp [insS, h]
theorem insT_eq (t : Int) (l : List Int) : insT t l = insS t l := by
  have := insFold_false t l []
  rw [List.nil_append] at this
  rw [← this]
  unfold insT insTo endS
  rw [List.take_of_length_le (Nat.le_refl _)]
theorem mem_insS {t z : Int} : ∀ {l : List Int}, z ∈ insS t l ↔ z = t ∨ z ∈ l := by
  intro l
  induction l with
  | nil => simp [insS]
  | cons x l ih =>
    unfold insS
    split
    · simp only [List.mem_cons, List.mem_filter, bne_iff_ne, ne_eq]
      by_cases h : z = t <;> simp [h]
    · simp only [List.mem_cons, ih]
      constructor
      · rintro (h | h | h) <;> simp [h]
      · rintro (h | h | h) <;> simp [h]
def Up (l : List Int) : Prop := l.Pairwise (· < ·)
theorem up_filter {l : List Int} (h : Up l) (p : Int → Bool) : Up (l.filter p) := List.Pairwise.filter p h
theorem up_insS {t : Int} : ∀ {l : List Int}, Up l → Up (insS t l) := by
  intro l
  induction l with
  | nil => intro _; simp [insS, Up]
  | cons x l ih =>
    intro h
    have h' := List.pairwise_cons.1 h
    unfold insS
    split
    · refine List.pairwise_cons.2 ⟨fun z hz => ?_, up_filter h _⟩
      simp only [List.mem_filter, bne_iff_ne, ne_eq, List.mem_cons] at hz
      rcases hz.1 with h1 | h1
      · have := hz.2; omega
      · have := h'.1 z h1; omega
    · refine List.pairwise_cons.2 ⟨fun z hz => ?_, ih h'.2⟩
      rcases mem_insS.1 hz with h1 | h1
      · omega
      · exact h'.1 z h1
theorem up_next {l : List Int} (h : Up l) {t x : Int} (ht : t ∈ l) {k : Nat} (hx : l[k]? = some x) (hlt : x < t) : k + 1 < l.length := by
  obtain ⟨hk, rfl⟩ := List.getElem?_eq_some_iff.1 hx
  obtain ⟨j, hj, rfl⟩ := List.getElem_of_mem ht
  rcases Nat.lt_or_ge k j with h1 | h1
  · omega
  · exfalso
    rcases Nat.eq_or_lt_of_le h1 with h2 | h2
    · subst h2; omega
    · have := List.pairwise_iff_getElem.1 h j k hj hk h2; omega
theorem up_head {x : Int} {l : List Int} (h : Up (x :: l)) : ∀ y ∈ l, x < y := (List.pairwise_cons.1 h).1
theorem filter_ne {t : Int} {l : List Int} (h : ∀ y ∈ l, t < y) : l.filter (· != t) = l := List.filter_eq_self.2 (by intro y hy; have := h y hy; simp; omega)
theorem insS_lt {t x : Int} {l : List Int} (h : x < t) : insS t (x :: l) = x :: insS t l := by simp [insS]; omega
theorem insS_eq {t : Int} {l : List Int} (h : Up (t :: l)) : insS t (t :: l) = t :: l := by
  have := filter_ne (up_head h)
  simp [insS]; simpa using this
theorem insS_gt {t x : Int} {l : List Int} (h : Up (x :: l)) (hx : t < x) : insS t (x :: l) = t :: x :: l := by
  have h2 : ∀ y ∈ x :: l, t < y := by
    intro y hy
    rcases List.mem_cons.1 hy with h3 | h3
    · omega
    · have := up_head h y h3; omega
  unfold insS
  rw [if_pos (by omega), filter_ne h2]
end Go.Proofs.Ytiheokjolaclnaa

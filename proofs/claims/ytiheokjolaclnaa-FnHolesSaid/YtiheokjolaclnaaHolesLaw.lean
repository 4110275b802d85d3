/- The free intervals of the program and those of the reference are the same; they hold just the times at which the request fits. Plain lists, no program in sight. -/
import Derived.Test.YtiheokjolaclnaaSpecOut
namespace Go.Proofs.Ytiheokjolaclnaa
/-- intervals in rising order that do not touch -/
def Nrm (l : List Hole) : Prop := l.Pairwise (fun a b => a.t < b.f) ∧ ∀ a ∈ l, a.f < a.t
def hin (l : List Hole) (s : Int) : Prop := ∃ a ∈ l, a.f ≤ s ∧ s < a.t
theorem concat_cases {α : Type} (l : List α) : l = [] ∨ ∃ l' y, l = l' ++ [y] := by
  rcases List.eq_nil_or_concat l with h | ⟨l', y, h⟩
  · exact .inl h
  · exact .inr ⟨l', y, by simpa using h⟩
theorem addHole_concat (l : List Hole) (y h : Hole) : addHole (l ++ [y]) h = if y.t == h.f then l ++ [⟨y.f, h.t⟩] else l ++ [y] ++ [h] := by
  unfold addHole
  simp
theorem add_norm {l : List Hole} {h : Hole} (hn : Nrm l) (hh : h.f < h.t) (hle : ∀ a ∈ l, a.t ≤ h.f) :
    Nrm (addHole l h) ∧ (∀ s, hin (addHole l h) s ↔ hin l s ∨ (h.f ≤ s ∧ s < h.t)) ∧ (∀ a ∈ addHole l h, a.t ≤ h.t) ∧ (∀ lo, (∀ a ∈ l, lo ≤ a.f) → lo ≤ h.f → ∀ a ∈ addHole l h, lo ≤ a.f) := by
  rcases concat_cases l with rfl | ⟨l, y, rfl⟩
  · simp [addHole, Nrm, hin, hh]
  · obtain ⟨hp, hf⟩ := hn
    simp only [List.pairwise_append, List.mem_append, List.mem_singleton, List.pairwise_singleton, true_and] at hp hf hle
    obtain ⟨hp1, hp2⟩ := hp
    have hy := hf y (.inr rfl)
    have hyl := hle y (.inr rfl)
    rw [addHole_concat]
    by_cases hc : y.t = h.f
    · simp only [hc, beq_self_eq_true, if_true]
      refine ⟨⟨?_, ?_⟩, ?_, ?_, ?_⟩
      · rw [List.pairwise_append]
        refine ⟨hp1, List.pairwise_singleton _ _, fun a ha b hb => ?_⟩
        rw [List.mem_singleton] at hb; subst hb
        exact hp2 a ha y rfl
      · intro a ha
        rw [List.mem_append, List.mem_singleton] at ha
        rcases ha with ha | rfl
        · exact hf a (.inl ha)
        · show y.f < h.t; omega
      · intro s
        simp only [hin, List.mem_append, List.mem_singleton]
        constructor
        · rintro ⟨a, ha | rfl, h1, h2⟩
          · exact .inl ⟨a, .inl ha, h1, h2⟩
          · by_cases hs : s < y.t
            · exact .inl ⟨y, .inr rfl, h1, hs⟩
            · exact .inr ⟨by omega, h2⟩
        · rintro (⟨a, ha | rfl, h1, h2⟩ | ⟨h1, h2⟩)
          · exact ⟨a, .inl ha, h1, h2⟩
          · exact ⟨_, .inr rfl, h1, by show s < h.t; omega⟩
          · exact ⟨_, .inr rfl, by show y.f ≤ s; omega, h2⟩
      · intro a ha
        rw [List.mem_append, List.mem_singleton] at ha
        rcases ha with ha | rfl
        · have := hle a (.inl ha); omega
        · exact Int.le_refl _
      · intro lo hlo _ a ha
        rw [List.mem_append, List.mem_singleton] at ha
        rcases ha with ha | rfl
        · exact hlo a (by simp [ha])
        · exact hlo y (by simp)
    · have hc' : (y.t == h.f) = false := by simpa using hc
      rw [hc', if_neg (by simp)]
      refine ⟨⟨?_, ?_⟩, ?_, ?_, ?_⟩
      · rw [List.pairwise_append, List.pairwise_append]
        refine ⟨⟨hp1, List.pairwise_singleton _ _, fun a ha b hb => ?_⟩, List.pairwise_singleton _ _, fun a ha b hb => ?_⟩
        · rw [List.mem_singleton] at hb; subst hb; exact hp2 a ha b rfl
        · rw [List.mem_singleton] at hb; subst hb
          rw [List.mem_append, List.mem_singleton] at ha
          rcases ha with ha | rfl
          · have := hp2 a ha y rfl; omega
          · omega
      · intro a ha
        simp only [List.mem_append, List.mem_singleton] at ha
        rcases ha with (ha | rfl) | rfl
        · exact hf a (.inl ha)
        · exact hy
        · exact hh
      · intro s
        simp only [hin, List.mem_append, List.mem_singleton]
        constructor
        · rintro ⟨a, (ha | rfl) | rfl, h1, h2⟩
          · exact .inl ⟨a, .inl ha, h1, h2⟩
          · exact .inl ⟨_, .inr rfl, h1, h2⟩
          · exact .inr ⟨h1, h2⟩
        · rintro (⟨a, ha, h1, h2⟩ | ⟨h1, h2⟩)
          · exact ⟨a, .inl ha, h1, h2⟩
          · exact ⟨_, .inr rfl, h1, h2⟩
      · intro a ha
        simp only [List.mem_append, List.mem_singleton] at ha
        rcases ha with (ha | rfl) | rfl
        · have := hle a (.inl ha); omega
        · omega
        · exact Int.le_refl _
      · intro lo hlo hlh a ha
        simp only [List.mem_append, List.mem_singleton] at ha
        rcases ha with (ha | rfl) | rfl
        · exact hlo a (by simp [ha])
        · exact hlo _ (by simp)
        · exact hlh
theorem nrm_cons {a : Hole} {l : List Hole} (h : Nrm (a :: l)) : Nrm l ∧ a.f < a.t ∧ ∀ b ∈ l, a.t < b.f := by
  obtain ⟨h1, h2⟩ := h
  rw [List.pairwise_cons] at h1
  exact ⟨⟨h1.2, fun b hb => h2 b (List.mem_cons_of_mem _ hb)⟩, h2 a (List.mem_cons_self ..), h1.1⟩
theorem hin_cons {a : Hole} {l : List Hole} {s : Int} : hin (a :: l) s ↔ (a.f ≤ s ∧ s < a.t) ∨ hin l s := by
  simp only [hin, List.mem_cons]
  constructor
  · rintro ⟨b, rfl | hb, h1, h2⟩
    · exact .inl ⟨h1, h2⟩
    · exact .inr ⟨b, hb, h1, h2⟩
  · rintro (⟨h1, h2⟩ | ⟨b, hb, h1, h2⟩)
    · exact ⟨a, .inl rfl, h1, h2⟩
    · exact ⟨b, .inr hb, h1, h2⟩
theorem hin_gt {l : List Hole} {x s : Int} (h : ∀ b ∈ l, x < b.f) (hs : hin l s) : x < s := by
  obtain ⟨b, hb, h1, _⟩ := hs
  have := h b hb; omega
theorem nrm_eq : ∀ {a b : List Hole}, Nrm a → Nrm b → (∀ s, hin a s ↔ hin b s) → a = b := by
  intro a
  induction a with
  | nil =>
    intro b _ hb h
    cases b with
    | nil => rfl
    | cons y b =>
      have := (nrm_cons hb).2.1
      have := (h y.f).2 (hin_cons.2 (.inl ⟨Int.le_refl _, this⟩))
      obtain ⟨_, hm, _⟩ := this; cases hm
  | cons x a ih =>
    intro b ha hb h
    obtain ⟨na, xa, ga⟩ := nrm_cons ha
    cases b with
    | nil =>
      have := (h x.f).1 (hin_cons.2 (.inl ⟨Int.le_refl _, xa⟩))
      obtain ⟨_, hm, _⟩ := this; cases hm
    | cons y b =>
      obtain ⟨nb, yb, gb⟩ := nrm_cons hb
      have la : ∀ s, hin (x :: a) s → x.f ≤ s := fun s hs => by
        rcases hin_cons.1 hs with h | h
        · exact h.1
        · have := hin_gt ga h; omega
      have lb : ∀ s, hin (y :: b) s → y.f ≤ s := fun s hs => by
        rcases hin_cons.1 hs with h | h
        · exact h.1
        · have := hin_gt gb h; omega
      have e1 : x.f = y.f := by
        have h1 := lb _ ((h x.f).1 (hin_cons.2 (.inl ⟨Int.le_refl _, xa⟩)))
        have h2 := la _ ((h y.f).2 (hin_cons.2 (.inl ⟨Int.le_refl _, yb⟩)))
        omega
      have nx : ¬ hin (x :: a) x.t := fun hs => by
        rcases hin_cons.1 hs with h | h
        · omega
        · have := hin_gt ga h; omega
      have ny : ¬ hin (y :: b) y.t := fun hs => by
        rcases hin_cons.1 hs with h | h
        · omega
        · have := hin_gt gb h; omega
      have e2 : x.t = y.t := by
        rcases Int.lt_trichotomy x.t y.t with hlt | he | hlt
        · exact absurd ((h x.t).2 (hin_cons.2 (.inl ⟨by omega, hlt⟩))) nx
        · exact he
        · exact absurd ((h y.t).1 (hin_cons.2 (.inl ⟨by omega, hlt⟩))) ny
      have e3 : x = y := by cases x; cases y; simp only [Hole.mk.injEq]; exact ⟨e1, e2⟩
      subst e3
      rw [ih na nb fun s => ?_]
      constructor
      · intro hs
        have hg := hin_gt ga hs
        rcases hin_cons.1 ((h s).1 (hin_cons.2 (.inr hs))) with h | h
        · omega
        · exact h
      · intro hs
        have hg := hin_gt gb hs
        rcases hin_cons.1 ((h s).2 (hin_cons.2 (.inr hs))) with h | h
        · omega
        · exact h
/-! ## what is free between two points -/
theorem vfree_const {l : List Pt} {x s : Int} (h : ∀ p ∈ l, p.t ≤ s ↔ p.t ≤ x) : vfree l s = vfree l x := by
  unfold vfree
  generalize (⟨0, 0, 0⟩ : Vec) = z
  induction l generalizing z with
  | nil => rfl
  | cons p l ih =>
    simp only [List.foldl_cons]
    simp only [h p (List.mem_cons_self ..)]
    exact ih (fun q hq => h q (List.mem_cons_of_mem _ hq)) _
theorem up_get {l : List Pt} (h : profOk l = true) {i j : Nat} {x y : Pt} (hx : l[i]? = some x) (hy : l[j]? = some y) (hij : i < j) : x.t < y.t := by
  have hu := profOk_up h
  have hj : j < (l.map Pt.t).length := by simpa using (List.getElem?_eq_some_iff.1 hy).1
  have := List.pairwise_iff_getElem.1 hu i j (by omega) hj hij
  simp only [List.getElem_map] at this
  obtain ⟨_, e1⟩ := List.getElem?_eq_some_iff.1 hx
  obtain ⟨_, e2⟩ := List.getElem?_eq_some_iff.1 hy
  rw [e1, e2] at this
  exact this
theorem vfree_at {l : List Pt} (h : profOk l = true) {k : Nat} {x : Pt} (hx : l[k]? = some x) {s : Int} (h1 : x.t ≤ s) (h2 : ∀ y, l[k + 1]? = some y → s < y.t) : vfree l s = x.f := by
  have key : ∀ d, vfree (l.take (k + 1 + d)) s = x.f := fun d => by
    induction d with
    | zero => rw [Nat.add_zero, vfree_succ hx, if_pos h1]
    | succ d ih =>
      rw [← Nat.add_assoc]
      cases hy : l[k + 1 + d]? with
      | none =>
        rw [List.take_of_length_le (by have := List.getElem?_eq_none_iff.1 hy; omega)]
        rw [List.take_of_length_le (List.getElem?_eq_none_iff.1 hy)] at ih
        exact ih
      | some y =>
        rw [vfree_succ hy, if_neg, ih]
        cases d with
        | zero => have := h2 y hy; omega
        | succ d =>
          obtain ⟨hl, _⟩ := List.getElem?_eq_some_iff.1 hy
          have hz : l[k + 1]? = some l[k + 1] := List.getElem?_eq_getElem (by omega)
          have := h2 _ hz
          have := up_get h hz hy (by omega)
          omega
  have := key l.length
  rwa [List.take_of_length_le (by omega)] at this
theorem profOk_zero {l : List Pt} (h : profOk l = true) : ∃ x, l[0]? = some x ∧ x.t = 0 := by
  have hl := profOk_len h
  have hx : l[0]? = some l[0] := List.getElem?_eq_getElem (by omega)
  refine ⟨_, hx, ?_⟩
  simp only [profOk, Bool.and_eq_true, decide_eq_true_eq] at h
  rw [hx] at h
  simpa using h.1.2
/-! ## the program's list -/
theorem implIn {l : List Pt} {f t : Int} {v : Vec} (h : profOk l = true) (hf : 0 ≤ f) (hft : f < t) : ∀ k, k ≤ l.length →
    Nrm (holesTo l f t v k) ∧ (∀ a ∈ holesTo l f t v k, f ≤ a.f ∧ a.t ≤ t ∧ ∀ x, l[k]? = some x → a.t ≤ x.t) ∧
    ∀ s, hin (holesTo l f t v k) s ↔ f ≤ s ∧ s < t ∧ (∀ x, l[k]? = some x → s < x.t) ∧ v.fits (vfree l s) = true := by
  intro k
  induction k with
  | zero =>
    intro _
    obtain ⟨x, hx, hx0⟩ := profOk_zero h
    refine ⟨⟨List.Pairwise.nil, fun a ha => (by cases ha)⟩, fun a ha => (by cases ha), fun s => ⟨fun ⟨a, ha, _⟩ => (by cases ha), fun ⟨h1, h2, h3, _⟩ => ?_⟩⟩
    have := h3 x hx
    omega
  | succ k ih =>
    intro hk
    obtain ⟨i1, i2, i3⟩ := ih (by omega)
    have hx : l[k]? = some l[k] := List.getElem?_eq_getElem (by omega)
    generalize l[k] = x at hx
    have hend : endOf l t k ≤ t ∧ (∀ y, l[k + 1]? = some y → endOf l t k ≤ y.t) ∧ ∀ s, s < endOf l t k ↔ s < t ∧ ∀ y, l[k + 1]? = some y → s < y.t := by
      unfold endOf
      cases hy : l[k + 1]? with
      | none => exact ⟨Int.le_refl _, fun y hy => (by cases hy), fun s => ⟨fun h => ⟨h, fun y hy => (by cases hy)⟩, fun h => h.1⟩⟩
      | some y =>
        refine ⟨by (try simp only []); omega, fun z hz => by injection hz with hz; subst hz; simp only []; omega, fun s => ⟨fun h => ⟨by (try simp only [] at h); omega, fun z hz => by injection hz with hz; subst hz; simp only [] at h; omega⟩, fun h => ?_⟩⟩
        have := h.2 y rfl
        try simp only []
        omega
    have hup : ∀ y, l[k + 1]? = some y → x.t < y.t := fun y hy => up_get h hx hy (by omega)
    obtain ⟨e1, e2, e3⟩ := hend
    rw [holesTo_succ hx rfl]
    generalize endOf l t k = e at *
    have hold : ∀ s, (f ≤ s ∧ s < t ∧ (∀ y, l[k + 1]? = some y → s < y.t) ∧ v.fits (vfree l s) = true) ↔ hin (holesTo l f t v k) s ∨ (max f x.t ≤ s ∧ s < e ∧ v.fits x.f = true) := fun s => by
      rw [i3 s, e3 s]
      constructor
      · rintro ⟨h1, h2, h3, h4⟩
        by_cases hs : s < x.t
        · exact .inl ⟨h1, h2, fun z hz => by rw [hx] at hz; injection hz with hz; subst hz; exact hs, h4⟩
        · rw [vfree_at h hx (by omega) h3] at h4
          exact .inr ⟨by omega, ⟨h2, h3⟩, h4⟩
      · rintro (⟨h1, h2, h3, h4⟩ | ⟨h1, ⟨h2, h3⟩, h4⟩)
        · have := h3 x hx
          exact ⟨h1, h2, fun y hy => by have := hup y hy; omega, h4⟩
        · refine ⟨by omega, h2, h3, ?_⟩
          rw [vfree_at h hx (by omega) h3]; exact h4
    split
    · rename_i hc
      refine ⟨i1, fun a ha => ⟨(i2 a ha).1, (i2 a ha).2.1, fun y hy => by have := (i2 a ha).2.2 x hx; have := hup y hy; omega⟩, fun s => ?_⟩
      rw [hold]
      exact ⟨.inl, fun h => h.elim id fun h => by omega⟩
    · rename_i hc
      split
      · rename_i hfit
        obtain ⟨n1, n2, n3, n4⟩ := add_norm (h := ⟨max f x.t, e⟩) i1 (by show max f x.t < e; omega) (fun a ha => by have := (i2 a ha).2.2 x hx; show a.t ≤ max f x.t; omega)
        refine ⟨n1, fun a ha => ⟨n4 f (fun b hb => (i2 b hb).1) (by show f ≤ max f x.t; omega) a ha, ?_, fun y hy => ?_⟩, fun s => ?_⟩
        · have q := n3 a ha; change a.t ≤ e at q; omega
        · have q := n3 a ha; have q2 := e2 y hy; change a.t ≤ e at q; omega
        · rw [hold, n2]
          simp only [hfit, and_true]
      · rename_i hfit
        refine ⟨i1, fun a ha => ⟨(i2 a ha).1, (i2 a ha).2.1, fun y hy => by have := (i2 a ha).2.2 x hx; have := hup y hy; omega⟩, fun s => ?_⟩
        rw [hold]
        exact ⟨.inl, fun h => h.elim id fun h => absurd h.2.2 hfit⟩
/-! ## the reference's list -/
theorem up_lt {T : List Int} (h : Up T) {i j : Nat} {x y : Int} (hx : T[i]? = some x) (hy : T[j]? = some y) (hij : i < j) : x < y := by
  obtain ⟨hj, e2⟩ := List.getElem?_eq_some_iff.1 hy
  obtain ⟨hi, e1⟩ := List.getElem?_eq_some_iff.1 hx
  have := List.pairwise_iff_getElem.1 h i j hi hj hij
  rwa [e1, e2] at this
theorem up_between {T : List Int} (h : Up T) {k : Nat} {x z : Int} (hx : T[k]? = some x) (hz : z ∈ T) (hlt : x < z) : ∃ y, T[k + 1]? = some y ∧ y ≤ z := by
  obtain ⟨j, hj⟩ := List.getElem?_of_mem hz
  have hkj : k < j := by
    rcases Nat.lt_trichotomy k j with h1 | h1 | h1
    · exact h1
    · subst h1; rw [hx] at hj; injection hj with hj; omega
    · have := up_lt h hj hx h1; omega
  obtain ⟨hjl, e⟩ := List.getElem?_eq_some_iff.1 hj
  have hy : T[k + 1]? = some T[k + 1] := List.getElem?_eq_getElem (by omega)
  refine ⟨_, hy, ?_⟩
  rcases Nat.lt_or_ge (k + 1) j with h1 | h1
  · have := up_lt h hy hj h1; omega
  · have : j = k + 1 := by omega
    subst this; rw [hj] at hy; injection hy with hy; omega
theorem specIn {l : List Pt} {f t : Int} {v : Vec} {T : List Int} (hT : Up T) (hmem : ∀ z, z ∈ T ↔ z = t ∨ z = f ∨ z ∈ l.map Pt.t) (hft : f < t) : ∀ k, k ≤ T.length →
    Nrm (specTo l f t v T k) ∧ (∀ a ∈ specTo l f t v T k, f ≤ a.f ∧ a.t ≤ t ∧ ∀ x, T[k]? = some x → a.t ≤ x) ∧
    ∀ s, hin (specTo l f t v T k) s ↔ f ≤ s ∧ s < t ∧ (∀ x, T[k]? = some x → s < x) ∧ v.fits (vfree l s) = true := by
  intro k
  induction k with
  | zero =>
    intro _
    refine ⟨⟨List.Pairwise.nil, fun a ha => (by cases ha)⟩, fun a ha => (by cases ha), fun s => ⟨fun ⟨a, ha, _⟩ => (by cases ha), fun ⟨h1, h2, h3, _⟩ => ?_⟩⟩
    obtain ⟨j, hj⟩ := List.getElem?_of_mem ((hmem f).2 (.inr (.inl rfl)))
    obtain ⟨hjl, _⟩ := List.getElem?_eq_some_iff.1 hj
    have hx : T[0]? = some T[0] := List.getElem?_eq_getElem (by omega)
    have := h3 _ hx
    rcases Nat.eq_zero_or_pos j with h0 | h0
    · subst h0; rw [hj] at hx; injection hx with hx; omega
    · have := up_lt hT hx hj h0; omega
  | succ k ih =>
    intro hk
    obtain ⟨i1, i2, i3⟩ := ih (by omega)
    have hx : T[k]? = some T[k] := List.getElem?_eq_getElem (by omega)
    generalize T[k] = x at hx
    have hup : ∀ y, T[k + 1]? = some y → x < y := fun y hy => up_lt hT hx hy (by omega)
    have hconst : ∀ s, x ≤ s → (∀ y, T[k + 1]? = some y → s < y) → vfree l s = vfree l x := fun s h1 h2 => vfree_const fun p hp => by
      constructor
      · intro h3
        rcases Int.lt_or_le x p.t with h4 | h4
        · obtain ⟨y, hy, hyp⟩ := up_between hT hx ((hmem p.t).2 (.inr (.inr (List.mem_map_of_mem hp)))) h4
          have := h2 y hy; omega
        · exact h4
      · intro h3; omega
    rw [specTo_succ hx]
    have hold : ∀ s, (f ≤ s ∧ s < t ∧ (∀ y, T[k + 1]? = some y → s < y) ∧ v.fits (vfree l s) = true) ↔ hin (specTo l f t v T k) s ∨ (f ≤ s ∧ s < t ∧ x ≤ s ∧ (∀ y, T[k + 1]? = some y → s < y) ∧ v.fits (vfree l x) = true) := fun s => by
      rw [i3 s]
      constructor
      · rintro ⟨h1, h2, h3, h4⟩
        by_cases hs : s < x
        · exact .inl ⟨h1, h2, fun z hz => by rw [hx] at hz; injection hz with hz; subst hz; exact hs, h4⟩
        · rw [hconst s (by omega) h3] at h4
          exact .inr ⟨h1, h2, by omega, h3, h4⟩
      · rintro (⟨h1, h2, h3, h4⟩ | ⟨h1, h2, h3, h4, h5⟩)
        · have := h3 x hx
          exact ⟨h1, h2, fun y hy => by have := hup y hy; omega, h4⟩
        · refine ⟨h1, h2, h4, ?_⟩
          rw [hconst s h3 h4]; exact h5
    split
    · rename_i hc
      obtain ⟨hc1, hc2, hc3⟩ := hc
      obtain ⟨y, hy, hyt⟩ := up_between hT hx ((hmem t).2 (.inl rfl)) hc2
      have hxy := hup y hy
      rw [hy, Option.getD_some]
      obtain ⟨n1, n2, n3, n4⟩ := add_norm (h := ⟨x, y⟩) i1 hxy (fun a ha => (i2 a ha).2.2 x hx)
      refine ⟨n1, fun a ha => ⟨n4 f (fun b hb => (i2 b hb).1) hc1 a ha, ?_, fun z hz => ?_⟩, fun s => ?_⟩
      · have q := n3 a ha; change a.t ≤ y at q; omega
      · injection hz with hz; subst hz; exact n3 a ha
      · have hold := hold s
        rw [hy] at hold
        rw [hold, n2]
        constructor
        · rintro (h | ⟨h1, h2⟩)
          · exact .inl h
          · try simp only [] at h1 h2
            exact .inr ⟨by omega, by omega, h1, fun z hz => by injection hz with hz; subst hz; exact h2, hc3⟩
        · rintro (h | ⟨h1, h2, h3, h4, h5⟩)
          · exact .inl h
          · exact .inr ⟨h3, h4 y rfl⟩
    · rename_i hc
      refine ⟨i1, fun a ha => ⟨(i2 a ha).1, (i2 a ha).2.1, fun y hy => by have := (i2 a ha).2.2 x hx; have := hup y hy; omega⟩, fun s => ?_⟩
      rw [hold]
      refine ⟨.inl, fun h => h.elim id fun ⟨h1, h2, h3, h4, h5⟩ => ?_⟩
      exfalso
      refine hc ⟨?_, by omega, h5⟩
      rcases Int.lt_or_le x f with h6 | h6
      · obtain ⟨y, hy, hyf⟩ := up_between hT hx ((hmem f).2 (.inr (.inl rfl))) h6
        have := h4 y hy; omega
      · exact h6
/-! ## both -/
theorem holes_same (l : List Pt) (f t : Int) (v : Vec) : specHolesR l f t v = holesR l f t v := by
  unfold specHolesR holesR
  by_cases h : profOk l = true ∧ spanB f t = true
  · obtain ⟨h1, h2⟩ := h
    have hs := spanB_bd h2
    have e : (vminR l f t).2 = true := by
      simp only [spanB, Bool.and_eq_true, decide_eq_true_eq] at h2
      have : decide (t ≤ f) = false := by simp; omega
      simp [vminR, orNone, h1, h2.1.1, h2.1.2, this]
    rw [e, h1, h2]
    cases hv : v.ok with
    | false => rfl
    | true =>
      have hT : timesOf l f t = insS t (insS f (l.map Pt.t)) := timesOf_eq l f t
      have hu : Up (timesOf l f t) := by rw [hT]; exact up_insS (up_insS (profOk_up h1))
      have hm : ∀ z, z ∈ timesOf l f t ↔ z = t ∨ z = f ∨ z ∈ l.map Pt.t := fun z => by rw [hT, mem_insS, mem_insS]
      have a := specIn (v := v) hu hm hs.2.1 _ (Nat.le_refl _)
      have b := implIn (v := v) h1 hs.1 hs.2.1 _ (Nat.le_refl _)
      simp only [Bool.and_self, if_true]
      refine nrm_eq a.1 b.1 fun s => ?_
      rw [a.2.2, b.2.2]
      simp
  · have e : (vminR l f t).2 = false := by
      cases hb : (vminR l f t).2 with
      | false => rfl
      | true =>
        obtain ⟨a, b, c, d⟩ := vminR_ok hb
        exact absurd ⟨a, by simp [spanB, b, c, d]⟩ h
    rw [e]
    have : (profOk l && spanB f t && v.ok) = false := by
      rw [Bool.eq_false_iff]
      intro hh
      simp only [Bool.and_eq_true] at hh
      exact h hh.1
    rw [this]
    rfl
theorem nrm_get {l : List Hole} (h : Nrm l) {i j : Nat} {x y : Hole} (hx : l[i]? = some x) (hy : l[j]? = some y) (hij : i < j) : x.t < y.f := by
  obtain ⟨hj, e2⟩ := List.getElem?_eq_some_iff.1 hy
  obtain ⟨hi, e1⟩ := List.getElem?_eq_some_iff.1 hx
  have := List.pairwise_iff_getElem.1 h.1 i j hi hj hij
  rwa [e1, e2] at this
theorem holesOk_nrm {l : List Hole} (h : Nrm l) (hb : ∀ a ∈ l, 0 ≤ a.f ∧ a.t ≤ 1000000000) : holesOk l = true := by
  unfold holesOk
  rw [List.all_eq_true]
  intro i hi
  rw [List.mem_range] at hi
  have hx : l[i]? = some l[i] := List.getElem?_eq_getElem hi
  have hm : l[i] ∈ l := List.getElem_mem hi
  generalize l[i] = x at hx hm
  have h1 := hb x hm
  have h2 := h.2 x hm
  have hs : spanB x.f x.t = true := by simp only [spanB, timeB, withinB, Bool.and_eq_true, decide_eq_true_eq]; omega
  simp only [okHole, hx, hs, Bool.true_and, Bool.or_eq_true, beq_iff_eq]
  rcases Nat.eq_zero_or_pos i with h0 | h0
  · exact .inl h0
  · right
    have hy : l[i - 1]? = some l[i - 1] := List.getElem?_eq_getElem (by omega)
    rw [hy]
    have := nrm_get h hy hx (by omega)
    simp only [Bool.not_eq_true', decide_eq_false_iff_not]
    omega
theorem holesR_law {l : List Pt} {f t : Int} {v : Vec} (h : profOk l = true) (hs : spanB f t = true) (hv : v.ok = true) :
    Nrm (holesR l f t v) ∧ (∀ a ∈ holesR l f t v, f ≤ a.f ∧ a.t ≤ t) ∧ ∀ s, hin (holesR l f t v) s ↔ f ≤ s ∧ s < t ∧ v.fits (vfree l s) = true := by
  have hb := spanB_bd hs
  obtain ⟨a, b, c⟩ := implIn (v := v) h hb.1 hb.2.1 _ (Nat.le_refl _)
  have e : holesR l f t v = holesTo l f t v l.length := by unfold holesR; rw [h, hs, hv]; rfl
  rw [e]
  exact ⟨a, fun x hx => ⟨(b x hx).1, (b x hx).2.1⟩, fun s => by rw [c s]; simp⟩
theorem holesR_ok (l : List Pt) (f t : Int) (v : Vec) : holesOk (holesR l f t v) = true := by
  by_cases h : (profOk l && spanB f t && v.ok) = true
  · simp only [Bool.and_eq_true] at h
    obtain ⟨a, b, _⟩ := holesR_law h.1.1 h.1.2 h.2
    have hb := spanB_bd h.1.2
    exact holesOk_nrm a fun x hx => by have := b x hx; omega
  · have : holesR l f t v = [] := by unfold holesR; rw [if_neg h]
    rw [this]; rfl
theorem sum_le : ∀ {l : List Hole}, Nrm l → ∀ {lo hi : Int}, lo ≤ hi → (∀ a ∈ l, lo ≤ a.f ∧ a.t ≤ hi) → (l.map fun h => h.t - h.f).sum ≤ hi - lo := by
  intro l
  induction l with
  | nil => intro _ lo hi h _; simp; omega
  | cons x l ih =>
    intro hn lo hi h hb
    obtain ⟨n1, n2, n3⟩ := nrm_cons hn
    have hx := hb x (List.mem_cons_self ..)
    have := ih n1 (lo := x.t) (hi := hi) (by omega) (fun a ha => ⟨by have := n3 a ha; omega, (hb a (List.mem_cons_of_mem _ ha)).2⟩)
    simp only [List.map_cons, List.sum_cons]
    omega
theorem length_le {l : List Pt} {f t : Int} {v : Vec} (h : profOk l = true) (hs : spanB f t = true) (hv : v.ok = true) : lengthR (holesR l f t v) ≤ t - f := by
  obtain ⟨a, b, _⟩ := holesR_law h hs hv
  unfold lengthR
  rw [if_pos (holesR_ok l f t v), lenTo, List.take_length]
  exact sum_le a (by have := spanB_bd hs; omega) b
theorem meet_one : ∀ {l : List Hole} (x : Hole), (∀ a ∈ l, a.t < x.f ∨ x.t < a.f) → l.flatMap (fun y => meetOne x y) = [] := by
  intro l x h
  rw [List.flatMap_eq_nil_iff]
  intro y hy
  unfold meetOne
  have := h y hy
  rw [if_neg (by omega)]
theorem meet_self {l : List Hole} (h : Nrm l) : meetAll l l = l := by
  have key : ∀ (b a : List Hole), Nrm (a ++ b) → (b.flatMap fun x => (a ++ b).flatMap fun y => meetOne x y) = b := by
    intro b
    induction b with
    | nil => intro a _; rfl
    | cons x b ih =>
      intro a hn
      have hn' := hn
      obtain ⟨hp, hf⟩ := hn
      rw [List.pairwise_append, List.pairwise_cons] at hp
      have hx : x.f < x.t := hf x (by simp)
      have e : (a ++ x :: b).flatMap (fun y => meetOne x y) = [x] := by
        rw [List.flatMap_append, List.flatMap_cons, meet_one x (fun y hy => .inl (hp.2.2 y hy x (List.mem_cons_self ..))), meet_one x (fun y hy => .inr (hp.2.1.1 y hy))]
        unfold meetOne
        simp [hx, Int.max_self, Int.min_self]
      have r := ih (a ++ [x]) (by simpa using hn')
      rw [List.flatMap_cons, e]
      have : a ++ [x] ++ b = a ++ x :: b := by simp
      rw [this] at r
      rw [r]; rfl
  exact key l [] (by simpa using h)
theorem meet_length (l : List Pt) (f t : Int) (v : Vec) : lengthR (meetR (holesR l f t v) (holesR l f t v)) = lengthR (holesR l f t v) := by
  have hok := holesR_ok l f t v
  unfold meetR
  rw [hok]
  simp only [Bool.and_self, if_true]
  by_cases h : (profOk l && spanB f t && v.ok) = true
  · simp only [Bool.and_eq_true] at h
    rw [meet_self (holesR_law h.1.1 h.1.2 h.2).1]
  · have : holesR l f t v = [] := by unfold holesR; rw [if_neg h]
    rw [this]; rfl
end Go.Proofs.Ytiheokjolaclnaa

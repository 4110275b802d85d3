/- Words for memory that all texts of this seat share: what changes between two worlds, a slice that reads as a list, a slice that the call owns; the laws for append. -/
import Derived.Test.YtiheokjolaclnaaChecked
import Derived.WalkKit
import Derived.WalkLawsBesides
import Derived.Lib.Hide
import Derived.BigQuiet
import Derived.Deep.QuietTactic
import Derived.Handy
import Derived.Outline
import Derived.LoopTactic
import Derived.Maps.AppendAt
namespace Go.Proofs.Ytiheokjolaclnaa
open Go.RowKit

abbrev I (n : Int) : Value := .int .i64 n

/-! ## What changes between two worlds -/
class LeN (a b : Nat) : Prop where
  out : a ≤ b
instance LeN.rfl' {a : Nat} : LeN a a := ⟨Nat.le_refl _⟩
instance LeN.add' {a b k : Nat} [h : LeN a b] : LeN a (b + k) := ⟨Nat.le_trans h.out (Nat.le_add_right _ _)⟩
/-- below lo w' is as w was -/
class Bl (lo : Nat) (w w' : World) : Prop where
  out : Below lo w w'
/-- all that was there in w is there in w' as it was -/
abbrev Bel (w w' : World) : Prop := Bl w.heap.size w w'
/-- the same, as one step of a walk: w is found from w' -/
class Stp (w : outParam World) (w' : World) : Prop where
  out : Below w.heap.size w w'
/-- below lo nothing has turned: as a step of a walk -/
class App (lo : outParam Nat) (w : outParam World) (w' : World) : Prop where
  out : Below lo w w'
instance Bl.rfl' {lo : Nat} {w : World} : Bl lo w w := ⟨Below.refl _ _⟩
instance Bl.alloc' {lo : Nat} {w w' : World} {o : Obj} [h : Bl lo w w'] [l : LeN lo w.heap.size] : Bl lo w (w'.alloc o) := ⟨h.out.alloc (Nat.le_trans l.out h.out.size) _⟩
instance Bl.drew' {lo : Nat} {w w' : World} [h : Bl lo w w'] : Bl lo w w'.drew := ⟨h.out.drew⟩
instance Bl.drewN' {lo : Nat} {w w' : World} {n : Nat} [h : Bl lo w w'] : Bl lo w (w'.drewN n) := ⟨⟨h.out.os, h.out.tape, h.out.output, h.out.size, h.out.block⟩⟩
instance Bl.set' {lo : Nat} {w w' : World} {p : Addr} {u : Value} [h : Bl lo w w'] [l : LeN lo p.block] : Bl lo w (w'.setCell p u) := ⟨h.out.setCell l.out u⟩
instance Bl.step' {lo : Nat} {w w' w'' : World} [h : Stp w' w''] [k : Bl lo w w'] [l : LeN lo w.heap.size] : Bl lo w w'' := ⟨k.out.trans (h.out.mono (Nat.le_trans l.out k.out.size))⟩
instance Bl.app' {lo lo' : Nat} {w0 w w' : World} [h : App lo' w w'] [k : Bl lo w0 w] [l : LeN lo lo'] : Bl lo w0 w' := ⟨k.out.trans (h.out.mono l.out)⟩
theorem Bl.trans {a b c : World} (h : Bel a b) (k : Bel b c) : Bel a c := ⟨h.out.trans (k.out.mono h.out.size)⟩
theorem Bl.size {lo : Nat} {a b : World} (h : Bl lo a b) : a.heap.size ≤ b.heap.size := h.out.size
theorem Bl.cell {lo : Nat} {a b : World} (h : Bl lo a b) {p : Addr} (hp : p.block < lo) : b.cell? p = a.cell? p := h.out.cell hp
theorem Bl.cell_some {a b : World} (h : Bel a b) {p : Addr} {v : Value} (hp : a.cell? p = some v) : b.cell? p = some v := (h.out.cell (World.block_lt_of_cell? a p hp)).trans hp
instance LeN.bel' {w w' : World} [h : Bel w w'] : LeN w.heap.size w'.heap.size := ⟨h.out.size⟩
instance LeN.alloc' {a : Nat} {w : World} {o : Obj} [h : LeN a w.heap.size] : LeN a (w.alloc o).heap.size := ⟨by have := h.out; simp; omega⟩
instance LeN.allocS {a : Nat} {w : World} {o : Obj} [h : LeN a w.heap.size] : LeN (a + 1) (w.alloc o).heap.size := ⟨by have := h.out; simp; omega⟩
instance LeN.drew' {a : Nat} {w : World} [h : LeN a w.heap.size] : LeN a w.drew.heap.size := ⟨h.out⟩
instance LeN.drewN' {a n : Nat} {w : World} [h : LeN a w.heap.size] : LeN a (w.drewN n).heap.size := ⟨h.out⟩
instance LeN.set' {a : Nat} {w : World} {p : Addr} {u : Value} [h : LeN a w.heap.size] : LeN a (w.setCell p u).heap.size := ⟨by have := h.out; simp; omega⟩
instance LeN.step' {a : Nat} {w w' : World} [k : Stp w w'] [h : LeN a w.heap.size] : LeN a w'.heap.size := ⟨Nat.le_trans h.out k.out.size⟩
instance LeN.app' {a lo : Nat} {w w' : World} [k : App lo w w'] [h : LeN a w.heap.size] : LeN a w'.heap.size := ⟨Nat.le_trans h.out k.out.size⟩
/-- of what was there in w nothing but block g may have turned -/
class Ox (g : Nat) (w w' : World) : Prop where
  out : w.grownBy w' (some g)
/-- the same, as a step of a walk -/
class Oe (g : outParam Nat) (w : outParam World) (w' : World) : Prop where
  out : w.grownBy w' (some g)
theorem grown_more {w w' w'' : World} {r : Option Nat} (h : w.grownBy w' r) (k : World.grownBy w' w'' r) : w.grownBy w'' r :=
  ⟨k.os.trans h.os, k.tape.trans h.tape, k.output.trans h.output, Nat.le_trans h.size k.size, fun i hi hne => (k.block i (Nat.lt_of_lt_of_le hi h.size) hne).trans (h.block i hi hne)⟩
theorem grown_below {lo : Nat} {w w' w'' : World} {r : Option Nat} (h : w.grownBy w' r) (k : Below lo w' w'') (hl : w.heap.size ≤ lo) : w.grownBy w'' r :=
  ⟨k.os.trans h.os, k.tape.trans h.tape, k.output.trans h.output, Nat.le_trans h.size k.size, fun i hi hne => (k.block i (Nat.lt_of_lt_of_le hi hl)).trans (h.block i hi hne)⟩
instance Ox.rfl' {g : Nat} {w : World} : Ox g w w := ⟨⟨rfl, rfl, rfl, Nat.le_refl _, fun _ _ _ => rfl⟩⟩
instance Ox.alloc' {g : Nat} {w w' : World} {o : Obj} [h : Ox g w w'] : Ox g w (w'.alloc o) := ⟨grown_below h.out ((Below.refl w'.heap.size w').alloc (Nat.le_refl _) o) h.out.size⟩
instance Ox.drew' {g : Nat} {w w' : World} [h : Ox g w w'] : Ox g w w'.drew := ⟨⟨h.out.os, h.out.tape, h.out.output, h.out.size, h.out.block⟩⟩
instance Ox.drewN' {g n : Nat} {w w' : World} [h : Ox g w w'] : Ox g w (w'.drewN n) := ⟨⟨h.out.os, h.out.tape, h.out.output, h.out.size, h.out.block⟩⟩
instance Ox.set' {g o : Nat} {s : Option Nat} {u : Value} {w w' : World} [h : Ox g w w'] : Ox g w (w'.setCell ⟨g, o, s⟩ u) :=
  ⟨⟨h.out.os, h.out.tape, h.out.output, by have := h.out.size; simp; omega, fun i hi hne => (Below.heap_setCell w' ⟨g, o, s⟩ u i (by rintro rfl; exact hne rfl)).trans (h.out.block i hi hne)⟩⟩
instance Ox.setNew {g : Nat} {p : Addr} {u : Value} {w w' : World} [h : Ox g w w'] [l : LeN w.heap.size p.block] : Ox g w (w'.setCell p u) :=
  ⟨⟨h.out.os, h.out.tape, h.out.output, by have := h.out.size; simp; omega, fun i hi hne => (Below.heap_setCell w' p u i (by have := l.out; omega)).trans (h.out.block i hi hne)⟩⟩
instance Ox.step' {g : Nat} {w w' w'' : World} [k : Stp w' w''] [h : Ox g w w'] : Ox g w w'' := ⟨grown_below h.out k.out h.out.size⟩
instance Ox.app' {g lo : Nat} {w w' w'' : World} [k : App lo w' w''] [h : Ox g w w'] [l : LeN w.heap.size lo] : Ox g w w'' := ⟨grown_below h.out k.out l.out⟩
instance Ox.oe' {g : Nat} {w w' w'' : World} [k : Oe g w' w''] [h : Ox g w w'] : Ox g w w'' := ⟨grown_more h.out k.out⟩
instance Bl.oe' {lo g : Nat} {w w' w'' : World} [k : Oe g w' w''] [h : Bl lo w w'] [l : LeN lo g] [l' : LeN lo w'.heap.size] : Bl lo w w'' :=
  ⟨h.out.trans ⟨k.out.os, k.out.tape, k.out.output, k.out.size, fun i hi => k.out.block i (Nat.lt_of_lt_of_le hi l'.out) (by intro e; injection e with e; have := l.out; omega)⟩⟩
instance LeN.oe' {a g : Nat} {w w' : World} [k : Oe g w w'] [h : LeN a w.heap.size] : LeN a w'.heap.size := ⟨Nat.le_trans h.out k.out.size⟩
theorem Ox.of_bel {g : Nat} {w w' : World} (h : Bel w w') : Ox g w w' := ⟨⟨h.out.os, h.out.tape, h.out.output, h.out.size, fun i hi _ => h.out.block i hi⟩⟩
theorem Ox.block {g b : Nat} {w w' : World} {o : Obj} (h : Ox g w w') (hb : w.heap[b]? = some o) (hg : b ≠ g) : w'.heap[b]? = w.heap[b]? :=
  h.out.block b (Array.getElem?_eq_some_iff.1 hb).1 (by intro e; injection e with e; exact hg e)
theorem Ox.cell_some {g : Nat} {a b : World} (h : Ox g a b) {p : Addr} {v : Value} (hp : a.cell? p = some v) (hg : p.block ≠ g) : b.cell? p = some v :=
  (World.cell?_of_block (h.out.block p.block (World.block_lt_of_cell? a p hp) (by intro e; injection e with e; exact hg e))).trans hp
theorem Ox.frozen {g : Nat} {a b : World} (h : Ox g a b) {p : Addr} (hl : p.block < a.heap.size) (hp : a.frozen? p = false) (hg : p.block ≠ g) : b.frozen? p = false :=
  (World.frozen?_of_block (h.out.block p.block hl (by intro e; injection e with e; exact hg e))).trans hp
theorem lt_ox {g b : Nat} {w w' : World} (h : Ox g w w') (hb : b < w.heap.size) : b < w'.heap.size := Nat.lt_of_lt_of_le hb h.out.size
/-- what a walk wants of such a step -/
theorem stdo {g : Nat} {w w' : World} (h : Ox g w w') : Oe g w w' ∧ (∀ b o, b < w.heap.size → b ≠ g → w'.cell? ⟨b, o, none⟩ = w.cell? ⟨b, o, none⟩) ∧ (∀ b o, b < w.heap.size → b ≠ g → w'.frozen? ⟨b, o, none⟩ = w.frozen? ⟨b, o, none⟩) ∧ (∀ b, b < w.heap.size → b < w'.heap.size) :=
  ⟨⟨h.out⟩, fun b o hb hg => World.cell?_of_block (a := ⟨b, o, none⟩) (h.out.block b hb (by intro e; injection e with e; exact hg e)), fun b o hb hg => World.frozen?_of_block (a := ⟨b, o, none⟩) (h.out.block b hb (by intro e; injection e with e; exact hg e)), fun _ hb => Nat.lt_of_lt_of_le hb h.out.size⟩
/-- what a walk wants of a step: three rules, and the step itself -/
theorem std {w w' : World} (h : Bel w w') : Stp w w' ∧ (∀ b o, b < w.heap.size → w'.cell? ⟨b, o, none⟩ = w.cell? ⟨b, o, none⟩) ∧ (∀ b o, b < w.heap.size → w'.frozen? ⟨b, o, none⟩ = w.frozen? ⟨b, o, none⟩) ∧ (∀ b, b < w.heap.size → b < w'.heap.size) :=
  ⟨⟨h.out⟩, fun b o hb => h.out.cell (p := ⟨b, o, none⟩) hb, fun b o hb => h.out.frozen (p := ⟨b, o, none⟩) hb, fun _ hb => Nat.lt_of_lt_of_le hb h.out.size⟩

theorem lt_bel {lo : Nat} {w w' : World} {b : Nat} (h : Bl lo w w') (hb : b < w.heap.size) : b < w'.heap.size := Nat.lt_of_lt_of_le hb h.out.size

/-! ## tests of all indices -/
theorem range_no {f : Nat → Bool} {k n : Nat} (hk : k < n) (h : f k = false) : (List.range n).all f = false := by
  rw [List.all_eq_false]; exact ⟨k, List.mem_range.2 hk, by simp [h]⟩
theorem range_yes {f : Nat → Bool} {k : Nat} (h : (List.range k).all f = true) (hk : f k = true) : (List.range (k + 1)).all f = true := by
  rw [List.range_succ, List.all_append, h]; simp [hk]

/-! ## the ways through a chain of tests -/
theorem ways1 (a : Bool) : a = false ∨ a = true := by cases a <;> simp
theorem ways2 (a b : Bool) : a = false ∨ (a = true ∧ b = false) ∨ (a = true ∧ b = true) := by cases a <;> cases b <;> simp
theorem ways3 (a b c : Bool) : a = false ∨ (a = true ∧ b = false) ∨ (a = true ∧ b = true ∧ c = false) ∨ (a = true ∧ b = true ∧ c = true) := by cases a <;> cases b <;> cases c <;> simp
theorem ways4 (a b c d : Bool) : a = false ∨ (a = true ∧ b = false) ∨ (a = true ∧ b = true ∧ c = false) ∨ (a = true ∧ b = true ∧ c = true ∧ d = false) ∨ (a = true ∧ b = true ∧ c = true ∧ d = true) := by cases a <;> cases b <;> cases c <;> cases d <;> simp
theorem ways5 (a b c d e : Bool) : a = false ∨ (a = true ∧ b = false) ∨ (a = true ∧ b = true ∧ c = false) ∨ (a = true ∧ b = true ∧ c = true ∧ d = false) ∨ (a = true ∧ b = true ∧ c = true ∧ d = true ∧ e = false) ∨ (a = true ∧ b = true ∧ c = true ∧ d = true ∧ e = true) := by cases a <;> cases b <;> cases c <;> cases d <;> cases e <;> simp

/-! ## A slice that reads as a list -/
section
variable {α : Type}
/-- the slice value '.slice A n c' reads as the list l: element i lies in k cells, as enc says; its block is not below lo -/
def Sl (w : World) (lo : Nat) (enc : α → List Value) (k : Nat) (A : Option Addr) (n : Nat) (l : List α) : Prop :=
  n = l.length ∧ (0 < n → ∃ b o, A = some ⟨b, o, none⟩ ∧ lo ≤ b ∧ ∀ i x, l[i]? = some x → ∀ j v, (enc x)[j]? = some v → w.cell? ⟨b, o + i * k + j, none⟩ = some v)
variable {w w' : World} {lo : Nat} {enc : α → List Value} {k : Nat} {A : Option Addr} {n : Nat} {l : List α}
theorem Sl.len (h : Sl w lo enc k A n l) : n = l.length := h.1
theorem Sl.nil (w : World) (lo : Nat) (enc : α → List Value) (k : Nat) (A : Option Addr) : Sl w lo enc k A 0 [] := ⟨rfl, fun h => absurd h (by omega)⟩
theorem Sl.mono (h : Sl w lo enc k A n l) {lo' : Nat} (hl : lo' ≤ lo) : Sl w lo' enc k A n l := ⟨h.1, fun hn => by
  obtain ⟨b, o, h1, h2, h3⟩ := h.2 hn
  exact ⟨b, o, h1, Nat.le_trans hl h2, h3⟩⟩
theorem Sl.keep (h : Sl w lo enc k A n l) (hk : ∀ (p : Addr) v, lo ≤ p.block → w.cell? p = some v → w'.cell? p = some v) : Sl w' lo enc k A n l := ⟨h.1, fun hn => by
  obtain ⟨b, o, h1, h2, h3⟩ := h.2 hn
  exact ⟨b, o, h1, h2, fun i x hx j v hv => hk _ _ h2 (h3 i x hx j v hv)⟩⟩
theorem Sl.bel (h : Sl w lo enc k A n l) (hb : Bel w w') : Sl w' lo enc k A n l := h.keep fun _ _ _ hv => hb.cell_some hv
theorem Sl.ox {g : Nat} (h : Sl w lo enc k A n l) (hb : Ox g w w') (hg : g < lo) : Sl w' lo enc k A n l := h.keep fun _ _ hp hv => hb.cell_some hv (by omega)
theorem Sl.elem (h : Sl w lo enc k A n l) {i : Nat} (hi : i < n) : ∃ b o x, A = some ⟨b, o, none⟩ ∧ lo ≤ b ∧ l[i]? = some x ∧ ∀ j v, (enc x)[j]? = some v → w.cell? ⟨b, o + i * k + j, none⟩ = some v := by
  obtain ⟨b, o, h1, h2, h3⟩ := h.2 (by omega)
  have hl : i < l.length := by have := h.1; omega
  exact ⟨b, o, l[i], h1, h2, List.getElem?_eq_getElem hl, h3 i _ (List.getElem?_eq_getElem hl)⟩

theorem Sl.addr (h : Sl w lo enc k A n l) (hn : 0 < n) : ∃ b o, A = some ⟨b, o, none⟩ := by
  obtain ⟨b, o, h1, _⟩ := h.2 hn
  exact ⟨b, o, h1⟩
theorem Sl.cells {b o : Nat} (h : Sl w lo enc k (some ⟨b, o, none⟩) n l) {i : Nat} (hi : i < n) : ∃ x, l[i]? = some x ∧ lo ≤ b ∧ ∀ j v, (enc x)[j]? = some v → w.cell? ⟨b, o + i * k + j, none⟩ = some v := by
  obtain ⟨b', o', x, h1, h2, h3, h4⟩ := h.elem hi
  injection h1 with h1; injection h1 with h1 h1'; subst h1; subst h1'
  exact ⟨x, h3, h2, h4⟩

/-! ## A slice that the call owns -/
/-- '.slice A n c' is nil or empty without room, or it begins at the head of a block (not below lo, of element type e, not frozen) whose first cells are those of l -/
def Own (w : World) (lo : Nat) (e : TypeId) (enc : α → List Value) (k : Nat) (A : Option Addr) (n c : Nat) (l : List α) : Prop :=
  n = l.length ∧ ((n = 0 ∧ c = 0) ∨ ∃ g cur, A = some ⟨g, 0, none⟩ ∧ lo ≤ g ∧ w.heap[g]? = some (.cells cur e (0, 0)) ∧ n ≤ c ∧ c ≤ maxLen ∧ cur.size = c * k ∧ cur.toList.take (n * k) = l.flatMap enc)
variable {e : TypeId} {c : Nat}
theorem Own.len (h : Own w lo e enc k A n c l) : n = l.length := h.1
theorem Own.nil (w : World) (lo : Nat) (e : TypeId) (enc : α → List Value) (k : Nat) (A : Option Addr) : Own w lo e enc k A 0 0 [] := ⟨rfl, .inl ⟨rfl, rfl⟩⟩
theorem Own.mono (h : Own w lo e enc k A n c l) {lo' : Nat} (hl : lo' ≤ lo) : Own w lo' e enc k A n c l := ⟨h.1, by
  rcases h.2 with h2 | ⟨g, cur, h1, h2, h3⟩
  · exact .inl h2
  · exact .inr ⟨g, cur, h1, Nat.le_trans hl h2, h3⟩⟩
theorem Own.keep (h : Own w lo e enc k A n c l) (hk : ∀ g, A = some ⟨g, 0, none⟩ → lo ≤ g → g < w.heap.size → w'.heap[g]? = w.heap[g]?) : Own w' lo e enc k A n c l := ⟨h.1, by
  rcases h.2 with h2 | ⟨g, cur, h1, h2, h3, h4⟩
  · exact .inl h2
  · exact .inr ⟨g, cur, h1, h2, (hk g h1 h2 (Array.getElem?_eq_some_iff.1 h3).1).trans h3, h4⟩⟩
theorem Own.bel (h : Own w lo e enc k A n c l) (hb : Bel w w') : Own w' lo e enc k A n c l := h.keep fun g _ _ hg => hb.out.block g hg
theorem Own.ox {g : Nat} (h : Own w lo e enc k A n c l) (hb : Ox g w w') (hg : g < lo) : Own w' lo e enc k A n c l := h.keep fun i _ hl hi => hb.out.block i hi (by intro e; injection e with e; omega)
theorem Own.alloc (h : Own w lo e enc k A n c l) (o : Obj) : Own (w.alloc o) lo e enc k A n c l := h.bel inferInstance
theorem flat_get (henc : ∀ x : α, (enc x).length = k) : ∀ (l : List α) (i : Nat) (x : α), l[i]? = some x → ∀ j v, (enc x)[j]? = some v → (l.flatMap enc)[i * k + j]? = some v
  | [], _, _, h => by simp at h
  | y :: l, 0, x, h => fun j v hv => by
    simp at h; subst h
    have hj : j < (enc y).length := (List.getElem?_eq_some_iff.1 hv).1
    simp only [List.flatMap_cons, Nat.zero_mul, Nat.zero_add]
    rw [List.getElem?_append_left hj]; exact hv
  | y :: l, i + 1, x, h => fun j v hv => by
    have := flat_get henc l i x (by simpa using h) j v hv
    simp only [List.flatMap_cons]
    rw [List.getElem?_append_right (by rw [henc]; rw [Nat.add_mul]; omega), henc, show (i + 1) * k + j - k = i * k + j by rw [Nat.add_mul]; omega]
    exact this
theorem flat_len (henc : ∀ x : α, (enc x).length = k) (l : List α) : (l.flatMap enc).length = l.length * k := by
  induction l with
  | nil => simp
  | cons x l ih => simp only [List.flatMap_cons, List.length_append, henc, ih, List.length_cons, Nat.add_mul]; omega
theorem Own.sl (h : Own w lo e enc k A n c l) (henc : ∀ x : α, (enc x).length = k) : Sl w lo enc k A n l := ⟨h.1, fun hn => by
  rcases h.2 with h2 | ⟨g, cur, h1, h2, h3, h4, _, h6, h7⟩
  · omega
  · refine ⟨g, 0, h1, h2, fun i x hx j v hv => ?_⟩
    have hf := flat_get henc l i x hx j v hv
    rw [← h7, List.getElem?_take] at hf
    split at hf
    · simp only [World.cell?, h3, Nat.zero_add]
      simpa using hf
    · cases hf⟩
theorem Own.cap (h : Own w lo e enc k A n c l) : n ≤ c := by
  rcases h.2 with h2 | ⟨g, cur, _, _, _, h3, _⟩ <;> omega
theorem Own.cap_le (h : Own w lo e enc k A n c l) : c ≤ 9223372036854775807 := by
  rcases h.2 with h2 | ⟨g, cur, _, _, _, _, h4, _⟩
  · omega
  · simp only [maxLen] at h4; omega
/-- the block, if there is one, was there -/
theorem Own.blk (h : Own w lo e enc k A n c l) : (n = 0 ∧ c = 0) ∨ ∃ g, A = some ⟨g, 0, none⟩ ∧ lo ≤ g ∧ g < w.heap.size := by
  rcases h.2 with h2 | ⟨g, cur, h1, h2, h3, _⟩
  · exact .inl h2
  · exact .inr ⟨g, h1, h2, (Array.getElem?_eq_some_iff.1 h3).1⟩
end

theorem flat_set {α : Type} {enc : α → List Value} {k : Nat} (henc : ∀ x : α, (enc x).length = k) {x x' : α} {j : Nat} {v : Value} (hj : j < k) (hx' : enc x' = (enc x).set j v) :
    ∀ (l : List α) (i : Nat), l[i]? = some x → (l.set i x').flatMap enc = (l.flatMap enc).set (i * k + j) v
  | [], _, h => by simp at h
  | y :: l, 0, h => by
    simp at h; subst h
    simp only [List.set_cons_zero, List.flatMap_cons, Nat.zero_mul, Nat.zero_add]
    rw [List.set_append_left _ _ (by rw [henc]; exact hj), hx']
  | y :: l, i + 1, h => by
    have ih := flat_set henc hj hx' l i (by simpa using h)
    simp only [List.set_cons_succ, List.flatMap_cons]
    rw [List.set_append_right _ _ (by rw [henc, Nat.add_mul]; omega), ih, henc]
    congr 2
    rw [Nat.add_mul]; omega
/-- one cell of an element of an owned slice is stored -/
theorem Own.upd {α : Type} {w : World} {lo : Nat} {e : TypeId} {enc : α → List Value} {k g n c : Nat} {l : List α} (h : Own w lo e enc k (some ⟨g, 0, none⟩) n c l) (henc : ∀ x : α, (enc x).length = k) {i j : Nat} {x : α} (x' : α) {v : Value} (hx : l[i]? = some x) (hj : j < k)
    (hx' : enc x' = (enc x).set j v) : Own (w.setCell ⟨g, i * k + j, none⟩ v) lo e enc k (some ⟨g, 0, none⟩) n c (l.set i x') := by
  have hil : i < l.length := (List.getElem?_eq_some_iff.1 hx).1
  have hidx : i * k + j < n * k := by
    have h1 : (i + 1) * k ≤ n * k := Nat.mul_le_mul_right k (by rw [h.1]; omega)
    rw [Nat.add_mul] at h1; omega
  refine ⟨by rw [List.length_set]; exact h.1, .inr ?_⟩
  rcases h.2 with h2 | ⟨g', cur, h1, h2, h3, h4, h5, h6, h7⟩
  · have := h.1; omega
  · injection h1 with h1; injection h1 with h1; subst h1
    refine ⟨g, cur.setIfInBounds (i * k + j) v, rfl, h2, by simp [World.setCell, Array.getElem?_modify, h3], h4, h5, by simpa using h6, ?_⟩
    rw [flat_set henc hj hx' l i hx, ← h7, Array.toList_setIfInBounds, List.take_set]
/-- its cells may be written -/
theorem Own.frozen {α : Type} {w : World} {lo : Nat} {e : TypeId} {enc : α → List Value} {k g n c : Nat} {l : List α} (h : Own w lo e enc k (some ⟨g, 0, none⟩) n c l) (hn : 0 < n) (i : Nat) : w.frozen? ⟨g, i, none⟩ = false := by
  rcases h.2 with h2 | ⟨g', cur, h1, h2, h3, _⟩
  · omega
  · injection h1 with h1; injection h1 with h1; subst h1
    simp [World.frozen?, h3]
/-- where an owned slice lies -/
theorem Own.addr {α : Type} {w : World} {lo : Nat} {e : TypeId} {enc : α → List Value} {k n c : Nat} {A : Option Addr} {l : List α} (h : Own w lo e enc k A n c l) (hn : 0 < n) : ∃ g, A = some ⟨g, 0, none⟩ ∧ lo ≤ g ∧ g < w.heap.size := by
  rcases h.blk with h2 | h2
  · omega
  · exact h2
/-- numbers in cells -/
def ie (x : Int) : List Value := [I x]
theorem ie_len (x : Int) : (ie x).length = 1 := rfl
theorem ie_one (x : Int) : ∀ u ∈ ie x, u.oneCell' = true := by intro u hu; simp [ie] at hu; subst hu; rfl
theorem Ints.cells {w : World} {lo b o : Nat} {n : Nat} {l : List Int} (h : Sl w lo ie 1 (some ⟨b, o, none⟩) n l) {i : Nat} (hi : i < n) : ∃ x, l[i]? = some x ∧ b < w.heap.size ∧ w.cell? ⟨b, o + i, none⟩ = some (I x) := by
  obtain ⟨x, h1, _, h4⟩ := Sl.cells h hi
  have c0 := h4 0 _ rfl
  simp only [Nat.mul_one, Nat.add_zero] at c0
  exact ⟨x, h1, World.block_lt_of_cell? _ _ c0, c0⟩

/-- a slice that is written out -/
theorem Own.lit {α : Type} {enc : α → List Value} {k : Nat} (w : World) (cs : Array Value) (e : TypeId) (l : List α) (hcs : cs.toList = l.flatMap enc) (hs : cs.size = l.length * k) (hm : l.length ≤ 1000000) :
    Own (w.alloc (.cells cs e)) w.heap.size e enc k (some ⟨w.heap.size, 0, none⟩) l.length l.length l :=
  ⟨rfl, .inr ⟨_, cs, rfl, Nat.le_refl _, heap_alloc_new w _, Nat.le_refl _, by simp only [maxLen]; omega, hs, by rw [← hs, ← hcs, ← Array.length_toList]; exact List.take_length⟩⟩

/-! ## append -/
/-- what is asked of a slice type t with elements e of k cells -/
def EI (P : Program) (t e : TypeId) (k : Nat) : Prop :=
  P.underlying t = some (.slice e) ∧ ∃ i z, P.info? e = some i ∧ i.zero = some z ∧ i.size = k ∧ i.bytes ≤ 65536 ∧ z.cells.size = k ∧ 0 < k
theorem ei_of {P : Program} {t e : TypeId} {k b : Nat} {z : Value} (h : P.underlying t = some (.slice e)) (h2 : (P.info? e).map (fun i => (i.zero, i.size, i.bytes)) = some (some z, k, b)) (hb : b ≤ 65536) (hz : z.cells.size = k) (hk : 0 < k) : EI P t e k := by
  obtain ⟨i, h3, h4⟩ := Option.map_eq_some_iff.1 h2
  simp only [Prod.mk.injEq] at h4
  exact ⟨h, i, z, h3, h4.1, h4.2.1, by omega, hz, hk⟩

section
variable {α : Type} {P : Program} {lo : Nat} {t e : TypeId} {enc : α → List Value} {k n c g : Nat} {A : Option Addr} {l : List α} {xs : List Value}
/-- the row that an append may have written -/
def rowOf : Option Addr → Option Nat
  | some a => some a.block
  | none => none
theorem Own.row {w : World} (h : Own w lo e enc k (some ⟨g, 0, none⟩) n c l) (hc : 0 < c) (henc : ∀ x : α, (enc x).length = k) : w.ownsRow lo e k (.slice (some ⟨g, 0, none⟩) n c) n (l.flatMap enc) := by
  refine ⟨by rw [flat_len henc, h.1], .inr ?_⟩
  rcases h.2 with h2 | ⟨g', cur, h1, h2, h3, h4, h5, h6, h7⟩
  · omega
  · injection h1 with h1; injection h1 with h1; subst h1
    exact ⟨g, c, cur, rfl, h2, h3, h4, h5, h6, h7⟩
theorem Own.of_row {w : World} {v : Value} (h : w.ownsRow lo e k v n xs) (hl : n = l.length) (hx : xs = l.flatMap enc) : ∃ A c, v = .slice A n c ∧ Own w lo e enc k A n c l := by
  rcases h.2 with ⟨h1, h2⟩ | ⟨g, cap, cur, h1, h2, h3, h4, h5, h6, h7⟩
  · subst h2
    exact ⟨none, 0, h1, hl, .inl ⟨rfl, rfl⟩⟩
  · exact ⟨_, cap, h1, hl, .inr ⟨g, cur, rfl, h2, h3, h4, h5, h6, h7.trans hx⟩⟩
theorem run_app {w : World} (hE : EI P t e k) (henc : ∀ x : α, (enc x).length = k) (h1 : ∀ x : α, ∀ u ∈ enc x, u.oneCell' = true) (ty : TypeId)
    (hown : Own w lo e enc k A n c l) (hlo : lo ≤ w.heap.size) {lo2 : Nat} {A2 : Option Addr} {m c2 : Nat} {l2 : List α} (hs : Sl w lo2 enc k A2 m l2) (hn : n + m ≤ 2147483648) :
    ∃ A' c' w', (Builtin.append_ #[t, t] ty #[.slice A n c, .slice A2 m c2]).run P w = .ok (.slice A' (n + m) c') w' ∧ Own w' lo e enc k A' (n + m) c' (l ++ l2) ∧ w.grownBy w' (rowOf A) ∧ Below lo w w' ∧
      ((A' = A ∧ c' = c) ∨ A' = some ⟨w.heap.size, 0, none⟩) := by
  obtain ⟨ht, i, z, hi, hz, hsz, hby, hzs, hk⟩ := hE
  subst hsz
  have hlen : (l ++ l2).length = n + m := by rw [List.length_append, ← hown.1, ← hs.1]
  have hfl : ((l ++ l2).flatMap enc) = l.flatMap enc ++ l2.flatMap enc := List.flatMap_append
  by_cases hm : m = 0
  · -- nothing comes
    subst hm
    have hl2 : l2 = [] := List.eq_nil_of_length_eq_zero hs.1.symm
    subst hl2
    refine ⟨A, c, w, ?_, by simpa using hown, ⟨rfl, rfl, rfl, Nat.le_refl _, fun _ _ _ => rfl⟩, Below.refl _ _, .inl ⟨rfl, rfl⟩⟩
    have hnc : n ≤ c := by
      rcases hown.2 with ⟨h, h'⟩ | ⟨g, cur, _, _, _, h, _⟩ <;> omega
    rcases hown.2 with ⟨h, h'⟩ | ⟨g, cur, hA, _, _, h, _⟩
    · subst h; subst h'
      cases A <;> cases A2 <;> simp [Builtin.append_, run_underlying ht, sizeOf, typeInfo, hi, Builtin.lenOf, Builtin.firstCells, storeCells, loadCells, loadCellsFrom]
    · subst hA
      cases A2 <;> simp [Builtin.append_, run_underlying ht, sizeOf, typeInfo, hi, Builtin.lenOf, Builtin.firstCells, hnc, storeCells, loadCells, loadCellsFrom]
  · obtain ⟨b, o, hA2, _, hcell⟩ := hs.2 (by omega)
    subst hA2
    have hnl : (l2.flatMap enc).length = m * i.size := by rw [flat_len henc, ← hs.1]
    have hnews : ∀ j u, (l2.flatMap enc)[j]? = some u → w.cell? ((⟨b, o, none⟩ : Addr).add j) = some u := by
      intro j u hu
      have hj : j < m * i.size := by rw [← hnl]; exact (List.getElem?_eq_some_iff.1 hu).1
      have hq : j / i.size < m := Nat.div_lt_of_lt_mul (by rw [Nat.mul_comm]; exact hj)
      have hr : j % i.size < i.size := Nat.mod_lt _ hk
      have hx : l2[j / i.size]? = some (l2[j / i.size]'(by rw [← hs.1]; exact hq)) := List.getElem?_eq_getElem _
      have hv : (enc (l2[j / i.size]'(by rw [← hs.1]; exact hq)))[j % i.size]? = some ((enc (l2[j / i.size]'(by rw [← hs.1]; exact hq)))[j % i.size]'(by rw [henc]; exact hr)) := List.getElem?_eq_getElem _
      have hf := flat_get henc l2 _ _ hx _ _ hv
      have hd : j / i.size * i.size + j % i.size = j := Nat.div_add_mod' j i.size
      have hc := hcell _ _ hx _ _ hv
      rw [Nat.add_assoc, hd] at hc
      rw [hd, hu] at hf
      rw [← hf] at hc
      unfold Addr.add
      split
      · rename_i h0; subst h0; simpa using hc
      · exact hc
    have h1' : ∀ u ∈ l2.flatMap enc, u.oneCell' = true := fun u hu => by
      obtain ⟨x, _, hx⟩ := List.mem_flatMap.1 hu
      exact h1 x u hx
    have hb1 : (n + m) * i.bytes ≤ 140737488355328 := Nat.le_trans (Nat.mul_le_mul hn hby) (by decide)
    have h63 : n + m ≤ maxLen := by simp only [maxLen]; omega
    have below : ∀ {w' : World} {row : Option Nat}, w.grownBy w' row → (∀ g, row = some g → lo ≤ g) → Below lo w w' := fun hg hr => (Below.refl lo w).grown hg hlo hr
    have hcase : (n = 0 ∧ c = 0) ∨ (0 < c ∧ ∃ g cur, A = some ⟨g, 0, none⟩ ∧ lo ≤ g ∧ w.heap[g]? = some (.cells cur e (0, 0)) ∧ n ≤ c ∧ c ≤ maxLen ∧ cur.size = c * i.size ∧ cur.toList.take (n * i.size) = l.flatMap enc) := by
      rcases hown.2 with h | ⟨g, cur, h⟩
      · exact .inl h
      · by_cases h0 : c = 0
        · exact .inl ⟨by omega, h0⟩
        · exact .inr ⟨by omega, g, cur, h⟩
    rcases hcase with ⟨h, h'⟩ | ⟨hc0, g, cur, hA, hlg, hh, hnc, hcm, hcs, htk⟩
    · subst h; subst h'
      have hl : l = [] := List.eq_nil_of_length_eq_zero hown.1.symm
      subst hl
      have fin : ∀ cap, m ≤ cap → cap ≤ maxLen → Own (w.drew.alloc (.cells ((l2.flatMap enc).toArray ++ Builtin.zeroCells z.cells (cap - m)) e)) lo e enc i.size (some ⟨w.heap.size, 0, none⟩) (0 + m) cap ([] ++ l2) := by
        intro cap hc1 hc2
        refine ⟨by simp [hs.1], .inr ⟨w.heap.size, _, rfl, hlo, heap_alloc_new w.drew _, by omega, hc2, ?_, ?_⟩⟩
        · simp only [Array.size_append, List.size_toArray, size_zeroCells, hzs, hnl, ← Nat.add_mul]
          congr 1; omega
        · simp only [Array.toList_append, Nat.zero_add, List.nil_append]
          rw [← hnl]; exact List.take_left
      have grown : ∀ cs row, w.grownBy (w.drew.alloc (.cells cs e)) row := fun cs row => ⟨rfl, rfl, rfl, by simp, fun _ hk _ => Below.heap_alloc w.drew _ _ hk⟩
      have fits : Builtin.nextslicecap (0 + m) 0 * i.bytes ≤ 281474976710656 := growslice_fits (by omega) hb1
      cases A with
      | none =>
        have hr := run_append_nil (P := P) w t ty e i z ht hi hz ⟨b, o, none⟩ m c2 _ hnl hnews (by omega) (by omega) (by rw [Nat.zero_add] at hb1; omega)
        refine ⟨_, _, _, by rw [Nat.zero_add]; exact hr, fin _ (grownCap_ge w m 0 e) (grownCap_le_maxLen w m 0 e (by omega)), grown _ _, below (row := none) (grown _ _) (by simp), .inr rfl⟩
      | some a =>
        have hr := run_append_grow (P := P) w t ty e i z ht hi hz a 0 0 [] (by simp) (by simp) ⟨b, o, none⟩ m c2 _ hnl hnews (by omega) (by omega) fits
        have hf := fin (grownCap w (0 + m) 0 e) (by have := grownCap_ge w (0 + m) 0 e; omega) (grownCap_le_maxLen w (0 + m) 0 e (by omega))
        refine ⟨_, _, _, hr, ?_, grown _ _, below (row := none) (grown _ _) (by simp), .inr rfl⟩
        simpa using hf
    · subst hA
      · have hrow := Own.row hown hc0 henc
        obtain ⟨v', w', hr, ho, hg, _, hat⟩ := run_append_own_at (P := P) w lo t ty e i z i.size i.bytes ht hi hz rfl rfl hzs hk _ n _ hrow ⟨b, o, none⟩ m c2 _ hnl hnews h1' h63 hb1 hlo
        obtain ⟨A', c', hv, ho'⟩ := Own.of_row ho hlen.symm hfl.symm
        subst hv
        refine ⟨A', c', w', hr, ho', by simpa [rowOf, Value.ownBlock] using hg, below hg (by simp [Value.ownBlock]; omega), ?_⟩
        by_cases hroom : n + m ≤ c
        · have hr2 := run_append_room (P := P) w t ty e i ht hi g n c cur hh ⟨b, o, none⟩ m c2 _ hnl hnews h1' hroom (by rw [hnl, hcs, ← Nat.add_mul]; exact Nat.mul_le_mul_right _ hroom)
          rw [hr2] at hr
          injection hr with hr _
          injection hr with e1 _ e2
          exact .inl ⟨e1.symm, e2.symm⟩
        · have hr2 := run_append_grow (P := P) w t ty e i z ht hi hz ⟨g, 0, none⟩ n c _ (by rw [flat_len henc, hown.1]) (hrow.cells (g := g) rfl) ⟨b, o, none⟩ m c2 _ hnl hnews (by omega) (by omega) (growslice_fits (by omega) hb1)
          rw [hr2] at hr
          injection hr with hr _
          injection hr with e1 _ e2
          exact .inr e1.symm
/-- what a walk wants behind an append -/
def AppF (lo : Nat) (w w' : World) : Prop :=
  App lo w w' ∧ (∀ b o, b < lo → w'.cell? ⟨b, o, none⟩ = w.cell? ⟨b, o, none⟩) ∧ (∀ b o, b < lo → w'.frozen? ⟨b, o, none⟩ = w.frozen? ⟨b, o, none⟩) ∧ (∀ b, b < w.heap.size → b < w'.heap.size)
theorem appF {lo : Nat} {w w' : World} (h : Below lo w w') : AppF lo w w' :=
  ⟨⟨h⟩, fun b o hb => h.cell (p := ⟨b, o, none⟩) hb, fun b o hb => h.frozen (p := ⟨b, o, none⟩) hb, fun _ hb => Nat.lt_of_lt_of_le hb h.size⟩
theorem wpList_app {ops : Array Oper} {rest : List Oper} {o : Oper} {a : Act} {Q : Exit → Act → World → Prop} {w : World} {lo2 : Nat} {A2 : Option Addr} {m c2 : Nat} {l2 : List α} (hE : EI P t e k)
    (hown : Own w lo e enc k A n c l) (s x : Operand) (hgd : o.guard = none) (ho : o.op = .call { callee := .builtin .append, args := #[s, x], argTypes := #[t, t] })
    (hs1 : a.eval s = .slice A n c) (hx : a.eval x = .slice A2 m c2) (hs : Sl w lo2 enc k A2 m l2) (henc : ∀ x : α, (enc x).length = k) (h1 : ∀ x : α, ∀ u ∈ enc x, u.oneCell' = true) [hlo : LeN lo w.heap.size] (hn : n + m ≤ 2147483648) (N : Nat) (hN : n + m = N) (L : List α) (hL : l ++ l2 = L)
    (h : ∀ A' c' w', Own w' lo e enc k A' N c' L → AppF lo w w' → w.grownBy w' (rowOf A) → ((A' = A ∧ c' = c) ∨ A' = some ⟨w.heap.size, 0, none⟩) → wpList P ops Q rest (a.put o.dst (.slice A' N c')) w') : wpList P ops Q (o :: rest) a w :=
  wpList_plain hgd fun K hK => by
    subst hN; subst hL
    obtain ⟨A', c', w', hr, h2, h3, h4, h5⟩ := run_app (P := P) hE henc h1 o.type hown hlo.out (c2 := c2) hs hn
    unfold Oper.wp execOp
    simp only [ho, resolve, invoke, builtin, Sem.run_bind, Sem.run_pure, Result.andThen_ok, List.map_toArray, List.map_cons, List.map_nil, hs1, hx, hr]
    exact hK _ _ (h A' c' w' h2 (appF h4) h3 h5)
theorem Sl.one {w : World} {cs : Array Value} {e' : TypeId} {x : α} (hcs : cs.toList = enc x) : Sl (w.alloc (.cells cs e')) w.heap.size enc k (some ⟨w.heap.size, 0, none⟩) 1 [x] :=
  ⟨rfl, fun _ => ⟨_, _, rfl, Nat.le_refl _, fun i y hy j v hv => by
    cases i with
    | succ i => simp at hy
    | zero =>
      simp at hy
      subst hy
      rw [← hcs] at hv
      have : (w.alloc (.cells cs e')).cell? ⟨w.heap.size, 0 + 0 * k + j, none⟩ = cs[j]? := by simp
      rw [this]; simpa using hv⟩⟩
theorem Sl.of1 {w : World} {g : Nat} {x : α} (h : ∀ j v, (enc x)[j]? = some v → w.cell? ⟨g, j, none⟩ = some v) : Sl w 0 enc k (some ⟨g, 0, none⟩) 1 [x] :=
  ⟨rfl, fun _ => ⟨g, 0, rfl, Nat.zero_le _, fun i y hy j v hv => by
    cases i with
    | succ i => simp at hy
    | zero => simp at hy; subst hy; simpa using h j v hv⟩⟩
theorem wpList_app1 {ops : Array Oper} {rest : List Oper} {o : Oper} {a : Act} {Q : Exit → Act → World → Prop} {w : World} {cs : Array Value} {e' : TypeId} {g1 : Nat} (hE : EI P t e k)
    (hown : Own w lo e enc k A n c l) (x : α) (hcs : cs.toList = enc x) (s y : Operand) (hgd : o.guard = none) (ho : o.op = .call { callee := .builtin .append, args := #[s, y], argTypes := #[t, t] })
    (hs1 : a.eval s = .slice A n c) (hx : a.eval y = .slice (some ⟨g1, 0, none⟩) 1 1) (hg1 : g1 = w.heap.size) (henc : ∀ x : α, (enc x).length = k) (h1 : ∀ x : α, ∀ u ∈ enc x, u.oneCell' = true) [hlo : LeN lo w.heap.size] (hn : n + 1 ≤ 2147483648)
    (h : ∀ A' c' w', Own w' lo e enc k A' (n + 1) c' (l ++ [x]) → AppF lo (w.alloc (.cells cs e')) w' → (w.alloc (.cells cs e')).grownBy w' (rowOf A) → ((A' = A ∧ c' = c) ∨ A' = some ⟨w.heap.size + 1, 0, none⟩) → wpList P ops Q rest (a.put o.dst (.slice A' (n + 1) c')) w') : wpList P ops Q (o :: rest) a (w.alloc (.cells cs e')) := by
  subst hg1
  have : LeN lo (w.alloc (.cells cs e')).heap.size := ⟨by have := hlo.out; simp; omega⟩
  exact wpList_app hE (hown.alloc _) s y hgd ho hs1 hx (Sl.one hcs) henc h1 hn _ rfl _ rfl (by simpa only [World.size_alloc] using h)
theorem wp_app {o : Oper} {a : Act} {K : Act → World → Prop} {Q : Exit → Act → World → Prop} {w : World} {lo2 : Nat} {A2 : Option Addr} {m c2 : Nat} {l2 : List α} (hE : EI P t e k)
    (hown : Own w lo e enc k A n c l) (s x : Operand) (ho : o.op = .call { callee := .builtin .append, args := #[s, x], argTypes := #[t, t] })
    (hs1 : a.eval s = .slice A n c) (hx : a.eval x = .slice A2 m c2) (hs : Sl w lo2 enc k A2 m l2) (henc : ∀ x : α, (enc x).length = k) (h1 : ∀ x : α, ∀ u ∈ enc x, u.oneCell' = true) (hlo : lo ≤ w.heap.size) (hn : n + m ≤ 2147483648)
    (h : ∀ A' c' w', Own w' lo e enc k A' (n + m) c' (l ++ l2) → AppF lo w w' → w.grownBy w' (rowOf A) → ((A' = A ∧ c' = c) ∨ A' = some ⟨w.heap.size, 0, none⟩) → K (a.put o.dst (.slice A' (n + m) c')) w') : o.wp P a w K Q := by
  obtain ⟨A', c', w', hr, h2, h3, h4, h5⟩ := run_app (P := P) hE henc h1 o.type hown hlo (c2 := c2) hs hn
  unfold Oper.wp execOp
  simp only [ho, resolve, invoke, builtin, Sem.run_bind, Sem.run_pure, Result.andThen_ok, List.map_toArray, List.map_cons, List.map_nil, hs1, hx, hr]
  exact h A' c' w' h2 (appF h4) h3 h5
/-- append in a region that draws its order -/
theorem step_app {ops : Array Oper} {o : Oper} {a : Act} {K : Act → World → Prop} {Q : Exit → Act → World → Prop} {E : Prop} {w : World} {lo2 : Nat} {A2 : Option Addr} {m c2 : Nat} {l2 : List α} (hE : EI P t e k)
    (hown : Own w lo e enc k A n c l) (s x : Operand) (hgd : o.guard = none) (ho : o.op = .call { callee := .builtin .append, args := #[s, x], argTypes := #[t, t] })
    (hs1 : a.eval s = .slice A n c) (hx : a.eval x = .slice A2 m c2) (hs : Sl w lo2 enc k A2 m l2) (henc : ∀ x : α, (enc x).length = k) (h1 : ∀ x : α, ∀ u ∈ enc x, u.oneCell' = true) [hlo : LeN lo w.heap.size] (hn : n + m ≤ 2147483648) (N : Nat) (hN : n + m = N) (L : List α) (hL : l ++ l2 = L)
    (h : ∀ A' c' w', Own w' lo e enc k A' N c' L → AppF lo w w' → w.grownBy w' (rowOf A) → ((A' = A ∧ c' = c) ∨ A' = some ⟨w.heap.size, 0, none⟩) → K (a.put o.dst (.slice A' N c')) w') :
    if Region.wanted o (yielded ops a.tmps) = true then Oper.wp P o a w K Q else E := by
  subst hN; subst hL
  have hw : Region.wanted o (yielded ops a.tmps) = true := by simp [Region.wanted, hgd]
  rw [if_pos hw]
  exact wp_app hE hown s x ho hs1 hx hs henc h1 hlo.out hn h
theorem step_app1 {ops : Array Oper} {o : Oper} {a : Act} {K : Act → World → Prop} {Q : Exit → Act → World → Prop} {E : Prop} {w : World} {cs : Array Value} {e' : TypeId} {g1 : Nat} (hE : EI P t e k)
    (hown : Own w lo e enc k A n c l) (x : α) (hcs : cs.toList = enc x) (s y : Operand) (hgd : o.guard = none) (ho : o.op = .call { callee := .builtin .append, args := #[s, y], argTypes := #[t, t] })
    (hs1 : a.eval s = .slice A n c) (hx : a.eval y = .slice (some ⟨g1, 0, none⟩) 1 1) (hg1 : g1 = w.heap.size) (henc : ∀ x : α, (enc x).length = k) (h1 : ∀ x : α, ∀ u ∈ enc x, u.oneCell' = true) [hlo : LeN lo w.heap.size] (hn : n + 1 ≤ 2147483648)
    (h : ∀ A' c' w', Own w' lo e enc k A' (n + 1) c' (l ++ [x]) → AppF lo (w.alloc (.cells cs e')) w' → (w.alloc (.cells cs e')).grownBy w' (rowOf A) → ((A' = A ∧ c' = c) ∨ A' = some ⟨w.heap.size + 1, 0, none⟩) → K (a.put o.dst (.slice A' (n + 1) c')) w') :
    if Region.wanted o (yielded ops a.tmps) = true then Oper.wp P o a (w.alloc (.cells cs e')) K Q else E := by
  subst hg1
  have : LeN lo (w.alloc (.cells cs e')).heap.size := ⟨by have := hlo.out; simp; omega⟩
  exact step_app hE (hown.alloc _) s y hgd ho hs1 hx (Sl.one hcs) henc h1 hn _ rfl _ rfl (by simpa only [World.size_alloc] using h)
theorem Sl.take {w : World} (h : Sl w lo enc k A n l) {m : Nat} (hm : m ≤ n) : Sl w lo enc k A m (l.take m) :=
  ⟨by rw [List.length_take, ← h.1]; omega, fun h0 => by
    obtain ⟨b, o, h1, h2, h3⟩ := h.2 (by omega)
    refine ⟨b, o, h1, h2, fun i x hx j v hv => h3 i x ?_ j v hv⟩
    rw [List.getElem?_take] at hx
    split at hx
    · exact hx
    · cases hx⟩
theorem wp_gen {c : Code} {Q : Exit → Act → World → Prop} {a : Act} {w : World} (h : ∀ W, W = w → c.wp P Q a W) : c.wp P Q a w := h w rfl
/-! ## regions that draw their order, and only read or make memory -/
/-- the worlds behind w in which all of w is as it was -/
structure BelW (w : World) where
  val : World
  bel : Bel w val
instance BelW.ne (w : World) : Nonempty (BelW w) := ⟨⟨w, Bl.rfl'⟩⟩
theorem wp_region_bel {id : Nat} {Q : Exit → Act → World → Prop} {a : Act} {w : World} {ops : List Oper} (hm : P.follows .mixedOrders = true) (hB : Region.lexB .any ops.toArray = true)
    (h : (∀ x : BelW w, ∀ b o, b < w.heap.size → x.val.cell? ⟨b, o, none⟩ = w.cell? ⟨b, o, none⟩) → wpQuiet P ops.toArray (fun w' => ∃ x : BelW w, w' = x.val) (fun a' => ∀ w', (∃ x : BelW w, w' = x.val) → Q .normal a' w') ops a) : (Code.region id ops.toArray true).wp P Q a w :=
  wp_region_quiet (C := fun w' => ∃ x : BelW w, w' = x.val) hm hB ⟨⟨w.drew, inferInstance⟩, rfl⟩ (by simpa using h fun x b o hb => x.bel.cell (p := ⟨b, o, none⟩) hb)
theorem Calls.inBel {w : World} {x : BelW w} {f : FuncId} {args : Array Value} {v : Value} (h : Calls P f args x.val fun e w' => e = .returned v ∧ Bel x.val w') : Calls P f args x.val fun e w' => e = .returned v ∧ ∃ y : BelW w, w' = y.val :=
  h.mono fun _ w' ⟨he, hb⟩ => ⟨he, ⟨⟨w', x.bel.trans hb⟩, rfl⟩⟩
theorem Calls.inBel_same {w : World} {x : BelW w} {f : FuncId} {args : Array Value} {v : Value} (h : Calls P f args x.val fun e w' => e = .returned v ∧ x.val = w') : Calls P f args x.val fun e w' => e = .returned v ∧ ∃ y : BelW w, w' = y.val :=
  h.mono fun _ _ ⟨he, hb⟩ => ⟨he, ⟨x, hb.symm⟩⟩
theorem Sl.belW {w : World} {x : BelW w} (h : Sl w lo enc k A n l) : Sl x.val lo enc k A n l := h.bel x.bel
theorem ei_ints : EI Try.prog 67 3 1 := ei_of (z := I 0) (b := 8) Try.underlying67 (by kernel_rfl) (by decide) rfl (by decide)
end
end Go.Proofs.Ytiheokjolaclnaa

/- The program's Length and Meet. -/
import Derived.Test.YtiheokjolaclnaaImplHoles
import Derived.Lib.MinMax
namespace Go.Proofs.Ytiheokjolaclnaa
open Go.RowKit
def lenTo (l : List Hole) (k : Nat) : Int := ((l.take k).map (fun h => h.t - h.f)).sum
def lengthR (l : List Hole) : Int := if holesOk l then lenTo l l.length else 0
theorem lenTo_succ {l : List Hole} {k : Nat} {x : Hole} (h : l[k]? = some x) : lenTo l (k + 1) = lenTo l k + (x.t - x.f) := by
  unfold lenTo
  rw [List.take_add_one, h]
  simp [List.map_append, List.sum_append]
theorem timeB_bd {x : Int} (h : timeB x = true) : 0 ≤ x ∧ x ≤ 1000000000 := by simpa [timeB, withinB] using h
theorem spanB_bd {f t : Int} (h : spanB f t = true) : 0 ≤ f ∧ f < t ∧ t ≤ 1000000000 := by
  simp only [spanB, Bool.and_eq_true, decide_eq_true_eq] at h
  have h1 := timeB_bd h.1.1; have h2 := timeB_bd h.1.2
  omega
theorem okHole_at {l : List Hole} (hok : holesOk l = true) {k : Nat} (hk : k < l.length) : okHole l k = true := by
  unfold holesOk at hok
  exact List.all_eq_true.1 hok k (List.mem_range.2 hk)
theorem okHole_span {l : List Hole} {k : Nat} {x : Hole} (h : okHole l k = true) (hx : l[k]? = some x) : 0 ≤ x.f ∧ x.f < x.t ∧ x.t ≤ 1000000000 := by
  unfold okHole at h
  rw [hx] at h
  simp only [Bool.and_eq_true] at h
  exact spanB_bd h.1
theorem okHole_next {l : List Hole} {k : Nat} {x y : Hole} (h : okHole l (k + 1) = true) (hx : l[k + 1]? = some x) (hy : l[k]? = some y) : y.t < x.f := by
  unfold okHole at h
  rw [hx] at h
  simp [hy] at h
  exact h.2
theorem lenTo_bd {l : List Hole} (hok : holesOk l = true) : ∀ k, k ≤ l.length → 0 ≤ lenTo l k ∧ lenTo l k ≤ 1000000000 ∧ ∀ y, l[k - 1]? = some y → 0 < k → lenTo l k ≤ y.t := by
  intro k
  induction k with
  | zero => intro _; simp [lenTo]
  | succ k ih =>
    intro hk
    have hx : l[k]? = some (l[k]'(by omega)) := List.getElem?_eq_getElem _
    have h1 := okHole_at hok (show k < l.length by omega)
    have h2 := okHole_span h1 hx
    obtain ⟨i1, i2, i3⟩ := ih (by omega)
    have e := lenTo_succ hx
    have hb : lenTo l k ≤ (l[k]'(by omega)).f := by
      rcases Nat.eq_zero_or_pos k with h0 | h0
      · subst h0; simp [lenTo]; exact h2.1
      · obtain ⟨j, rfl⟩ : ∃ j, k = j + 1 := ⟨k - 1, by omega⟩
        have hy : l[j]? = some (l[j]'(by omega)) := List.getElem?_eq_getElem _
        have := okHole_next h1 hx hy
        have := i3 _ hy (by omega)
        omega
    refine ⟨by omega, by omega, fun y hy _ => ?_⟩
    rw [Nat.add_sub_cancel, hx] at hy
    injection hy with hy; subst hy
    omega
set_option maxHeartbeats 1000000 in
theorem length_c (A : Option Addr) (n c : Nat) (l : List Hole) (w : World) (h : Sl w 0 Hole.enc 2 A n l) (hn : n ≤ 2147483600) : Calls Try.prog 13 #[.slice A n c] w fun e w' => e = .returned (I (lengthR l)) ∧ Bel w w' := by
  have HL := Lib.hid h.len
  rcases ways1 (holesOk l) with g | g
  all_goals go_enter Try.func13, Try.ntmps13
  all_goals go_wp2_with (go_at_call 8; refine (holesOk_c _ _ _ _ _ (h.bel inferInstance) (by omega)).mono ?_; rintro e w1 ⟨rfl, hb1⟩; obtain ⟨hs1, hc1, hf1, hz1⟩ := std hb1)
  · go_ret
    exact ⟨by simp [lengthR, g], inferInstance⟩
  have HS := h.bel hb1
  go_loopw [3, 11] (fun v i wr => ∃ k : Nat, k ≤ n ∧ i = .int .i64 k ∧ v = I (lenTo l k) ∧ Bel w1 wr) (fun _ i _ => n - (intOf i).toNat)
  case atStart => exact ⟨0, by omega, rfl, rfl, inferInstance⟩
  case round =>
    obtain ⟨k, hk, rfl, rfl, hb0⟩ := hrel
    obtain ⟨hs0, hc0, hf0, hz0⟩ := std hb0
    have hbd := lenTo_bd g k (by have := HL.out; omega)
    have hb1' := hbd.1
    have hb2' := hbd.2.1
    clear hbd
    by_cases hlt : k < n
    case neg =>
      obtain rfl : k = n := by omega
      have e : lengthR l = lenTo l k := by rw [HL.out]; simp [lengthR, g]
      go_wp2
      go_ret
      exact ⟨by rw [e]; rfl, inferInstance⟩
    have HK := HS.bel hb0
    obtain ⟨b, o, rfl⟩ := HK.addr (by omega)
    obtain ⟨x, hx, hlb, d0, d1⟩ := Holes.cells HK hlt
    have hsp := okHole_span (okHole_at g (show k < l.length by have := HL.out; omega)) hx
    have hs1' := hsp.1
    have hs2' := hsp.2.1
    have hs3' := hsp.2.2
    have V := Lib.hid (lenTo_succ hx)
    clear hx hsp
    go_wp2
    go_roundw
    case rel => exact ⟨k + 1, by omega, by go_num, by rw [V.out]; go_num, inferInstance⟩
    case measure => simp [intOf]; omega
theorem grown_cell {w w' : World} {A : Option Addr} {g o : Nat} (h : w.grownBy w' (rowOf A)) (hA : ∀ p, A = some p → p.block ≠ g) (hg : g < w.heap.size) : w'.cell? ⟨g, o, none⟩ = w.cell? ⟨g, o, none⟩ :=
  World.cell?_of_block (h.block g hg (by
    intro e
    cases A with
    | none => exact absurd e (by simp [rowOf])
    | some p => simp only [rowOf] at e; injection e with e; exact hA p rfl e.symm))
theorem near {α : Type} {enc : α → List Value} {A A' : Option Addr} {lo e k c c' q g N M : Nat} {l : List α} {w' : World} (hat : (A' = A ∧ c' = c) ∨ A' = some ⟨q, 0, none⟩) (h1 : ∀ p, A = some p → p.block ≠ g ∧ p.block < M) (hM : M ≤ w'.heap.size) (hq : g < q) (ho : Own w' lo e enc k A' (N + 1) c' l) :
    ∀ p, A' = some p → p.block ≠ g ∧ p.block < w'.heap.size := by
  intro p hp
  rcases hat with ⟨h, _⟩ | h
  · rw [h] at hp; have := h1 p hp; omega
  · rcases ho.blk with h2 | ⟨g', h2, _, h3⟩
    · omega
    · rw [h2] at hp h; injection h with h; injection h with h; injection hp with hp; subst hp; subst h; exact ⟨by show g' ≠ g; omega, h3⟩
def meetOne (x y : Hole) : List Hole := if max x.f y.f < min x.t y.t then [⟨max x.f y.f, min x.t y.t⟩] else []
def meetAll (a b : List Hole) : List Hole := a.flatMap fun x => b.flatMap fun y => meetOne x y
def meetR (a b : List Hole) : List Hole := if holesOk a && holesOk b then meetAll a b else []
theorem meetAll_succ {a b : List Hole} {k : Nat} {x : Hole} (h : a[k]? = some x) : meetAll (a.take (k + 1)) b = meetAll (a.take k) b ++ b.flatMap (fun y => meetOne x y) := by
  unfold meetAll
  rw [List.take_add_one, h]
  simp [List.flatMap_append]
theorem meetIn_succ {b : List Hole} {k : Nat} {x y : Hole} (h : b[k]? = some y) : (b.take (k + 1)).flatMap (fun y => meetOne x y) = (b.take k).flatMap (fun y => meetOne x y) ++ meetOne x y := by
  rw [List.take_add_one, h]
  simp [List.flatMap_append]
theorem meetIn_len (x : Hole) (b : List Hole) : (b.flatMap (fun y => meetOne x y)).length ≤ b.length := by
  induction b with
  | nil => simp
  | cons y b ih =>
    have : (meetOne x y).length ≤ 1 := by unfold meetOne; split <;> simp
    simp only [List.flatMap_cons, List.length_append, List.length_cons]; omega
theorem meetAll_len (a b : List Hole) : (meetAll a b).length ≤ a.length * b.length := by
  induction a with
  | nil => simp [meetAll]
  | cons x a ih =>
    have := meetIn_len x b
    unfold meetAll at *
    simp only [List.flatMap_cons, List.length_append, List.length_cons, Nat.add_mul]; omega
set_option maxHeartbeats 4000000 in
theorem meet_c (A B : Option Addr) (n c m d : Nat) (a b : List Hole) (w : World) (h : Sl w 0 Hole.enc 2 A n a) (h' : Sl w 0 Hole.enc 2 B m b) (hn : n ≤ 1000) (hm : m ≤ 1000) : Calls Try.prog 14 #[.slice A n c, .slice B m d] w
    fun e w' => ∃ A' n' c', e = .returned (.slice A' n' c') ∧ Own w' w.heap.size 36 Hole.enc 2 A' n' c' (meetR a b) ∧ Bel w w' := by
  have HL := Lib.hid h.len
  have HM := Lib.hid h'.len
  have HAm : Hid (∀ k, (meetAll (a.take k) b).length ≤ 1000000) := Lib.hid (fun k => by
    have h1 := meetAll_len (a.take k) b
    have h2 : (a.take k).length ≤ 1000 := by rw [List.length_take, ← HL.out]; omega
    have h3 : b.length ≤ 1000 := by rw [← HM.out]; exact hm
    have := Nat.mul_le_mul h2 h3
    omega)
  generalize hR : meetR a b = R
  have HR := Lib.hid hR
  clear hR
  rcases ways2 (holesOk a) (holesOk b) with g1 | ⟨g1, g2⟩ | ⟨g1, g2⟩
  all_goals go_enter Try.func14, Try.ntmps14
  all_goals go_wp2_with (go_at_call 8; refine (holesOk_c _ _ _ _ _ (by first | exact h.bel inferInstance | exact h'.bel inferInstance) (by omega)).mono ?_; rintro e w1 ⟨rfl, hb1⟩; obtain ⟨hs1, hc1, hf1, hz1⟩ := std hb1)
  · go_ret
    exact ⟨none, 0, 0, rfl, by rw [← HR.out]; simp only [meetR, g1]; exact Own.nil _ _ _ _ _ _, inferInstance⟩
  · go_ret
    exact ⟨none, 0, 0, rfl, by rw [← HR.out]; simp only [meetR, g1, g2]; exact Own.nil _ _ _ _ _ _, inferInstance⟩
  have HR : Hid (meetAll a b = R) := Lib.hid (by rw [← HR.out]; simp [meetR, g1, g2])
  refine wp_gen ?_; intro W0 hW0
  have B0 : Bel w W0 := by rw [hW0]; infer_instance
  have lw : LeN w.heap.size W0.heap.size := ⟨B0.size⟩
  have yW : w1.heap.size < W0.heap.size := by rw [hW0]; simp
  clear hW0
  go_loopw [5, 22] (fun v i wr => ∃ (k : Nat) (A' : Option Addr) (n' c' : Nat), k ≤ n ∧ i = .int .i64 k ∧ v = .slice A' n' c' ∧ (∀ p, A' = some p → p.block < wr.heap.size) ∧ Own wr W0.heap.size 36 Hole.enc 2 A' n' c' (meetAll (a.take k) b) ∧ Bel W0 wr) (fun _ i _ => n - (intOf i).toNat)
  case atStart => exact ⟨0, _, _, _, by omega, rfl, rfl, by (intro p hp; injection hp with hp; subst hp; exact yW), Own.nil _ _ _ _ _ _, inferInstance⟩
  case round =>
    obtain ⟨k, A1, n1, c1, hk, rfl, rfl, hA1, hown, hb0⟩ := hrel
    obtain ⟨hs0, hc0, hf0, hz0⟩ := std hb0
    by_cases hlt : k < n
    case neg =>
      obtain rfl : k = n := by omega
      have e : a.take k = a := List.take_of_length_le (by rw [HL.out]; exact Nat.le_refl _)
      rw [e, HR.out] at hown
      go_wp2
      go_ret
      exact ⟨_, _, _, rfl, hown.mono lw.out, inferInstance⟩
    have hltZ : decide ((k : Int) < (n : Int)) = true := by (simp; omega)
    have hltN : decide (k < n) = true := by (simp; omega)
    have HK := (h.bel B0).bel hb0
    obtain ⟨ba, oa, rfl⟩ := HK.addr (by omega)
    obtain ⟨x, hx, hlb, d0, d1⟩ := Holes.cells HK hlt
    have V := Lib.hid (meetAll_succ (b := b) hx)
    clear hx
    go_wp2
    generalize hg : wr.heap.size = g at *
    refine wp_gen ?_; intro W1 hW1
    have B1 : Bel wr W1 := by rw [hW1]; infer_instance
    have hs1 : Stp wr W1 := (std B1).1
    have y0 : g < W1.heap.size := by rw [hW1]; simp; omega
    have q0 : W1.cell? ⟨g, 0, none⟩ = some (I x.f) := by rw [hW1, ← hg]; simp [go_sem]
    have q1 : W1.cell? ⟨g, 1, none⟩ = some (I x.t) := by rw [hW1, ← hg]; simp [go_sem]
    have hown := hown.bel B1
    have HB := h'.bel B0
    have lw1 : LeN W0.heap.size W1.heap.size := ⟨by have := B1.size; have := hb0.size; omega⟩
    clear hW1 d0 d1
    go_loopw [5, 28] (fun v i wr2 => ∃ (j : Nat) (A2 : Option Addr) (n2 c2 : Nat), j ≤ m ∧ i = .int .i64 j ∧ v = .slice A2 n2 c2 ∧ (∀ p, A2 = some p → p.block ≠ g ∧ p.block < wr2.heap.size) ∧ g < wr2.heap.size ∧ wr2.cell? ⟨g, 0, none⟩ = some (I x.f) ∧ wr2.cell? ⟨g, 1, none⟩ = some (I x.t) ∧ Own wr2 W0.heap.size 36 Hole.enc 2 A2 n2 c2 (meetAll (a.take k) b ++ (b.take j).flatMap (fun y => meetOne x y)) ∧ Bel W0 wr2) (fun _ i _ => m - (intOf i).toNat)
    case atStart => exact ⟨0, _, _, _, by omega, rfl, rfl, fun p hp => ⟨by have := hA1 p hp; omega, by have := hA1 p hp; have := B1.size; omega⟩, y0, q0, q1, by simpa using hown, inferInstance⟩
    case round =>
      obtain ⟨j, A2, n2, c2, hj, rfl, rfl, hA2, hgl, p0, p1, hown, hb2⟩ := hrel
      obtain ⟨hs2, hc2, hf2, hz2⟩ := std hb2
      clear q0 q1 y0
      by_cases hlt2 : j < m
      case neg =>
        obtain rfl : j = m := by omega
        have e : b.take j = b := List.take_of_length_le (by rw [HM.out]; exact Nat.le_refl _)
        rw [e, ← V.out] at hown
        go_wp2
        go_roundw
        case rel => exact ⟨k + 1, _, _, _, by omega, by go_num, rfl, fun p hp => (hA2 p hp).2, hown, inferInstance⟩
        case measure => simp [intOf]; omega
      have HB2 := HB.bel hb2
      obtain ⟨bb, ob, rfl⟩ := HB2.addr (by omega)
      obtain ⟨y, hy, hlb2, e0, e1⟩ := Holes.cells HB2 hlt2
      have V2 := Lib.hid (meetIn_succ (x := x) hy)
      have hln : n2 ≤ 1001000 := by
        have h1 := hown.len
        have h2 := HAm.out k
        have h3 := meetIn_len x (b.take j)
        have h4 : (b.take j).length ≤ 1000 := by rw [List.length_take, ← HM.out]; omega
        simp only [List.length_append] at h1
        omega
      clear hy
      rcases ways1 (decide (max x.f y.f < min x.t y.t)) with g3 | g3
      all_goals first | have hg3 : meetOne x y = [⟨max x.f y.f, min x.t y.t⟩] := by (unfold meetOne; rw [if_pos (by simpa using g3)]) | have hg3 : meetOne x y = [] := by (unfold meetOne; rw [if_neg (by simpa using g3)])
      all_goals go_wp2_with (at_builtin; refine wpList_app1 ei_holes (hown.bel inferInstance) (⟨max x.f y.f, min x.t y.t⟩ : Hole) rfl (.tmp 48) (.tmp 50) rfl rfl rfl rfl (by simp) Hole.enc_len Hole.enc_one (by omega) ?_; intro A3 c3 w3 ho3 hF3 hG3 hat3; obtain ⟨hs3, hc3, hf3, hz3⟩ := hF3)
      all_goals
        go_roundw
        case rel => exact ⟨j + 1, _, _, _, by omega, by go_num, rfl, by first | exact (fun p hp => ⟨(hA2 p hp).1, by have := (hA2 p hp).2; simp; omega⟩) | exact near hat3 hA2 (Nat.le_trans (by simp; omega) hG3.size) (by simp only [World.size_alloc]; omega) ho3, by first | assumption | (simp; omega; done) | exact Nat.lt_of_lt_of_le (Nat.lt_of_lt_of_le hgl (by simp; omega)) hG3.size, by first | assumption | (simp [go_sem, *]; done) | (refine (grown_cell hG3 (fun p hp => (hA2 p hp).1) (Nat.lt_of_lt_of_le hgl (by simp; omega))).trans ?_; exact Bl.cell_some (a := wr) inferInstance p0), by first | assumption | (simp [go_sem, *]; done) | (refine (grown_cell hG3 (fun p hp => (hA2 p hp).1) (Nat.lt_of_lt_of_le hgl (by simp; omega))).trans ?_; exact Bl.cell_some (a := wr) inferInstance p1), by rw [V2.out, hg3]; first | (rw [← List.append_assoc]; assumption) | (rw [List.append_nil]; exact hown.bel inferInstance), inferInstance⟩
        case measure => simp [intOf]; omega
end Go.Proofs.Ytiheokjolaclnaa

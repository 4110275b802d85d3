/- Free intervals. -/
import Derived.Test.YtiheokjolaclnaaTimes
import Derived.Deep.RegionHeld3
namespace Go.Proofs.Ytiheokjolaclnaa
open Go.RowKit
structure Hole where
  f : Int
  t : Int
deriving DecidableEq
def Hole.enc (h : Hole) : List Value := [I h.f, I h.t]
theorem Hole.enc_len (p : Hole) : p.enc.length = 2 := rfl
theorem Hole.enc_one (p : Hole) : ∀ u ∈ p.enc, u.oneCell' = true := by intro u hu; simp [Hole.enc] at hu; rcases hu with rfl | rfl <;> rfl
theorem ei_holes : EI Try.prog 30 36 2 := ei_of (z := .agg #[I 0, I 0]) (b := 16) Try.underlying30 (by kernel_rfl) (by decide) rfl (by decide)
theorem Holes.cells {w : World} {lo b o : Nat} {n : Nat} {l : List Hole} (h : Sl w lo Hole.enc 2 (some ⟨b, o, none⟩) n l) {i : Nat} (hi : i < n) :
    ∃ x, l[i]? = some x ∧ b < w.heap.size ∧ w.cell? ⟨b, o + i * 2, none⟩ = some (I x.f) ∧ w.cell? ⟨b, o + i * 2 + 1, none⟩ = some (I x.t) := by
  obtain ⟨x, h1, _, h4⟩ := Sl.cells h hi
  have c0 := h4 0 _ rfl
  exact ⟨x, h1, World.block_lt_of_cell? _ _ c0, c0, h4 1 _ rfl⟩
def addHole (l : List Hole) (h : Hole) : List Hole :=
  match l[l.length - 1]? with
  | none => l ++ [h]
  | some x => if x.t == h.f then l.take (l.length - 1) ++ [⟨x.f, h.t⟩] else l ++ [h]
set_option maxHeartbeats 4000000 in
theorem addHole_c {lo : Nat} (A : Option Addr) (n c : Nat) (l : List Hole) (h : Hole) (w : World) (ho : Own w lo 36 Hole.enc 2 A n c l) (hn : n ≤ 2147483640) [hlo : LeN lo w.heap.size] :
    Calls Try.prog 33 #[.slice A n c, .agg #[I h.f, I h.t]] w fun e w' => ∃ A' n' c', e = .returned (.slice A' n' c') ∧ Own w' lo 36 Hole.enc 2 A' n' c' (addHole l h) ∧ Bl lo w w' := by
  have HL := Lib.hid ho.len
  have hsl := ho.sl Hole.enc_len
  rcases Nat.eq_zero_or_pos n with h0 | h0
  · subst h0
    have hadd : Hid (addHole l h = l ++ [h]) := Lib.hid (by have : l = [] := List.eq_nil_of_length_eq_zero HL.out.symm; subst this; rfl)
    go_enter Try.func33, Try.ntmps33
    go_wp2
    go_quiet (fail)
    go_wp2_with (at_builtin; refine wpList_app1 ei_holes (ho.bel inferInstance) h rfl (.tmp 38) (.tmp 40) rfl rfl rfl rfl (by simp) Hole.enc_len Hole.enc_one (by omega) ?_; intro A2 c2 w2 ho2 hF2 hG2 hat2; obtain ⟨hs2, hc2, hf2, hz2⟩ := hF2)
    go_ret
    exact ⟨_, _, _, rfl, by rw [hadd.out]; assumption, inferInstance⟩
  · obtain ⟨b, o, rfl⟩ := hsl.addr h0
    obtain ⟨m, rfl⟩ : ∃ m, n = m + 1 := ⟨n - 1, by omega⟩
    obtain ⟨x, hx, hlb, d0, d1⟩ := Holes.cells hsl (show m < m + 1 by omega)
    have hadd : Hid (addHole l h = if x.t == h.f then l.take m ++ [⟨x.f, h.t⟩] else l ++ [h]) := Lib.hid (by unfold addHole; rw [← HL.out, Nat.add_sub_cancel, hx])
    clear hx
    rcases ways1 (x.t == h.f) with g | g
    all_goals go_enter Try.func33, Try.ntmps33
    all_goals go_wp2
    all_goals go_quiet (fail)
    all_goals go_wp2_with (at_builtin; refine wpList_app1 ei_holes (ho.bel inferInstance) h rfl (.tmp 38) (.tmp 40) rfl rfl rfl rfl (by simp) Hole.enc_len Hole.enc_one (by omega) ?_; intro A2 c2 w2 ho2 hF2 hG2 hat2; obtain ⟨hs2, hc2, hf2, hz2⟩ := hF2)
    rotate_left
    · refine wp_gen ?_; intro W hW
      have B0 : Bel w W := by rw [hW]; infer_instance
      have hsW : Stp w W := (std B0).1
      have hb1 : W.cell? ⟨w.heap.size, 1, none⟩ = some (I h.t) := by rw [hW]; simp [go_sem]
      have e0 := B0.cell_some d0
      have hsl' := (hsl.bel B0).take (show m ≤ m + 1 by omega)
      have hm0 : (0 : Int) ≤ (m : Int) := by omega
      have hm1 : (m : Int) < (m : Int) + 1 := by omega
      have hwm : IntKind.i64.wrap (m : Int) = (m : Int) := IntWalk.i64_in _ (by omega)
      have hcap : m ≤ c := by have := ho.cap; omega
      have hcapZ : (m : Int) ≤ (c : Int) := by omega
      have lW : LeN lo W.heap.size := ⟨Nat.le_trans hlo.out B0.size⟩
      have hbW : b < W.heap.size := World.block_lt_of_cell? W _ e0
      have hwW : w.heap.size < W.heap.size := World.block_lt_of_cell? W _ hb1
      have hbW1 : b < W.heap.size + 1 := by omega
      have hwW1 : w.heap.size < W.heap.size + 1 := by omega
      have hbW2 : b < W.heap.size + 1 + 1 := by omega
      have hwW2 : w.heap.size < W.heap.size + 1 + 1 := by omega
      clear hW d0 d1
      go_region_held3 (fun w' => w'.cell? ⟨w.heap.size, 1, none⟩ = some (I h.t) ∧ w'.cell? ⟨b, o + m * 2, none⟩ = some (I x.f)) (first | go_keep | (simp [*]; done) | (trace_state; fail)) (first | (refine step_app ei_holes (Own.nil _ (W.heap.size + 1 + 1) _ _ _ _) (.tmp 21) (.tmp 25) (by rfl) (by rfl) (by rfl) (by rfl) (hsl'.bel inferInstance) Hole.enc_len Hole.enc_one (by omega) m (by omega) (l.take m) rfl ?_; intro A3 c3 w3 ho3 hF3 hG3 hat3; obtain ⟨hs3, hc3, hf3, hz3⟩ := hF3) | (refine step_app ei_holes (Own.nil _ (W.heap.size + 1) _ _ _ _) (.tmp 21) (.tmp 25) (by rfl) (by rfl) (by rfl) (by rfl) (hsl'.bel inferInstance) Hole.enc_len Hole.enc_one (by omega) m (by omega) (l.take m) rfl ?_; intro A3 c3 w3 ho3 hF3 hG3 hat3; obtain ⟨hs3, hc3, hf3, hz3⟩ := hF3) | (refine step_app ei_holes (ho3.bel inferInstance) (.tmp 26) (.tmp 36) (by rfl) (by rfl) (by rfl) (by rfl) (Sl.of1 (x := (⟨x.f, h.t⟩ : Hole)) (by intro j v hj; rcases j with _ | _ | j <;> simp [Hole.enc] at hj <;> subst hj <;> simp [*, go_sem])) Hole.enc_len Hole.enc_one (by omega) _ rfl _ rfl ?_; intro A4 c4 w4 ho4 hF4 hG4 hat4; obtain ⟨hs4, hc4, hf4, hz4⟩ := hF4))
      all_goals go_wp2
      all_goals go_ret
      all_goals exact ⟨_, _, _, rfl, by rw [hadd.out, if_pos g]; exact ho4.mono (by have := lW.out; omega), inferInstance⟩
    · go_ret
      exact ⟨_, _, _, rfl, by rw [hadd.out, if_neg (by simp [g])]; assumption, inferInstance⟩
end Go.Proofs.Ytiheokjolaclnaa

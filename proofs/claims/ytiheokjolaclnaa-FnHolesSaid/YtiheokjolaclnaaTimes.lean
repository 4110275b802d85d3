/- The reference's list of times. -/
import Derived.Test.YtiheokjolaclnaaMin
namespace Go.Proofs.Ytiheokjolaclnaa
open Go.RowKit
def insStep (t : Int) (s : List Int × Bool) (x : Int) : List Int × Bool :=
  let s1 := if !s.2 && decide (t ≤ x) then (s.1 ++ [t], true) else s
  if x != t then (s1.1 ++ [x], s1.2) else s1
def insTo (t : Int) (l : List Int) (k : Nat) : List Int × Bool := (l.take k).foldl (insStep t) ([], false)
def insT (t : Int) (l : List Int) : List Int := let s := insTo t l l.length; if s.2 then s.1 else s.1 ++ [t]
def timesOf (l : List Pt) (f t : Int) : List Int := insT t (insT f (l.map Pt.t))
theorem insTo_succ {t : Int} {l : List Int} {k : Nat} {x : Int} (h : l[k]? = some x) : insTo t l (k + 1) = insStep t (insTo t l k) x := by
  unfold insTo
  rw [List.take_add_one, h]
  simp [List.foldl_append]
theorem insTo_len (t : Int) (l : List Int) : ∀ k, (insTo t l k).1.length + (if (insTo t l k).2 then 0 else 1) ≤ k + 1 := by
  intro k
  induction k with
  | zero => simp [insTo]
  | succ k ih =>
    cases h : l[k]? with
    | none =>
      have e : insTo t l (k + 1) = insTo t l k := by unfold insTo; rw [List.take_add_one, h]; simp
      rw [e]; omega
    | some x =>
      rw [insTo_succ h]
      revert ih
      cases hs : insTo t l k with
      | mk a d =>
        intro ih
        cases d <;> by_cases h1 : t ≤ x <;> by_cases h2 : x = t <;> simp [insStep, h1, h2] at ih ⊢ <;> omega
theorem insT_len (t : Int) (l : List Int) : (insT t l).length ≤ l.length + 1 := by
  have := insTo_len t l l.length
  unfold insT
  revert this
  cases hs : insTo t l l.length with
  | mk a d => cases d <;> simp <;> omega
def curAt (l : List Pt) (f t : Int) (m : Nat) : List Int := ([f, t].take m).foldl (fun c x => insT x c) (l.map Pt.t)
theorem curAt_succ {l : List Pt} {f t : Int} {m : Nat} {x : Int} (h : [f, t][m]? = some x) : curAt l f t (m + 1) = insT x (curAt l f t m) := by
  unfold curAt
  rw [List.take_add_one, h]
  simp [List.foldl_append]
theorem curAt_len (l : List Pt) (f t : Int) : ∀ m, (curAt l f t m).length ≤ l.length + m := by
  intro m
  induction m with
  | zero => simp [curAt]
  | succ m ih =>
    cases h : [f, t][m]? with
    | none => unfold curAt at ih ⊢; rw [List.take_add_one, h]; simp at ih ⊢; omega
    | some x => rw [curAt_succ h]; have := insT_len x (curAt l f t m); omega
set_option maxHeartbeats 4000000 in
theorem times_c (A : Option Addr) (n c : Nat) (l : List Pt) (f t : Int) (w : World) (h : Sl w 0 Pt.enc 4 A n l) (hn : n ≤ 2147483640) : Calls Try.prog 30 #[.agg #[.slice A n c], I f, I t] w
    fun e w' => ∃ A' m c', e = .returned (.slice A' m c') ∧ Own w' w.heap.size 3 ie 1 A' m c' (timesOf l f t) ∧ Bel w w' := by
  have HL := Lib.hid h.len
  go_enter Try.func30, Try.ntmps30
  go_wp2
  refine wp_gen ?_; intro W0 hW0
  have B0 : Bel w W0 := by rw [hW0]; infer_instance
  have y0 : w.heap.size < W0.heap.size := by rw [hW0]; simp [go_sem]
  have HS := h.bel B0
  clear hW0
  go_loopw [7, 20] (fun v i wr => ∃ (k : Nat) (A' : Option Addr) (c' : Nat), k ≤ n ∧ i = .int .i64 k ∧ v = .slice A' k c' ∧ Own wr W0.heap.size 3 ie 1 A' k c' ((l.map Pt.t).take k) ∧ Bel W0 wr) (fun _ i _ => n - (intOf i).toNat)
  case atStart => exact ⟨0, _, _, by omega, rfl, rfl, Own.nil _ _ _ _ _ _, inferInstance⟩
  case round =>
    obtain ⟨k, A1, c1, hk, rfl, rfl, hown, hb0⟩ := hrel
    obtain ⟨hs0, hc0, hf0, hz0⟩ := std hb0
    have y1 := hz0 _ y0
    by_cases hlt : k < n
    case pos =>
      have HK := HS.bel hb0
      obtain ⟨b, o, rfl⟩ := HK.addr (by omega)
      obtain ⟨x, hx, hlb, d0, d1, d2, d3⟩ := Pts.cells HK hlt
      have V : Hid ((l.map Pt.t).take (k + 1) = (l.map Pt.t).take k ++ [x.t]) := Lib.hid (by rw [List.take_add_one]; simp [hx])
      clear hx
      go_wp2_with (at_builtin; refine wpList_app1 ei_ints (hown.bel inferInstance) x.t rfl (.tmp 24) (.tmp 27) rfl rfl rfl rfl (by simp) ie_len ie_one (by omega) ?_; intro A2 c2 w2 ho2 hF2 hG2 hat2; obtain ⟨hs2, hc2, hf2, hz2⟩ := hF2)
      go_roundw
      case rel => exact ⟨k + 1, _, _, by omega, by go_num, rfl, by rw [V.out]; exact ho2, inferInstance⟩
      case measure => simp [intOf]; omega
    obtain rfl : k = n := by omega
    go_wp2
    have hown0 := hown
    rw [show (l.map Pt.t).take k = l.map Pt.t from List.take_of_length_le (by rw [List.length_map, ← HL.out]; exact Nat.le_refl _)] at hown
    have hown := (hown.alloc (.cells #[.int .i64 f, .int .i64 t] 3)).mono (lo' := w.heap.size) B0.size
    have hlit := (Own.lit (enc := ie) (k := 1) wr #[.int .i64 f, .int .i64 t] 3 [f, t] rfl rfl (by simp)).sl ie_len
    generalize hg : wr.heap.size = g at *
    refine wp_gen ?_; intro W1 hW1
    have B1 : Bel w W1 := by rw [hW1]; infer_instance
    rw [← hW1] at hown hlit
    clear hW1
    have lw : LeN w.heap.size W1.heap.size := ⟨B1.size⟩
    clear hown0 HS hb0 hs0 hc0 hf0 hz0 y1 hk hlt
    go_loopw [7, 34] (fun v i wr => ∃ (m : Nat) (A' : Option Addr) (n' c' : Nat), m ≤ 2 ∧ i = .int .i64 m ∧ v = .slice A' n' c' ∧ Own wr w.heap.size 3 ie 1 A' n' c' (curAt l f t m) ∧ Bel W1 wr) (fun _ i _ => 2 - (intOf i).toNat)
    case atStart => exact ⟨0, _, _, _, by omega, rfl, rfl, hown, inferInstance⟩
    case round =>
      obtain ⟨m, A2, n2, c2, hm, rfl, rfl, ho, hb1⟩ := hrel
      obtain ⟨hs1, hc1, hf1, hz1⟩ := std hb1
      by_cases hlt : m < 2
      case neg =>
        obtain rfl : m = 2 := by omega
        go_wp2
        go_ret
        exact ⟨_, _, _, rfl, ho, inferInstance⟩
      obtain ⟨tt, htt, _, ct⟩ := Ints.cells (hlit.bel hb1) hlt
      simp only [Nat.zero_add] at ct
      have hl2 : n2 ≤ k + 2 := by have := curAt_len l f t m; have := ho.len; have := HL.out; omega
      have hltZ : decide ((m : Int) < 2) = true := by (simp; omega)
      have HL2 := Lib.hid ho.len
      have HC := Lib.hid (curAt_succ (l := l) htt)
      clear htt
      generalize curAt l f t m = cur at *
      have hcur := ho.sl ie_len
      go_wp2
      refine wp_gen ?_; intro W2 hW2
      have B2 : Bel wr W2 := by rw [hW2]; infer_instance
      have lw2 : LeN w.heap.size W2.heap.size := ⟨by have := B2.size; have := hb1.size; have := B1.size; omega⟩
      have hcur := hcur.bel B2
      obtain ⟨hs2, _, _, _⟩ := std B2
      clear hW2 ho
      go_loopw [12, 13, 41] (fun v d i wr2 => ∃ (j : Nat) (A' : Option Addr) (n' c' : Nat), j ≤ n2 ∧ i = .int .i64 j ∧ v = .slice A' n' c' ∧ d = .bool (insTo tt cur j).2 ∧ Own wr2 W2.heap.size 3 ie 1 A' n' c' (insTo tt cur j).1 ∧ Bel W2 wr2) (fun _ _ i _ => n2 - (intOf i).toNat)
      case atStart => exact ⟨0, _, _, _, by omega, rfl, rfl, rfl, Own.nil _ _ _ _ _ _, inferInstance⟩
      case round =>
        obtain ⟨j, A3, n3, c3, hj, rfl, rfl, rfl, ho, hb3⟩ := hrel
        obtain ⟨hs3, hc3, hf3, hz3⟩ := std hb3
        have hl3 := insTo_len tt cur j
        have ho3 := ho.len
        by_cases hlt3 : j < n2
        case pos =>
          have HK := hcur.bel hb3
          obtain ⟨b, o, rfl⟩ := HK.addr (by omega)
          obtain ⟨y, hy, hlb, dy⟩ := Ints.cells HK hlt3
          have V := Lib.hid (insTo_succ (t := tt) hy)
          clear hy
          cases hs : insTo tt cur j with
          | mk acc d =>
          rw [hs] at ho V hl3 ho3
          have hn3 : n3 + 2 ≤ 2147483648 := by simp at hl3 ho3; split at hl3 <;> omega
          clear hs hl3 ho3 hlit ct
          dsimp only at ho
          cases d <;> by_cases h1 : tt ≤ y <;> by_cases h2 : y = tt
          all_goals try (exfalso; omega)
          all_goals first | (have h3 : (y != tt) = true := by simp [h2]) | (have h3 : (y != tt) = false := by simp [h2])
          all_goals (have W := Lib.hid V.out; simp only [insStep, h1, h3, decide_true, decide_false, Bool.not_true, Bool.not_false, Bool.and_true, Bool.and_false, Bool.false_and, Bool.true_and, if_true, if_false, Bool.false_eq_true, ↓reduceIte] at W; clear V h2)
          all_goals go_wp2_with first | (at_builtin; refine wpList_app1 ei_ints (ho.bel inferInstance) tt rfl (.tmp 52) (.tmp 54) rfl rfl rfl rfl (by simp) ie_len ie_one (by omega) ?_; intro A4 c4 w4 ho4 hF4 hG4 hat4; obtain ⟨hs4, hc4, hf4, hz4⟩ := hF4) | (at_builtin; refine wpList_app1 ei_ints (ho4) y rfl (.tmp 59) (.tmp 61) rfl rfl rfl rfl (by simp) ie_len ie_one (by omega) ?_; intro A5 c5 w5 ho5 hF5 hG5 hat5; obtain ⟨hs5, hc5, hf5, hz5⟩ := hF5) | (at_builtin; refine wpList_app1 ei_ints (ho.bel inferInstance) y rfl (.tmp 59) (.tmp 61) rfl rfl rfl rfl (by simp) ie_len ie_one (by omega) ?_; intro A5 c5 w5 ho5 hF5 hG5 hat5; obtain ⟨hs5, hc5, hf5, hz5⟩ := hF5)
          all_goals
            go_roundw
            case rel => exact ⟨j + 1, _, _, _, by omega, by go_num, rfl, by rw [W.out], by rw [W.out]; assumption, inferInstance⟩
            case measure => simp [intOf]; omega
        obtain rfl : j = n2 := by omega
        have E : insTo tt cur j = insTo tt cur cur.length := by rw [← HL2.out]
        have HC2 : Hid (curAt l f t (m + 1) = if (insTo tt cur j).2 then (insTo tt cur j).1 else (insTo tt cur j).1 ++ [tt]) := Lib.hid (by rw [HC.out, E]; rfl)
        clear HC E
        cases hs : insTo tt cur j with
        | mk acc d =>
        rw [hs] at ho hl3 ho3 HC2
        have hn3 : n3 + 1 ≤ 2147483648 := by simp at hl3 ho3; split at hl3 <;> omega
        clear hs hl3 ho3 hlit ct
        dsimp only at ho
        cases d
        all_goals go_wp2_with (at_builtin; refine wpList_app1 ei_ints (ho.bel inferInstance) tt rfl (.tmp 66) (.tmp 68) rfl rfl rfl rfl (by simp) ie_len ie_one (by omega) ?_; intro A4 c4 w4 ho4 hF4 hG4 hat4; obtain ⟨hs4, hc4, hf4, hz4⟩ := hF4)
        all_goals
          go_roundw
          case rel => exact ⟨m + 1, _, _, _, by omega, by go_num, rfl, Own.mono (by have e := HC2.out; simp at e; rw [e]; assumption) lw2.out, inferInstance⟩
          case measure => simp [intOf]; omega
end Go.Proofs.Ytiheokjolaclnaa

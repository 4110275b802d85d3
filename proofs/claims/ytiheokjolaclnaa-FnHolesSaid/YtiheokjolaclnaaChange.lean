/- The reference's change of a profile; ProfNew, ProfTake. -/
import Derived.Test.YtiheokjolaclnaaTimes
namespace Go.Proofs.Ytiheokjolaclnaa
open Go.RowKit
theorem ei_pts : EI Try.prog 23 64 4 := ei_of (z := .agg #[I 0, I 0, I 0, I 0]) (b := 32) Try.underlying23 (by kernel_rfl) (by decide) rfl (by decide)
def byR (add : Bool) (v x : Vec) : Vec × Bool := if add then x.addR v else x.subR v
def pushPt (out : List Pt) (x : Int) (v : Vec) : List Pt := match out[out.length - 1]? with | none => out ++ [⟨x, v⟩] | some y => if y.f = v then out else out ++ [⟨x, v⟩]
def chStep (l : List Pt) (f t : Int) (op : Vec → Vec × Bool) (out : List Pt) (x : Int) : Option (List Pt) :=
  if f ≤ x ∧ x < t then (if (op (vfree l x)).2 then some (pushPt out x (op (vfree l x)).1) else none) else some (pushPt out x (vfree l x))
def chAll (l : List Pt) (f t : Int) (op : Vec → Vec × Bool) (ts : List Int) : Option (List Pt) := ts.foldlM (chStep l f t op) []
def changeOf (l : List Pt) (f t : Int) (op : Vec → Vec × Bool) (ts : List Int) : List Pt × Bool :=
  match chAll l f t op ts with | none => ([], false) | some out => if profOk out then (out, true) else ([], false)
def changeR (l : List Pt) (f t : Int) (op : Vec → Vec × Bool) : List Pt × Bool := changeOf l f t op (timesOf l f t)
theorem chAll_succ {l : List Pt} {f t : Int} {op : Vec → Vec × Bool} {ts : List Int} {k : Nat} {acc : List Pt} {x : Int} (h : chAll l f t op (ts.take k) = some acc) (hx : ts[k]? = some x) : chAll l f t op (ts.take (k + 1)) = chStep l f t op acc x := by
  unfold chAll at *
  rw [List.take_add_one, hx, List.foldlM_append, h]
  simp
theorem foldlM_none {α β : Type} {g : α → β → Option α} {ts : List β} {k : Nat} {a : α} (h : (ts.take k).foldlM g a = none) : ts.foldlM g a = none := by
  rw [← List.take_append_drop k ts, List.foldlM_append, h]; rfl
theorem pushPt_len (out : List Pt) (x : Int) (v : Vec) : (pushPt out x v).length ≤ out.length + 1 := by
  unfold pushPt; split
  · simp
  · split <;> simp
theorem timesOf_len (l : List Pt) (f t : Int) : (timesOf l f t).length ≤ l.length + 2 := by
  have h1 := insT_len t (insT f (l.map Pt.t))
  have h2 := insT_len f (l.map Pt.t)
  simp only [List.length_map] at h2
  unfold timesOf
  omega
set_option maxHeartbeats 8000000 in
theorem specChange_c (A : Option Addr) (n c : Nat) (l : List Pt) (f t : Int) (v : Vec) (add : Bool) (w : World) (h : Sl w 0 Pt.enc 4 A n l) (hn : n ≤ 2147483600) : Calls Try.prog 77 #[.agg #[.slice A n c], I f, I t, .agg #[I v.a, I v.b, I v.c], .bool add] w
    fun e w' => ∃ A' n' c', e = .returned (.tuple #[.agg #[.slice A' n' c'], .bool (changeR l f t (byR add v)).2]) ∧ Own w' w.heap.size 64 Pt.enc 4 A' n' c' (changeR l f t (byR add v)).1 ∧ Bel w w' := by
  have HL := Lib.hid h.len
  generalize hRR : changeR l f t (byR add v) = R
  have HRT : Hid (changeOf l f t (byR add v) (timesOf l f t) = R) := Lib.hid hRR
  clear hRR
  go_enter Try.func77, Try.ntmps77
  go_wp2_with (go_at_call 30; refine (times_c _ _ _ _ _ _ _ (h.bel inferInstance) (by omega)).mono ?_; rintro e w1 ⟨At, nt, ct, rfl, hot, hb1⟩; obtain ⟨hs1, hc1, hf1, hz1⟩ := std hb1; have hy1w0 := lt_bel (b := w.heap.size) hb1 (by first | assumption | (simp <;> omega)); have hy1w1 := lt_bel (b := w.heap.size + 1) hb1 (by first | assumption | (simp <;> omega)); have hy1w2 := lt_bel (b := w.heap.size + 1 + 1) hb1 (by first | assumption | (simp <;> omega)); have hy1w3 := lt_bel (b := w.heap.size + 1 + 1 + 1) hb1 (by first | assumption | (simp <;> omega)))
  have hst := hot.sl ie_len
  simp only [World.size_alloc] at hst
  have hbx : w1.cell? ⟨w.heap.size, 0, none⟩ = some (.slice A n c) := by rw [hc1 _ _ (by simp; omega)]; simp [go_sem]
  have hbv : VecAt w1 (w.heap.size + 1) v := by simp [VecAt, go_sem, *]
  have hbr : w1.cell? ⟨w.heap.size + 1 + 1, 0, none⟩ = some (.slice none 0 0) := by rw [hc1 _ _ (by simp)]; simp [go_sem]
  have hbrf : w1.frozen? ⟨w.heap.size + 1 + 1, 0, none⟩ = false := by rw [hf1 _ _ (by simp)]; simp [go_sem]
  have hbo : w1.cell? ⟨w.heap.size + 1 + 1 + 1, 0, none⟩ = some (.slice none 0 0) := by rw [hc1 _ _ (by simp)]; simp [go_sem]
  have hbof : w1.frozen? ⟨w.heap.size + 1 + 1 + 1, 0, none⟩ = false := by rw [hf1 _ _ (by simp)]; simp [go_sem]
  have B1 : Bel w w1 := inferInstance
  have htl := timesOf_len l f t
  generalize timesOf l f t = ts at *
  clear hc1 hf1 hz1 hs1 hb1 hot
  have Lt := Lib.hid hst.len
  have hnt : nt ≤ 2147483647 := by have := Lt.out; have := HL.out; omega
  have lw : LeN w.heap.size w1.heap.size := ⟨B1.size⟩
  generalize hop : byR add v = op at *
  have hop := Lib.hid hop
  obtain ⟨g, hg⟩ : ∃ g, g = w.heap.size + 1 + 1 + 1 := ⟨_, rfl⟩
  rw [← hg] at hbo hbof ⊢
  have hg1 : w.heap.size ≠ g := by omega
  have hg2 : w.heap.size + 1 ≠ g := by omega
  have hg3 : w.heap.size + 1 + 1 ≠ g := by omega
  have hg4 : g < w.heap.size + 1 + 1 + 1 + 1 := by omega
  have hg5 : g < w1.heap.size := by omega
  have lg : LeN w.heap.size g := ⟨by omega⟩
  clear hg
  go_loopw [24] (fun i wr => ∃ (k : Nat) (acc : List Pt) (A' : Option Addr) (n' c' : Nat), k ≤ nt ∧ i = .int .i64 k ∧ chAll l f t op (ts.take k) = some acc ∧ acc.length ≤ k ∧ wr.cell? ⟨g, 0, none⟩ = some (.slice A' n' c') ∧ wr.frozen? ⟨g, 0, none⟩ = false ∧ Own wr w1.heap.size 64 Pt.enc 4 A' n' c' acc ∧ Ox g w1 wr) (fun i _ => nt - (intOf i).toNat)
  case atStart => exact ⟨0, [], _, _, _, by omega, rfl, rfl, by simp, hbo, hbof, Own.nil _ _ _ _ _ _, inferInstance⟩
  case round =>
    obtain ⟨k, acc, A1, n1, c1, hk, rfl, hacc, hal, bo, bof, hown, hox⟩ := hrel
    have hs1 : Oe g w1 wr := ⟨hox.out⟩
    have bx := hox.cell_some hbx hg1
    have bv := hbv.ox hox hg2
    have br := hox.cell_some hbr hg3
    have brf := hox.frozen hy1w2 hbrf hg3
    have gl := lt_ox hox hg5
    have y0 := lt_ox hox hy1w0
    have y1 := lt_ox hox hy1w1
    have y2 := lt_ox hox hy1w2
    have bT := hst.ox hox hg4
    have HACC := Lib.hid hacc
    have hlen := hown.len
    have hn1 : n1 + 1 ≤ 2147483648 := by have := Lt.out; have := HL.out; omega
    clear hacc hbx hbv hbr hbrf hbo hbof
    by_cases hlt : k < nt
    case neg =>
      obtain rfl : k = nt := by omega
      have e : ts.take k = ts := List.take_of_length_le (by rw [Lt.out]; exact Nat.le_refl _)
      have HR : Hid (changeOf l f t op ts = if profOk acc then (acc, true) else ([], false)) := Lib.hid (by have := HACC.out; rw [e] at this; unfold changeOf; rw [this])
      clear hlen e HACC
      have hsl := hown.sl Pt.enc_len
      rcases ways1 (profOk acc) with g1 | g1
      all_goals go_wp2_with (go_at_call 9; refine (specProfOk_c _ _ _ _ _ ((hsl.mono (Nat.zero_le _)).bel inferInstance) (by omega)).mono ?_; rintro e w2 ⟨rfl, hb2⟩; obtain ⟨hs2, hc2, hf2, hz2⟩ := std hb2)
      · obtain rfl : R = ([], false) := HRT.out.symm.trans (by rw [HR.out, g1]; rfl)
        (refine bodyPost_ret (v := .tuple #[.agg #[.slice none 0 0], .bool false]) ?_ rfl ?_; focus (simp [results, Try.results77, go_sem, *]; done))
        exact ⟨none, 0, 0, rfl, Own.nil _ _ _ _ _ _, inferInstance⟩
      · obtain rfl : R = (acc, true) := HRT.out.symm.trans (by rw [HR.out, g1]; rfl)
        (refine bodyPost_ret (v := .tuple #[.agg #[.slice A1 n1 c1], .bool true]) ?_ rfl ?_; focus (simp [results, Try.results77, go_sem, *]; done))
        exact ⟨A1, n1, c1, rfl, (hown.ox (g := w.heap.size + 1 + 1) inferInstance hy1w2).mono lw.out, inferInstance⟩
    obtain ⟨b, o, rfl⟩ := bT.addr (by omega)
    obtain ⟨x, hx, hlb, dx⟩ := Ints.cells bT hlt
    have HS := Lib.hid (chAll_succ HACC.out hx)
    have FAIL : Hid (chStep l f t op acc x = none → changeOf l f t op ts = ([], false)) := Lib.hid (fun h0 => by
      have h1 : chAll l f t op (ts.take (k + 1)) = none := (HS.out).trans h0
      have h2 : chAll l f t op ts = none := foldlM_none h1
      unfold changeOf; rw [h2])
    clear hx HACC
    have hE : n1 = 0 ∨ ∃ m y, n1 = m + 1 ∧ acc[m]? = some y ∧ A1 = A1 := by
      rcases Nat.eq_zero_or_pos n1 with h0 | h0
      · exact .inl h0
      · exact .inr ⟨n1 - 1, acc[n1 - 1]'(by omega), by omega, List.getElem?_eq_getElem _, rfl⟩
    have hAt := (specAt_c A n c l x)
    have hin : ¬ (f ≤ x ∧ x < t) ∨ (f ≤ x ∧ x < t) := by omega
    rcases hin with hin | hin
    · have ST : Hid (chStep l f t op acc x = some (pushPt acc x (vfree l x))) := Lib.hid (by unfold chStep; rw [if_neg hin])
      generalize hv1 : vfree l x = v1 at *
      clear hv1 FAIL
      have hin : x < f ∨ (f ≤ x ∧ t ≤ x) := by omega
      rcases hE with rfl | ⟨m, y, rfl, hy, -⟩
      · have PU : Hid (pushPt acc x v1 = acc ++ [⟨x, v1⟩]) := Lib.hid (by have : acc = [] := List.eq_nil_of_length_eq_zero hlen.symm; subst this; rfl)
        clear hlen
        rcases hin with hA | ⟨hA, hB⟩
        all_goals go_wp2_with (go_at_call 32; refine (hAt _ (h.bel inferInstance) (by omega)).mono ?_; rintro e w2 ⟨rfl, hb2⟩; obtain ⟨hs2, hc2, hf2, hz2⟩ := std hb2; have hy2w0 := lt_bel (b := w.heap.size) hb2 (by first | assumption | (simp <;> omega)); have hy2w1 := lt_bel (b := w.heap.size + 1) hb2 (by first | assumption | (simp <;> omega)); have hy2w2 := lt_bel (b := w.heap.size + 1 + 1) hb2 (by first | assumption | (simp <;> omega)); have hy2g := lt_bel (b := g) hb2 (by first | assumption | (simp <;> omega)))
        all_goals (refine wp_region_bel (by kernel_rfl) (by kernel_rfl) (fun hx => ?_); (repeat (any_goals (first | go_big_quiet_step ((fail)) | quiet_step ((fail)) | (refine wpQuiet_step (fun K hK => ?_); go_simp; split <;> (refine hK _ ?_; clear hK K))))); all_goals (refine wpQuiet_nil ?_; rintro _ ⟨⟨w2, hb2⟩, rfl⟩; (try dsimp only)))
        all_goals obtain ⟨hs2, hc2, hf2, hz2⟩ := std hb2; have hy2w0 := lt_bel (b := w.heap.size) hb2 (by first | assumption | (simp <;> omega)); have hy2w1 := lt_bel (b := w.heap.size + 1) hb2 (by first | assumption | (simp <;> omega)); have hy2w2 := lt_bel (b := w.heap.size + 1 + 1) hb2 (by first | assumption | (simp <;> omega)); have hy2g := lt_bel (b := g) hb2 (by first | assumption | (simp <;> omega))
        all_goals go_wp2_with (at_builtin; refine wpList_app1 ei_pts (hown.bel inferInstance) (⟨x, v1⟩ : Pt) rfl (.tmp 72) (.tmp 76) rfl rfl rfl rfl (by simp) Pt.enc_len Pt.enc_one (by omega) ?_; intro A3 c3 w3 ho3 hF3 hG3 hat3; obtain ⟨hs3, hc3, hf3, hz3⟩ := hF3)
        all_goals
          go_roundw
          case rel => exact ⟨k + 1, acc ++ [⟨x, v1⟩], A3, 0 + 1, c3, by omega, by go_num, by rw [HS.out, ST.out, PU.out], by simp; omega, World.cell?_setCell_same _ _ _ (by rw [hc3 _ _ hg5]; exact Bl.cell_some (a := wr) inferInstance bo), by simp [go_sem, *], ho3.ox (g := g) inferInstance hg5, inferInstance⟩
          case measure => simp [intOf]; omega
      · have PUy : Hid (pushPt acc x v1 = if y.f = v1 then acc else acc ++ [⟨x, v1⟩]) := Lib.hid (by unfold pushPt; rw [← hlen, Nat.add_sub_cancel, hy])
        obtain ⟨b2, o2, rfl⟩ := (hown.sl Pt.enc_len).addr (by omega)
        obtain ⟨y', hy', hlb2, e0, e1, e2, e3⟩ := Pts.cells (hown.sl Pt.enc_len) (show m < m + 1 by omega)
        obtain rfl : y' = y := Option.some.inj (hy'.symm.trans hy)
        have hm0 : (0 : Int) ≤ (m : Int) := by omega
        have hm1 : (m : Int) < (m : Int) + 1 := by omega
        have hwm : IntKind.i64.wrap (m : Int) = (m : Int) := IntWalk.i64_in _ (by omega)
        clear hlen hy hy'
        rcases ways1 (decide (y'.f = v1)) with gy | gy
        · have PU : Hid (pushPt acc x v1 = acc ++ [⟨x, v1⟩]) := Lib.hid (by rw [PUy.out, if_neg (of_decide_eq_false gy)])
          rcases hin with hA | ⟨hA, hB⟩
          all_goals go_wp2_with (go_at_call 32; refine (hAt _ (h.bel inferInstance) (by omega)).mono ?_; rintro e w2 ⟨rfl, hb2⟩; obtain ⟨hs2, hc2, hf2, hz2⟩ := std hb2; have hy2w0 := lt_bel (b := w.heap.size) hb2 (by first | assumption | (simp <;> omega)); have hy2w1 := lt_bel (b := w.heap.size + 1) hb2 (by first | assumption | (simp <;> omega)); have hy2w2 := lt_bel (b := w.heap.size + 1 + 1) hb2 (by first | assumption | (simp <;> omega)); have hy2g := lt_bel (b := g) hb2 (by first | assumption | (simp <;> omega)); have hy2b2 := lt_bel (b := b2) hb2 (by first | assumption | (simp <;> omega)))
          all_goals (refine wp_region_bel (by kernel_rfl) (by kernel_rfl) (fun hx => ?_); (repeat (any_goals (first | go_big_quiet_step ((fail)) | quiet_step ((fail)) | (refine wpQuiet_step (fun K hK => ?_); go_simp; split <;> (refine hK _ ?_; clear hK K))))); all_goals (refine wpQuiet_nil ?_; rintro _ ⟨⟨w2, hb2⟩, rfl⟩; (try dsimp only)))
          all_goals obtain ⟨hs2, hc2, hf2, hz2⟩ := std hb2; have hy2w0 := lt_bel (b := w.heap.size) hb2 (by first | assumption | (simp <;> omega)); have hy2w1 := lt_bel (b := w.heap.size + 1) hb2 (by first | assumption | (simp <;> omega)); have hy2w2 := lt_bel (b := w.heap.size + 1 + 1) hb2 (by first | assumption | (simp <;> omega)); have hy2g := lt_bel (b := g) hb2 (by first | assumption | (simp <;> omega))
          all_goals go_wp2_with (at_builtin; refine wpList_app1 ei_pts (hown.bel inferInstance) (⟨x, v1⟩ : Pt) rfl (.tmp 72) (.tmp 76) rfl rfl rfl rfl (by simp) Pt.enc_len Pt.enc_one (by omega) ?_; intro A3 c3 w3 ho3 hF3 hG3 hat3; obtain ⟨hs3, hc3, hf3, hz3⟩ := hF3)
          all_goals
            go_roundw
            case rel => exact ⟨k + 1, acc ++ [⟨x, v1⟩], A3, m + 1 + 1, c3, by omega, by go_num, by rw [HS.out, ST.out, PU.out], by simp; omega, World.cell?_setCell_same _ _ _ (by rw [hc3 _ _ hg5]; exact Bl.cell_some (a := wr) inferInstance bo), by simp [go_sem, *], ho3.ox (g := g) inferInstance hg5, inferInstance⟩
            case measure => simp [intOf]; omega
        · have PU : Hid (pushPt acc x v1 = acc) := Lib.hid (by rw [PUy.out, if_pos (of_decide_eq_true gy)])
          rcases hin with hA | ⟨hA, hB⟩
          all_goals go_wp2_with (go_at_call 32; refine (hAt _ (h.bel inferInstance) (by omega)).mono ?_; rintro e w2 ⟨rfl, hb2⟩; obtain ⟨hs2, hc2, hf2, hz2⟩ := std hb2; have hy2w0 := lt_bel (b := w.heap.size) hb2 (by first | assumption | (simp <;> omega)); have hy2w1 := lt_bel (b := w.heap.size + 1) hb2 (by first | assumption | (simp <;> omega)); have hy2w2 := lt_bel (b := w.heap.size + 1 + 1) hb2 (by first | assumption | (simp <;> omega)); have hy2g := lt_bel (b := g) hb2 (by first | assumption | (simp <;> omega)); have hy2b2 := lt_bel (b := b2) hb2 (by first | assumption | (simp <;> omega)))
          all_goals (refine wp_region_bel (by kernel_rfl) (by kernel_rfl) (fun hx => ?_); (repeat (any_goals (first | go_big_quiet_step ((fail)) | quiet_step ((fail)) | (refine wpQuiet_step (fun K hK => ?_); go_simp; split <;> (refine hK _ ?_; clear hK K))))); all_goals (refine wpQuiet_nil ?_; rintro _ ⟨⟨w2, hb2⟩, rfl⟩; (try dsimp only)))
          all_goals obtain ⟨hs2, hc2, hf2, hz2⟩ := std hb2; have hy2w0 := lt_bel (b := w.heap.size) hb2 (by first | assumption | (simp <;> omega)); have hy2w1 := lt_bel (b := w.heap.size + 1) hb2 (by first | assumption | (simp <;> omega)); have hy2w2 := lt_bel (b := w.heap.size + 1 + 1) hb2 (by first | assumption | (simp <;> omega)); have hy2g := lt_bel (b := g) hb2 (by first | assumption | (simp <;> omega))
          all_goals go_wp2
          all_goals
            go_roundw
            case rel => exact ⟨k + 1, acc, _, m + 1, _, by omega, by go_num, by rw [HS.out, ST.out, PU.out], by omega, Bl.cell_some (a := wr) inferInstance bo, by simp [go_sem, *], hown.bel inferInstance, inferInstance⟩
            case measure => simp [intOf]; omega
    · obtain ⟨hA, hB⟩ := hin
      have ST0 : Hid (chStep l f t op acc x = if (op (vfree l x)).2 then some (pushPt acc x (op (vfree l x)).1) else none) := Lib.hid (by unfold chStep; rw [if_pos ⟨hA, hB⟩])
      generalize hv0 : vfree l x = v0 at *
      clear hv0
      cases add
      · have HO : Hid (op v0 = v0.subR v) := Lib.hid (by rw [← hop.out]; rfl)
        rcases hr : v0.subR v with ⟨v1, _ | _⟩
        · obtain rfl : R = ([], false) := HRT.out.symm.trans (FAIL.out (by rw [ST0.out, HO.out, hr]; rfl))
          clear hE hlen FAIL HS HRT
          obtain ⟨bv0, bv1, bv2, bvf, bvl⟩ := bv
          have bv : VecAt wr (w.heap.size + 1) v := ⟨bv0, bv1, bv2, bvf, bvl⟩
          go_wp2_with (first | (go_at_call 32; refine (hAt _ (h.bel inferInstance) (by omega)).mono ?_; rintro e w2 ⟨rfl, hb2⟩; obtain ⟨hs2, hc2, hf2, hz2⟩ := std hb2; have hy2w0 := lt_bel (b := w.heap.size) hb2 (by first | assumption | (simp <;> omega)); have hy2w1 := lt_bel (b := w.heap.size + 1) hb2 (by first | assumption | (simp <;> omega)); have hy2w2 := lt_bel (b := w.heap.size + 1 + 1) hb2 (by first | assumption | (simp <;> omega)); have hy2g := lt_bel (b := g) hb2 (by first | assumption | (simp <;> omega))) | (go_at_call 79; refine (specVecSub_c ⟨_, _, _⟩ ⟨_, _, _⟩ _).mono ?_; rintro e w4 ⟨rfl, hb4⟩; obtain ⟨hs4, hc4, hf4, hz4⟩ := std hb4; have hy4w0 := lt_bel (b := w.heap.size) hb4 (by first | assumption | (simp <;> omega)); have hy4w1 := lt_bel (b := w.heap.size + 1) hb4 (by first | assumption | (simp <;> omega)); have hy4w2 := lt_bel (b := w.heap.size + 1 + 1) hb4 (by first | assumption | (simp <;> omega)); have hy4w20 := lt_bel (b := w2.heap.size) hb4 (by first | assumption | (simp <;> omega)); have hy4g := lt_bel (b := g) hb4 (by first | assumption | (simp <;> omega)); have bv4 := VecAt.bel bv (inferInstance : Bel wr w4)))
          (refine bodyPost_ret (v := .tuple #[.agg #[.slice none 0 0], .bool false]) ?_ rfl ?_; focus (simp [results, Try.results77, go_sem, *]; done))
          exact ⟨none, 0, 0, rfl, Own.nil _ _ _ _ _ _, inferInstance⟩
        · have ST : Hid (chStep l f t op acc x = some (pushPt acc x v1)) := Lib.hid (by rw [ST0.out, HO.out, hr]; rfl)
          clear FAIL ST0 HO
          obtain ⟨bv0, bv1, bv2, bvf, bvl⟩ := bv
          rcases hE with rfl | ⟨m, y, rfl, hy, -⟩
          · have PU : Hid (pushPt acc x v1 = acc ++ [⟨x, v1⟩]) := Lib.hid (by have : acc = [] := List.eq_nil_of_length_eq_zero hlen.symm; subst this; rfl)
            clear hlen
            go_wp2_with (first | (go_at_call 32; refine (hAt _ (h.bel inferInstance) (by omega)).mono ?_; rintro e w2 ⟨rfl, hb2⟩; obtain ⟨hs2, hc2, hf2, hz2⟩ := std hb2; have hy2w0 := lt_bel (b := w.heap.size) hb2 (by first | assumption | (simp <;> omega)); have hy2w1 := lt_bel (b := w.heap.size + 1) hb2 (by first | assumption | (simp <;> omega)); have hy2w2 := lt_bel (b := w.heap.size + 1 + 1) hb2 (by first | assumption | (simp <;> omega)); have hy2g := lt_bel (b := g) hb2 (by first | assumption | (simp <;> omega))) | (go_at_call 79; refine (specVecSub_c ⟨_, _, _⟩ ⟨_, _, _⟩ _).mono ?_; rintro e w4 ⟨rfl, hb4⟩; obtain ⟨hs4, hc4, hf4, hz4⟩ := std hb4; have hy4w0 := lt_bel (b := w.heap.size) hb4 (by first | assumption | (simp <;> omega)); have hy4w1 := lt_bel (b := w.heap.size + 1) hb4 (by first | assumption | (simp <;> omega)); have hy4w2 := lt_bel (b := w.heap.size + 1 + 1) hb4 (by first | assumption | (simp <;> omega)); have hy4w20 := lt_bel (b := w2.heap.size) hb4 (by first | assumption | (simp <;> omega)); have hy4g := lt_bel (b := g) hb4 (by first | assumption | (simp <;> omega))))
            all_goals (refine wp_region_bel (by kernel_rfl) (by kernel_rfl) (fun hx => ?_); (repeat (any_goals (first | go_big_quiet_step ((fail)) | quiet_step ((fail)) | (refine wpQuiet_step (fun K hK => ?_); go_simp; split <;> (refine hK _ ?_; clear hK K))))); all_goals (refine wpQuiet_nil ?_; rintro _ ⟨⟨w2, hb2⟩, rfl⟩; (try dsimp only)))
            all_goals obtain ⟨hs2, hc2, hf2, hz2⟩ := std hb2; have hy2w0 := lt_bel (b := w.heap.size) hb2 (by first | assumption | (simp <;> omega)); have hy2w1 := lt_bel (b := w.heap.size + 1) hb2 (by first | assumption | (simp <;> omega)); have hy2w2 := lt_bel (b := w.heap.size + 1 + 1) hb2 (by first | assumption | (simp <;> omega)); have hy2g := lt_bel (b := g) hb2 (by first | assumption | (simp <;> omega))
            all_goals go_wp2_with (at_builtin; refine wpList_app1 ei_pts (hown.bel inferInstance) (⟨x, v1⟩ : Pt) rfl (.tmp 72) (.tmp 76) rfl rfl rfl rfl (by simp) Pt.enc_len Pt.enc_one (by omega) ?_; intro A3 c3 w3 ho3 hF3 hG3 hat3; obtain ⟨hs3, hc3, hf3, hz3⟩ := hF3)
            all_goals
              go_roundw
              case rel => exact ⟨k + 1, acc ++ [⟨x, v1⟩], A3, 0 + 1, c3, by omega, by go_num, by rw [HS.out, ST.out, PU.out], by simp; omega, World.cell?_setCell_same _ _ _ (by rw [hc3 _ _ hg5]; exact Bl.cell_some (a := wr) inferInstance bo), by simp [go_sem, *], ho3.ox (g := g) inferInstance hg5, inferInstance⟩
              case measure => simp [intOf]; omega
          · have PUy : Hid (pushPt acc x v1 = if y.f = v1 then acc else acc ++ [⟨x, v1⟩]) := Lib.hid (by unfold pushPt; rw [← hlen, Nat.add_sub_cancel, hy])
            obtain ⟨b2, o2, rfl⟩ := (hown.sl Pt.enc_len).addr (by omega)
            obtain ⟨y', hy', hlb2, e0, e1, e2, e3⟩ := Pts.cells (hown.sl Pt.enc_len) (show m < m + 1 by omega)
            obtain rfl : y' = y := Option.some.inj (hy'.symm.trans hy)
            have hm0 : (0 : Int) ≤ (m : Int) := by omega
            have hm1 : (m : Int) < (m : Int) + 1 := by omega
            have hwm : IntKind.i64.wrap (m : Int) = (m : Int) := IntWalk.i64_in _ (by omega)
            clear hlen hy hy'
            rcases ways1 (decide (y'.f = v1)) with gy | gy
            · have PU : Hid (pushPt acc x v1 = acc ++ [⟨x, v1⟩]) := Lib.hid (by rw [PUy.out, if_neg (of_decide_eq_false gy)])
              go_wp2_with (first | (go_at_call 32; refine (hAt _ (h.bel inferInstance) (by omega)).mono ?_; rintro e w2 ⟨rfl, hb2⟩; obtain ⟨hs2, hc2, hf2, hz2⟩ := std hb2; have hy2w0 := lt_bel (b := w.heap.size) hb2 (by first | assumption | (simp <;> omega)); have hy2w1 := lt_bel (b := w.heap.size + 1) hb2 (by first | assumption | (simp <;> omega)); have hy2w2 := lt_bel (b := w.heap.size + 1 + 1) hb2 (by first | assumption | (simp <;> omega)); have hy2g := lt_bel (b := g) hb2 (by first | assumption | (simp <;> omega)); have hy2b2 := lt_bel (b := b2) hb2 (by first | assumption | (simp <;> omega))) | (go_at_call 79; refine (specVecSub_c ⟨_, _, _⟩ ⟨_, _, _⟩ _).mono ?_; rintro e w4 ⟨rfl, hb4⟩; obtain ⟨hs4, hc4, hf4, hz4⟩ := std hb4; have hy4w0 := lt_bel (b := w.heap.size) hb4 (by first | assumption | (simp <;> omega)); have hy4w1 := lt_bel (b := w.heap.size + 1) hb4 (by first | assumption | (simp <;> omega)); have hy4w2 := lt_bel (b := w.heap.size + 1 + 1) hb4 (by first | assumption | (simp <;> omega)); have hy4w20 := lt_bel (b := w2.heap.size) hb4 (by first | assumption | (simp <;> omega)); have hy4g := lt_bel (b := g) hb4 (by first | assumption | (simp <;> omega)); have hy4b2 := lt_bel (b := b2) hb4 (by first | assumption | (simp <;> omega))))
              all_goals (refine wp_region_bel (by kernel_rfl) (by kernel_rfl) (fun hx => ?_); (repeat (any_goals (first | go_big_quiet_step ((fail)) | quiet_step ((fail)) | (refine wpQuiet_step (fun K hK => ?_); go_simp; split <;> (refine hK _ ?_; clear hK K))))); all_goals (refine wpQuiet_nil ?_; rintro _ ⟨⟨w2, hb2⟩, rfl⟩; (try dsimp only)))
              all_goals obtain ⟨hs2, hc2, hf2, hz2⟩ := std hb2; have hy2w0 := lt_bel (b := w.heap.size) hb2 (by first | assumption | (simp <;> omega)); have hy2w1 := lt_bel (b := w.heap.size + 1) hb2 (by first | assumption | (simp <;> omega)); have hy2w2 := lt_bel (b := w.heap.size + 1 + 1) hb2 (by first | assumption | (simp <;> omega)); have hy2g := lt_bel (b := g) hb2 (by first | assumption | (simp <;> omega))
              all_goals go_wp2_with (at_builtin; refine wpList_app1 ei_pts (hown.bel inferInstance) (⟨x, v1⟩ : Pt) rfl (.tmp 72) (.tmp 76) rfl rfl rfl rfl (by simp) Pt.enc_len Pt.enc_one (by omega) ?_; intro A3 c3 w3 ho3 hF3 hG3 hat3; obtain ⟨hs3, hc3, hf3, hz3⟩ := hF3)
              all_goals
                go_roundw
                case rel => exact ⟨k + 1, acc ++ [⟨x, v1⟩], A3, m + 1 + 1, c3, by omega, by go_num, by rw [HS.out, ST.out, PU.out], by simp; omega, World.cell?_setCell_same _ _ _ (by rw [hc3 _ _ hg5]; exact Bl.cell_some (a := wr) inferInstance bo), by simp [go_sem, *], ho3.ox (g := g) inferInstance hg5, inferInstance⟩
                case measure => simp [intOf]; omega
            · have PU : Hid (pushPt acc x v1 = acc) := Lib.hid (by rw [PUy.out, if_pos (of_decide_eq_true gy)])
              go_wp2_with (first | (go_at_call 32; refine (hAt _ (h.bel inferInstance) (by omega)).mono ?_; rintro e w2 ⟨rfl, hb2⟩; obtain ⟨hs2, hc2, hf2, hz2⟩ := std hb2; have hy2w0 := lt_bel (b := w.heap.size) hb2 (by first | assumption | (simp <;> omega)); have hy2w1 := lt_bel (b := w.heap.size + 1) hb2 (by first | assumption | (simp <;> omega)); have hy2w2 := lt_bel (b := w.heap.size + 1 + 1) hb2 (by first | assumption | (simp <;> omega)); have hy2g := lt_bel (b := g) hb2 (by first | assumption | (simp <;> omega)); have hy2b2 := lt_bel (b := b2) hb2 (by first | assumption | (simp <;> omega))) | (go_at_call 79; refine (specVecSub_c ⟨_, _, _⟩ ⟨_, _, _⟩ _).mono ?_; rintro e w4 ⟨rfl, hb4⟩; obtain ⟨hs4, hc4, hf4, hz4⟩ := std hb4; have hy4w0 := lt_bel (b := w.heap.size) hb4 (by first | assumption | (simp <;> omega)); have hy4w1 := lt_bel (b := w.heap.size + 1) hb4 (by first | assumption | (simp <;> omega)); have hy4w2 := lt_bel (b := w.heap.size + 1 + 1) hb4 (by first | assumption | (simp <;> omega)); have hy4w20 := lt_bel (b := w2.heap.size) hb4 (by first | assumption | (simp <;> omega)); have hy4g := lt_bel (b := g) hb4 (by first | assumption | (simp <;> omega)); have hy4b2 := lt_bel (b := b2) hb4 (by first | assumption | (simp <;> omega))))
              all_goals (refine wp_region_bel (by kernel_rfl) (by kernel_rfl) (fun hx => ?_); (repeat (any_goals (first | go_big_quiet_step ((fail)) | quiet_step ((fail)) | (refine wpQuiet_step (fun K hK => ?_); go_simp; split <;> (refine hK _ ?_; clear hK K))))); all_goals (refine wpQuiet_nil ?_; rintro _ ⟨⟨w2, hb2⟩, rfl⟩; (try dsimp only)))
              all_goals obtain ⟨hs2, hc2, hf2, hz2⟩ := std hb2; have hy2w0 := lt_bel (b := w.heap.size) hb2 (by first | assumption | (simp <;> omega)); have hy2w1 := lt_bel (b := w.heap.size + 1) hb2 (by first | assumption | (simp <;> omega)); have hy2w2 := lt_bel (b := w.heap.size + 1 + 1) hb2 (by first | assumption | (simp <;> omega)); have hy2g := lt_bel (b := g) hb2 (by first | assumption | (simp <;> omega))
              all_goals go_wp2
              all_goals
                go_roundw
                case rel => exact ⟨k + 1, acc, _, m + 1, _, by omega, by go_num, by rw [HS.out, ST.out, PU.out], by omega, Bl.cell_some (a := wr) inferInstance bo, by simp [go_sem, *], hown.bel inferInstance, inferInstance⟩
                case measure => simp [intOf]; omega
      · have HO : Hid (op v0 = v0.addR v) := Lib.hid (by rw [← hop.out]; rfl)
        rcases hr : v0.addR v with ⟨v1, _ | _⟩
        · obtain rfl : R = ([], false) := HRT.out.symm.trans (FAIL.out (by rw [ST0.out, HO.out, hr]; rfl))
          clear hE hlen FAIL HS HRT
          obtain ⟨bv0, bv1, bv2, bvf, bvl⟩ := bv
          have bv : VecAt wr (w.heap.size + 1) v := ⟨bv0, bv1, bv2, bvf, bvl⟩
          go_wp2_with (first | (go_at_call 32; refine (hAt _ (h.bel inferInstance) (by omega)).mono ?_; rintro e w2 ⟨rfl, hb2⟩; obtain ⟨hs2, hc2, hf2, hz2⟩ := std hb2; have hy2w0 := lt_bel (b := w.heap.size) hb2 (by first | assumption | (simp <;> omega)); have hy2w1 := lt_bel (b := w.heap.size + 1) hb2 (by first | assumption | (simp <;> omega)); have hy2w2 := lt_bel (b := w.heap.size + 1 + 1) hb2 (by first | assumption | (simp <;> omega)); have hy2g := lt_bel (b := g) hb2 (by first | assumption | (simp <;> omega))) | (go_at_call 78; refine (specVecAdd_c ⟨_, _, _⟩ ⟨_, _, _⟩ _).mono ?_; rintro e w4 ⟨rfl, hb4⟩; obtain ⟨hs4, hc4, hf4, hz4⟩ := std hb4; have hy4w0 := lt_bel (b := w.heap.size) hb4 (by first | assumption | (simp <;> omega)); have hy4w1 := lt_bel (b := w.heap.size + 1) hb4 (by first | assumption | (simp <;> omega)); have hy4w2 := lt_bel (b := w.heap.size + 1 + 1) hb4 (by first | assumption | (simp <;> omega)); have hy4w20 := lt_bel (b := w2.heap.size) hb4 (by first | assumption | (simp <;> omega)); have hy4g := lt_bel (b := g) hb4 (by first | assumption | (simp <;> omega)); have bv4 := VecAt.bel bv (inferInstance : Bel wr w4)))
          (refine bodyPost_ret (v := .tuple #[.agg #[.slice none 0 0], .bool false]) ?_ rfl ?_; focus (simp [results, Try.results77, go_sem, *]; done))
          exact ⟨none, 0, 0, rfl, Own.nil _ _ _ _ _ _, inferInstance⟩
        · have ST : Hid (chStep l f t op acc x = some (pushPt acc x v1)) := Lib.hid (by rw [ST0.out, HO.out, hr]; rfl)
          clear FAIL ST0 HO
          obtain ⟨bv0, bv1, bv2, bvf, bvl⟩ := bv
          rcases hE with rfl | ⟨m, y, rfl, hy, -⟩
          · have PU : Hid (pushPt acc x v1 = acc ++ [⟨x, v1⟩]) := Lib.hid (by have : acc = [] := List.eq_nil_of_length_eq_zero hlen.symm; subst this; rfl)
            clear hlen
            go_wp2_with (first | (go_at_call 32; refine (hAt _ (h.bel inferInstance) (by omega)).mono ?_; rintro e w2 ⟨rfl, hb2⟩; obtain ⟨hs2, hc2, hf2, hz2⟩ := std hb2; have hy2w0 := lt_bel (b := w.heap.size) hb2 (by first | assumption | (simp <;> omega)); have hy2w1 := lt_bel (b := w.heap.size + 1) hb2 (by first | assumption | (simp <;> omega)); have hy2w2 := lt_bel (b := w.heap.size + 1 + 1) hb2 (by first | assumption | (simp <;> omega)); have hy2g := lt_bel (b := g) hb2 (by first | assumption | (simp <;> omega))) | (go_at_call 78; refine (specVecAdd_c ⟨_, _, _⟩ ⟨_, _, _⟩ _).mono ?_; rintro e w4 ⟨rfl, hb4⟩; obtain ⟨hs4, hc4, hf4, hz4⟩ := std hb4; have hy4w0 := lt_bel (b := w.heap.size) hb4 (by first | assumption | (simp <;> omega)); have hy4w1 := lt_bel (b := w.heap.size + 1) hb4 (by first | assumption | (simp <;> omega)); have hy4w2 := lt_bel (b := w.heap.size + 1 + 1) hb4 (by first | assumption | (simp <;> omega)); have hy4w20 := lt_bel (b := w2.heap.size) hb4 (by first | assumption | (simp <;> omega)); have hy4g := lt_bel (b := g) hb4 (by first | assumption | (simp <;> omega))))
            all_goals (refine wp_region_bel (by kernel_rfl) (by kernel_rfl) (fun hx => ?_); (repeat (any_goals (first | go_big_quiet_step ((fail)) | quiet_step ((fail)) | (refine wpQuiet_step (fun K hK => ?_); go_simp; split <;> (refine hK _ ?_; clear hK K))))); all_goals (refine wpQuiet_nil ?_; rintro _ ⟨⟨w2, hb2⟩, rfl⟩; (try dsimp only)))
            all_goals obtain ⟨hs2, hc2, hf2, hz2⟩ := std hb2; have hy2w0 := lt_bel (b := w.heap.size) hb2 (by first | assumption | (simp <;> omega)); have hy2w1 := lt_bel (b := w.heap.size + 1) hb2 (by first | assumption | (simp <;> omega)); have hy2w2 := lt_bel (b := w.heap.size + 1 + 1) hb2 (by first | assumption | (simp <;> omega)); have hy2g := lt_bel (b := g) hb2 (by first | assumption | (simp <;> omega))
            all_goals go_wp2_with (at_builtin; refine wpList_app1 ei_pts (hown.bel inferInstance) (⟨x, v1⟩ : Pt) rfl (.tmp 72) (.tmp 76) rfl rfl rfl rfl (by simp) Pt.enc_len Pt.enc_one (by omega) ?_; intro A3 c3 w3 ho3 hF3 hG3 hat3; obtain ⟨hs3, hc3, hf3, hz3⟩ := hF3)
            all_goals
              go_roundw
              case rel => exact ⟨k + 1, acc ++ [⟨x, v1⟩], A3, 0 + 1, c3, by omega, by go_num, by rw [HS.out, ST.out, PU.out], by simp; omega, World.cell?_setCell_same _ _ _ (by rw [hc3 _ _ hg5]; exact Bl.cell_some (a := wr) inferInstance bo), by simp [go_sem, *], ho3.ox (g := g) inferInstance hg5, inferInstance⟩
              case measure => simp [intOf]; omega
          · have PUy : Hid (pushPt acc x v1 = if y.f = v1 then acc else acc ++ [⟨x, v1⟩]) := Lib.hid (by unfold pushPt; rw [← hlen, Nat.add_sub_cancel, hy])
            obtain ⟨b2, o2, rfl⟩ := (hown.sl Pt.enc_len).addr (by omega)
            obtain ⟨y', hy', hlb2, e0, e1, e2, e3⟩ := Pts.cells (hown.sl Pt.enc_len) (show m < m + 1 by omega)
            obtain rfl : y' = y := Option.some.inj (hy'.symm.trans hy)
            have hm0 : (0 : Int) ≤ (m : Int) := by omega
            have hm1 : (m : Int) < (m : Int) + 1 := by omega
            have hwm : IntKind.i64.wrap (m : Int) = (m : Int) := IntWalk.i64_in _ (by omega)
            clear hlen hy hy'
            rcases ways1 (decide (y'.f = v1)) with gy | gy
            · have PU : Hid (pushPt acc x v1 = acc ++ [⟨x, v1⟩]) := Lib.hid (by rw [PUy.out, if_neg (of_decide_eq_false gy)])
              go_wp2_with (first | (go_at_call 32; refine (hAt _ (h.bel inferInstance) (by omega)).mono ?_; rintro e w2 ⟨rfl, hb2⟩; obtain ⟨hs2, hc2, hf2, hz2⟩ := std hb2; have hy2w0 := lt_bel (b := w.heap.size) hb2 (by first | assumption | (simp <;> omega)); have hy2w1 := lt_bel (b := w.heap.size + 1) hb2 (by first | assumption | (simp <;> omega)); have hy2w2 := lt_bel (b := w.heap.size + 1 + 1) hb2 (by first | assumption | (simp <;> omega)); have hy2g := lt_bel (b := g) hb2 (by first | assumption | (simp <;> omega)); have hy2b2 := lt_bel (b := b2) hb2 (by first | assumption | (simp <;> omega))) | (go_at_call 78; refine (specVecAdd_c ⟨_, _, _⟩ ⟨_, _, _⟩ _).mono ?_; rintro e w4 ⟨rfl, hb4⟩; obtain ⟨hs4, hc4, hf4, hz4⟩ := std hb4; have hy4w0 := lt_bel (b := w.heap.size) hb4 (by first | assumption | (simp <;> omega)); have hy4w1 := lt_bel (b := w.heap.size + 1) hb4 (by first | assumption | (simp <;> omega)); have hy4w2 := lt_bel (b := w.heap.size + 1 + 1) hb4 (by first | assumption | (simp <;> omega)); have hy4w20 := lt_bel (b := w2.heap.size) hb4 (by first | assumption | (simp <;> omega)); have hy4g := lt_bel (b := g) hb4 (by first | assumption | (simp <;> omega)); have hy4b2 := lt_bel (b := b2) hb4 (by first | assumption | (simp <;> omega))))
              all_goals (refine wp_region_bel (by kernel_rfl) (by kernel_rfl) (fun hx => ?_); (repeat (any_goals (first | go_big_quiet_step ((fail)) | quiet_step ((fail)) | (refine wpQuiet_step (fun K hK => ?_); go_simp; split <;> (refine hK _ ?_; clear hK K))))); all_goals (refine wpQuiet_nil ?_; rintro _ ⟨⟨w2, hb2⟩, rfl⟩; (try dsimp only)))
              all_goals obtain ⟨hs2, hc2, hf2, hz2⟩ := std hb2; have hy2w0 := lt_bel (b := w.heap.size) hb2 (by first | assumption | (simp <;> omega)); have hy2w1 := lt_bel (b := w.heap.size + 1) hb2 (by first | assumption | (simp <;> omega)); have hy2w2 := lt_bel (b := w.heap.size + 1 + 1) hb2 (by first | assumption | (simp <;> omega)); have hy2g := lt_bel (b := g) hb2 (by first | assumption | (simp <;> omega))
              all_goals go_wp2_with (at_builtin; refine wpList_app1 ei_pts (hown.bel inferInstance) (⟨x, v1⟩ : Pt) rfl (.tmp 72) (.tmp 76) rfl rfl rfl rfl (by simp) Pt.enc_len Pt.enc_one (by omega) ?_; intro A3 c3 w3 ho3 hF3 hG3 hat3; obtain ⟨hs3, hc3, hf3, hz3⟩ := hF3)
              all_goals
                go_roundw
                case rel => exact ⟨k + 1, acc ++ [⟨x, v1⟩], A3, m + 1 + 1, c3, by omega, by go_num, by rw [HS.out, ST.out, PU.out], by simp; omega, World.cell?_setCell_same _ _ _ (by rw [hc3 _ _ hg5]; exact Bl.cell_some (a := wr) inferInstance bo), by simp [go_sem, *], ho3.ox (g := g) inferInstance hg5, inferInstance⟩
                case measure => simp [intOf]; omega
            · have PU : Hid (pushPt acc x v1 = acc) := Lib.hid (by rw [PUy.out, if_pos (of_decide_eq_true gy)])
              go_wp2_with (first | (go_at_call 32; refine (hAt _ (h.bel inferInstance) (by omega)).mono ?_; rintro e w2 ⟨rfl, hb2⟩; obtain ⟨hs2, hc2, hf2, hz2⟩ := std hb2; have hy2w0 := lt_bel (b := w.heap.size) hb2 (by first | assumption | (simp <;> omega)); have hy2w1 := lt_bel (b := w.heap.size + 1) hb2 (by first | assumption | (simp <;> omega)); have hy2w2 := lt_bel (b := w.heap.size + 1 + 1) hb2 (by first | assumption | (simp <;> omega)); have hy2g := lt_bel (b := g) hb2 (by first | assumption | (simp <;> omega)); have hy2b2 := lt_bel (b := b2) hb2 (by first | assumption | (simp <;> omega))) | (go_at_call 78; refine (specVecAdd_c ⟨_, _, _⟩ ⟨_, _, _⟩ _).mono ?_; rintro e w4 ⟨rfl, hb4⟩; obtain ⟨hs4, hc4, hf4, hz4⟩ := std hb4; have hy4w0 := lt_bel (b := w.heap.size) hb4 (by first | assumption | (simp <;> omega)); have hy4w1 := lt_bel (b := w.heap.size + 1) hb4 (by first | assumption | (simp <;> omega)); have hy4w2 := lt_bel (b := w.heap.size + 1 + 1) hb4 (by first | assumption | (simp <;> omega)); have hy4w20 := lt_bel (b := w2.heap.size) hb4 (by first | assumption | (simp <;> omega)); have hy4g := lt_bel (b := g) hb4 (by first | assumption | (simp <;> omega)); have hy4b2 := lt_bel (b := b2) hb4 (by first | assumption | (simp <;> omega))))
              all_goals (refine wp_region_bel (by kernel_rfl) (by kernel_rfl) (fun hx => ?_); (repeat (any_goals (first | go_big_quiet_step ((fail)) | quiet_step ((fail)) | (refine wpQuiet_step (fun K hK => ?_); go_simp; split <;> (refine hK _ ?_; clear hK K))))); all_goals (refine wpQuiet_nil ?_; rintro _ ⟨⟨w2, hb2⟩, rfl⟩; (try dsimp only)))
              all_goals obtain ⟨hs2, hc2, hf2, hz2⟩ := std hb2; have hy2w0 := lt_bel (b := w.heap.size) hb2 (by first | assumption | (simp <;> omega)); have hy2w1 := lt_bel (b := w.heap.size + 1) hb2 (by first | assumption | (simp <;> omega)); have hy2w2 := lt_bel (b := w.heap.size + 1 + 1) hb2 (by first | assumption | (simp <;> omega)); have hy2g := lt_bel (b := g) hb2 (by first | assumption | (simp <;> omega))
              all_goals go_wp2
              all_goals
                go_roundw
                case rel => exact ⟨k + 1, acc, _, m + 1, _, by omega, by go_num, by rw [HS.out, ST.out, PU.out], by omega, Bl.cell_some (a := wr) inferInstance bo, by simp [go_sem, *], hown.bel inferInstance, inferInstance⟩
                case measure => simp [intOf]; omega
end Go.Proofs.Ytiheokjolaclnaa

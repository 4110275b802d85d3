/- What is free at a time; the least of a span. -/
import Derived.Test.YtiheokjolaclnaaProf
namespace Go.Proofs.Ytiheokjolaclnaa
open Go.RowKit
def vfree (l : List Pt) (t : Int) : Vec := l.foldl (fun v x => if x.t ≤ t then x.f else v) ⟨0, 0, 0⟩
theorem vfree_succ {l : List Pt} {k : Nat} {x : Pt} (h : l[k]? = some x) (t : Int) : vfree (l.take (k + 1)) t = if x.t ≤ t then x.f else vfree (l.take k) t := by
  rw [List.take_add_one, h]
  simp [vfree, List.foldl_append]
set_option maxHeartbeats 1000000 in
theorem free_c (A : Option Addr) (n c : Nat) (l : List Pt) (t : Int) (w : World) (h : Sl w 0 Pt.enc 4 A n l) (hn : n ≤ 2147483648) : Calls Try.prog 37 #[.agg #[.slice A n c], I t] w fun e w' => e = .returned (.agg #[I (vfree l t).a, I (vfree l t).b, I (vfree l t).c]) ∧ Bel w w' := by
  have HL := Lib.hid h.len
  go_enter Try.func37, Try.ntmps37
  go_wp2
  refine wp_gen ?_; intro W0 hW0
  have B0 : Bel w W0 := by rw [hW0]; infer_instance
  have y0 : w.heap.size + 1 + 1 < W0.heap.size := by rw [hW0]; simp [go_sem]
  have a0 := congrArg (World.cell? · ⟨w.heap.size + 1 + 1, 0, none⟩) hW0; simp [go_sem] at a0
  have a1 := congrArg (World.cell? · ⟨w.heap.size + 1 + 1, 1, none⟩) hW0; simp [go_sem] at a1
  have a2 := congrArg (World.cell? · ⟨w.heap.size + 1 + 1, 2, none⟩) hW0; simp [go_sem] at a2
  have hf : ∀ o, W0.frozen? ⟨w.heap.size + 1 + 1, o, none⟩ = false := by intro o; rw [hW0]; simp [go_sem]
  have hr0 := congrArg (World.cell? · ⟨w.heap.size + 1, 0, none⟩) hW0; simp [go_sem] at hr0
  have hr1 := congrArg (World.cell? · ⟨w.heap.size + 1, 1, none⟩) hW0; simp [go_sem] at hr1
  have hr2 := congrArg (World.cell? · ⟨w.heap.size + 1, 2, none⟩) hW0; simp [go_sem] at hr2
  have hrf : ∀ o, W0.frozen? ⟨w.heap.size + 1, o, none⟩ = false := by intro o; rw [hW0]; simp [go_sem]
  have HS := h.bel B0
  clear hW0
  have : LeN (w.heap.size + 1 + 1) W0.heap.size := ⟨by omega⟩
  go_loopw [12] (fun i wr => ∃ k : Nat, k ≤ n ∧ i = .int .i64 k ∧ Bl (w.heap.size + 1 + 1) W0 wr ∧ wr.cell? ⟨w.heap.size + 1 + 1, 0, none⟩ = some (I (vfree (l.take k) t).a) ∧ wr.cell? ⟨w.heap.size + 1 + 1, 1, none⟩ = some (I (vfree (l.take k) t).b) ∧ wr.cell? ⟨w.heap.size + 1 + 1, 2, none⟩ = some (I (vfree (l.take k) t).c) ∧ (∀ o, wr.frozen? ⟨w.heap.size + 1 + 1, o, none⟩ = false)) (fun i _ => n - (intOf i).toNat)
  case atStart => exact ⟨0, by omega, rfl, inferInstance, a0, a1, a2, hf⟩
  case round =>
    clear a0 a1 a2 hf
    obtain ⟨k, hk, rfl, hb0, a0, a1, a2, hf⟩ := hrel
    obtain ⟨hs0, hc0, hf0, hz0⟩ := appF hb0.out
    have y1 := hz0 _ y0
    by_cases hlt : k < n
    case neg =>
      obtain rfl : k = n := by omega
      go_wp2
      refine bodyPost_ret (v := .agg #[I (vfree l t).a, I (vfree l t).b, I (vfree l t).c]) ?_ rfl ⟨rfl, inferInstance⟩
      have e : l.take k = l := List.take_of_length_le (by rw [HL.out]; exact Nat.le_refl _)
      rw [e]
      simp [results, Try.results37, go_sem, hc0, hr0, hr1, hr2]
    have HK : Sl wr 0 Pt.enc 4 A n l := h.bel inferInstance
    obtain ⟨b, o, rfl⟩ := HK.addr (by omega)
    obtain ⟨x, hx, hlb, d0, d1, d2, d3⟩ := Pts.cells HK hlt
    have V := Lib.hid (vfree_succ hx t)
    clear hx
    go_wp2
    all_goals
      go_roundw
      case rel =>
        refine ⟨k + 1, by omega, by go_num, inferInstance, ?_, ?_, ?_, ?_⟩
        all_goals first | (rw [V.out, if_pos (by assumption)]; simp [go_sem, *]; done) | (rw [V.out, if_neg (by omega)]; simp [go_sem, *]; done) | skip
        · intro o; simp [go_sem, hf, y1]
      case measure => simp [intOf]; omega
set_option maxHeartbeats 1000000 in
theorem specAt_c (A : Option Addr) (n c : Nat) (l : List Pt) (t : Int) (w : World) (h : Sl w 0 Pt.enc 4 A n l) (hn : n ≤ 2147483648) : Calls Try.prog 32 #[.agg #[.slice A n c], I t] w fun e w' => e = .returned (.agg #[I (vfree l t).a, I (vfree l t).b, I (vfree l t).c]) ∧ Bel w w' := by
  have HL := Lib.hid h.len
  go_enter Try.func32, Try.ntmps32
  go_wp2
  refine wp_gen ?_; intro W0 hW0
  have B0 : Bel w W0 := by rw [hW0]; infer_instance
  have y0 : w.heap.size + 1 + 1 < W0.heap.size := by rw [hW0]; simp [go_sem]
  have a0 := congrArg (World.cell? · ⟨w.heap.size + 1 + 1, 0, none⟩) hW0; simp [go_sem] at a0
  have a1 := congrArg (World.cell? · ⟨w.heap.size + 1 + 1, 1, none⟩) hW0; simp [go_sem] at a1
  have a2 := congrArg (World.cell? · ⟨w.heap.size + 1 + 1, 2, none⟩) hW0; simp [go_sem] at a2
  have hf : ∀ o, W0.frozen? ⟨w.heap.size + 1 + 1, o, none⟩ = false := by intro o; rw [hW0]; simp [go_sem]
  have hr0 := congrArg (World.cell? · ⟨w.heap.size + 1, 0, none⟩) hW0; simp [go_sem] at hr0
  have hr1 := congrArg (World.cell? · ⟨w.heap.size + 1, 1, none⟩) hW0; simp [go_sem] at hr1
  have hr2 := congrArg (World.cell? · ⟨w.heap.size + 1, 2, none⟩) hW0; simp [go_sem] at hr2
  have hrf : ∀ o, W0.frozen? ⟨w.heap.size + 1, o, none⟩ = false := by intro o; rw [hW0]; simp [go_sem]
  have HS := h.bel B0
  clear hW0
  have : LeN (w.heap.size + 1 + 1) W0.heap.size := ⟨by omega⟩
  go_loopw [12] (fun i wr => ∃ k : Nat, k ≤ n ∧ i = .int .i64 k ∧ Bl (w.heap.size + 1 + 1) W0 wr ∧ wr.cell? ⟨w.heap.size + 1 + 1, 0, none⟩ = some (I (vfree (l.take k) t).a) ∧ wr.cell? ⟨w.heap.size + 1 + 1, 1, none⟩ = some (I (vfree (l.take k) t).b) ∧ wr.cell? ⟨w.heap.size + 1 + 1, 2, none⟩ = some (I (vfree (l.take k) t).c) ∧ (∀ o, wr.frozen? ⟨w.heap.size + 1 + 1, o, none⟩ = false)) (fun i _ => n - (intOf i).toNat)
  case atStart => exact ⟨0, by omega, rfl, inferInstance, a0, a1, a2, hf⟩
  case round =>
    clear a0 a1 a2 hf
    obtain ⟨k, hk, rfl, hb0, a0, a1, a2, hf⟩ := hrel
    obtain ⟨hs0, hc0, hf0, hz0⟩ := appF hb0.out
    have y1 := hz0 _ y0
    by_cases hlt : k < n
    case neg =>
      obtain rfl : k = n := by omega
      go_wp2
      refine bodyPost_ret (v := .agg #[I (vfree l t).a, I (vfree l t).b, I (vfree l t).c]) ?_ rfl ⟨rfl, inferInstance⟩
      have e : l.take k = l := List.take_of_length_le (by rw [HL.out]; exact Nat.le_refl _)
      rw [e]
      simp [results, Try.results32, go_sem, hc0, hr0, hr1, hr2]
    have HK : Sl wr 0 Pt.enc 4 A n l := h.bel inferInstance
    obtain ⟨b, o, rfl⟩ := HK.addr (by omega)
    obtain ⟨x, hx, hlb, d0, d1, d2, d3⟩ := Pts.cells HK hlt
    have V := Lib.hid (vfree_succ hx t)
    clear hx
    go_wp2
    all_goals
      go_roundw
      case rel =>
        refine ⟨k + 1, by omega, by go_num, inferInstance, ?_, ?_, ?_, ?_⟩
        all_goals first | (rw [V.out, if_pos (by assumption)]; simp [go_sem, *]; done) | (rw [V.out, if_neg (by omega)]; simp [go_sem, *]; done) | skip
        · intro o; simp [go_sem, hf, y1]
      case measure => simp [intOf]; omega
end Go.Proofs.Ytiheokjolaclnaa

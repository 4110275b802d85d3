/- The draw of the law on free intervals. -/
import Derived.Test.YtiheokjolaclnaaProfAny
import Derived.Deep.RegionHeld3
namespace Go.Proofs.Ytiheokjolaclnaa
open Go.RowKit
set_option maxRecDepth 100000 in
set_option maxHeartbeats 2000000 in
theorem drawHoles_c (A : Option Addr) (n c : Nat) (w : World) (h : Bytes w A n) (hn : n ≤ 2147483600) : Calls Try.prog 5 #[.slice A n c] w
    fun e w' => ∃ A1 n1 c1 l a b d f t, e = .returned (.tuple #[.agg #[.slice A1 n1 c1], .agg #[I a, I b, I d], I f, I t]) ∧ Sl w' 0 Pt.enc 4 A1 n1 l ∧ n1 ≤ 1001 ∧ Bel w w' := by
  go_enter Try.func5, Try.ntmps5
  go_wp2_with first | (go_at_call 22; refine (new_c _ _ _ _ (h.bel inferInstance) hn).mono ?_; rintro e w1 ⟨g, rfl, hg, hcur, hb1⟩; obtain ⟨hs1, hc1, hf1, hz1⟩ := std hb1; have hy1w0 := lt_bel (b := w.heap.size) hb1 (by first | assumption | (simp <;> omega)); have hy1w1 := lt_bel (b := w.heap.size + 1) hb1 (by first | assumption | (simp <;> omega)); have hgl1 := hcur.lt; have lg1 : LeN w.heap.size g := ⟨by simp at hg; omega⟩; have hg : w.heap.size + 1 < g := by simp at hg; omega) | (go_at_call 23; refine (profAny_c _ _ (by first | exact hcur.bel inferInstance | exact hcur.bl inferInstance | exact h.bel inferInstance)).mono ?_; rintro e wa ⟨A3, n3, c3, l3, rfl, hS3, hn3, hcur, hoxa⟩; obtain ⟨hsa, hca, hfa, hza⟩ := stdo hoxa; have hgla := hcur.lt; have hya0 := lt_ox (b := w.heap.size) hoxa (by first | assumption | (simp <;> omega)); have hna0 : w.heap.size ≠ g := (by omega); have hza0 : w.heap.size < wa.heap.size + 1 := (by omega); have hua0 : w.heap.size < wa.heap.size + 1 + 1 := (by omega); have hya1 := lt_ox (b := w.heap.size + 1) hoxa (by first | assumption | (simp <;> omega)); have hna1 : w.heap.size + 1 ≠ g := (by omega); have hza1 : w.heap.size + 1 < wa.heap.size + 1 := (by omega); have hua1 : w.heap.size + 1 < wa.heap.size + 1 + 1 := (by omega)) | (go_at_call 24; refine (vecHole_c _ _ (by first | exact hcur.bel inferInstance | exact hcur.bl inferInstance | exact h.bel inferInstance)).mono ?_; rintro e wb ⟨xp, xq, xr, rfl, hcur, hoxb⟩; obtain ⟨hsb, hcb, hfb, hzb⟩ := stdo hoxb; have hglb := hcur.lt; have hyb0 := lt_ox (b := w.heap.size) hoxb (by first | assumption | (simp <;> omega)); have hnb0 : w.heap.size ≠ g := (by omega); have hzb0 : w.heap.size < wb.heap.size + 1 := (by omega); have hub0 : w.heap.size < wb.heap.size + 1 + 1 := (by omega); have hyb1 := lt_ox (b := w.heap.size + 1) hoxb (by first | assumption | (simp <;> omega)); have hnb1 : w.heap.size + 1 ≠ g := (by omega); have hzb1 : w.heap.size + 1 < wb.heap.size + 1 := (by omega); have hub1 : w.heap.size + 1 < wb.heap.size + 1 + 1 := (by omega); have hyb2 := lt_ox (b := wa.heap.size) hoxb (by first | assumption | (simp <;> omega)); have hnb2 : wa.heap.size ≠ g := (by omega); have hzb2 : wa.heap.size < wb.heap.size + 1 := (by omega); have hub2 : wa.heap.size < wb.heap.size + 1 + 1 := (by omega)) | (go_at_call 25; refine (span_c _ _ (by first | exact hcur.bel inferInstance | exact hcur.bl inferInstance | exact h.bel inferInstance)).mono ?_; rintro e wc ⟨xs, xt, rfl, hcur, hoxc⟩; obtain ⟨hsc, hcc, hfc, hzc⟩ := stdo hoxc; have hglc := hcur.lt; have hyc0 := lt_ox (b := w.heap.size) hoxc (by first | assumption | (simp <;> omega)); have hnc0 : w.heap.size ≠ g := (by omega); have hzc0 : w.heap.size < wc.heap.size + 1 := (by omega); have huc0 : w.heap.size < wc.heap.size + 1 + 1 := (by omega); have hyc1 := lt_ox (b := w.heap.size + 1) hoxc (by first | assumption | (simp <;> omega)); have hnc1 : w.heap.size + 1 ≠ g := (by omega); have hzc1 : w.heap.size + 1 < wc.heap.size + 1 := (by omega); have huc1 : w.heap.size + 1 < wc.heap.size + 1 + 1 := (by omega); have hyc2 := lt_ox (b := wa.heap.size) hoxc (by first | assumption | (simp <;> omega)); have hnc2 : wa.heap.size ≠ g := (by omega); have hzc2 : wa.heap.size < wc.heap.size + 1 := (by omega); have huc2 : wa.heap.size < wc.heap.size + 1 + 1 := (by omega); have hyc3 := lt_ox (b := wb.heap.size) hoxc (by first | assumption | (simp <;> omega)); have hnc3 : wb.heap.size ≠ g := (by omega); have hzc3 : wb.heap.size < wc.heap.size + 1 := (by omega); have huc3 : wb.heap.size < wc.heap.size + 1 + 1 := (by omega))
  have ca : wc.cell? ⟨wa.heap.size, 0, none⟩ = some (.slice A3 n3 c3) := by simp [go_sem, *]
  have cb0 : wc.cell? ⟨wb.heap.size, 0, none⟩ = some (I xp) := by simp [go_sem, *]
  have cb1 : wc.cell? ⟨wb.heap.size, 1, none⟩ = some (I xq) := by simp [go_sem, *]
  have cb2 : wc.cell? ⟨wb.heap.size, 2, none⟩ = some (I xr) := by simp [go_sem, *]
  have r0 : wc.cell? ⟨w.heap.size, 0, none⟩ = some (.slice none 0 0) := by simp [go_sem, *]
  have f0 : ∀ o, wc.frozen? ⟨w.heap.size, o, none⟩ = false := by intro o; simp [go_sem, *]
  have r1 : wc.cell? ⟨w.heap.size + 1, 0, none⟩ = some (I 0) := by simp [go_sem, *]
  have r2 : wc.cell? ⟨w.heap.size + 1, 1, none⟩ = some (I 0) := by simp [go_sem, *]
  have r3 : wc.cell? ⟨w.heap.size + 1, 2, none⟩ = some (I 0) := by simp [go_sem, *]
  have f1 : ∀ o, wc.frozen? ⟨w.heap.size + 1, o, none⟩ = false := by intro o; simp [go_sem, *]
  have X1 : Bel w w1 := inferInstance
  have X2 : LeN w.heap.size w1.heap.size := inferInstance
  have X3 : Bel w wa := inferInstance
  have X : Bel w wc := inferInstance
  have HS : Sl wc w1.heap.size Pt.enc 4 A3 n3 l3 := by
    exact (((hS3.bel (w' := wa.alloc (.cells #[.slice A3 n3 c3] 25)) inferInstance).ox hoxb (by omega)).bel (w' := wb.alloc (.cells #[I xp, I xq, I xr] 27)) inferInstance).ox hoxc (by omega)
  obtain ⟨qa, hqa⟩ : ∃ q, q = wa.heap.size := ⟨_, rfl⟩
  obtain ⟨qb, hqb⟩ : ∃ q, q = wb.heap.size := ⟨_, rfl⟩
  obtain ⟨r, hr⟩ : ∃ q, q = w.heap.size := ⟨_, rfl⟩
  rw [← hqa] at ca
  rw [← hqb] at cb0 cb1 cb2
  rw [← hqa, ← hqb, ← hr]
  rw [← hr] at r0 f0 r1 r2 r3 f1
  have e1 : qa ≠ r := by omega
  have e2 : qa ≠ r + 1 := by omega
  have e3 : qb ≠ r := by omega
  have e4 : qb ≠ r + 1 := by omega
  have e5 : qa ≠ qb := by omega
  have e6 := Ne.symm e1
  have e7 := Ne.symm e2
  have e8 := Ne.symm e3
  have e9 := Ne.symm e4
  have i1 : LeN w.heap.size r := ⟨by omega⟩
  have hsX := (std X).1
  have hrlt : r < w1.heap.size := by omega
  have hrlt2 : r + 1 < w1.heap.size := by omega
  clear hr
  clear hsc hcc hfc hzc hoxc hsb hcb hfb hzb hoxb hsa hca hfa hza hoxa hs1 hc1 hf1 hz1 hb1 hqa hqb
  go_region_held3 (fun w' => w'.cell? ⟨qa, 0, none⟩ = some (.slice A3 n3 c3) ∧ w'.cell? ⟨qb, 0, none⟩ = some (I xp) ∧ w'.cell? ⟨qb, 1, none⟩ = some (I xq) ∧ w'.cell? ⟨qb, 2, none⟩ = some (I xr)) (first | go_keep | (simp [go_sem, *]; done)) (fail)
  all_goals go_wp2
  (refine bodyPost_ret (v := .tuple #[.agg #[.slice A3 n3 c3], .agg #[I xp, I xq, I xr], I xs, I xt]) ?_ rfl ?_; focus (simp [results, Try.results5, go_sem, *]; done))
  exact ⟨_, _, _, l3, _, _, _, _, _, rfl, Sl.mono (lo := w1.heap.size) (Sl.ox (g := r + 1) (Sl.ox (g := r) HS (inferInstance : Ox r wc (wc.setCell ⟨r, 0, none⟩ (.slice A3 n3 c3))) (by omega)) inferInstance (by omega)) (Nat.zero_le _), hn3, inferInstance⟩
end Go.Proofs.Ytiheokjolaclnaa

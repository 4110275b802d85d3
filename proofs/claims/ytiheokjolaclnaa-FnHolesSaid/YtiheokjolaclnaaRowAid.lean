/- What a row's proof wants of its one argument, a slice of bytes. -/
import Derived.Test.YtiheokjolaclnaaDraw
namespace Go.Proofs.Ytiheokjolaclnaa
theorem bytes_of {w : World} {x : Addr} {len : Nat} {zs : List Int} (hl : len ≤ zs.length) (hcell : ∀ i, i < zs.length → w.cell? (x.add i) = some (.int .u8 (zs.getD i 0))) : Bytes w (some x) len := fun j hj => by
  obtain ⟨b, o, sp⟩ := x
  have h0 := hcell 0 (by omega)
  have hs : sp = none := by
    cases sp with
    | none => rfl
    | some s =>
      simp only [Addr.add, if_true, World.cell?] at h0
      split at h0
      · simp at h0
      · cases h0
  subst hs
  refine ⟨b, o, zs.getD j 0, rfl, ?_⟩
  have := hcell j (by omega)
  unfold Addr.add at this
  split at this
  · rename_i hj0; subst hj0; exact this
  · exact this
end Go.Proofs.Ytiheokjolaclnaa

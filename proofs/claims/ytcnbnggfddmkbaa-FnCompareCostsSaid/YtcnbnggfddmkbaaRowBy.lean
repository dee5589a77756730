/- A slice of bytes that came in. -/
import Derived.Test.YtcnbnggfddmkbaaOpen
import Derived.Test.YtcnbnggfddmkbaaRd
import Derived.OpenShut
namespace Go.Proofs.Ytcnbnggfddmkbaa
open Go.RowKit
instance : Inhabited By := ⟨⟨0⟩⟩
theorem dec_by {H : Type} {enc : TypeId × Value → H} {w : World} (fuel : Nat) (cs : List Value) (x : DataW H × List MemPlace) (h : DataW.trod enc Try.prog w 0 (fun _ => true) true fuel 5 cs = some x) :
    ∃ y : By, cs = Enc.enc y ∧ (0 ≤ y.v ∧ y.v ≤ 255) := by
  obtain ⟨n, rfl, _, wf⟩ := DataW.trod_int Try.underlying5 h
  exact ⟨⟨n⟩, rfl, bounds_u8 wf⟩
end Go.Proofs.Ytcnbnggfddmkbaa

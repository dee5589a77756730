/- Words of this seat's proofs: what a call returns. No program is named here. -/
import Derived.WalkKit
import Derived.Below
import Derived.RowKit
import Derived.KernelRfl
import Derived.Lib.Hide
import Derived.WalkSpells
import Derived.Deep.DeepCutAuto
import Derived.Deep.CutBlock
import Derived.Deep.LoopGhost
import Derived.StillTailTactics
import Derived.Deep.RegionHeld3
import Derived.BigQuiet
import Derived.Deep.QuietTactic
namespace Go.Proofs.Ytpdpmcllpafjbaa
open Go.RowKit

/-- A call that only makes blocks of its own, and returns a value with a property. -/
def Post (w : World) (P : Value → World → Prop) (e : Ending) (w' : World) : Prop := ∃ v, e = .returned v ∧ Below w.heap.size w w' ∧ P v w'
theorem Post.mk {w w' : World} {P : Value → World → Prop} {v : Value} (hb : Below w.heap.size w w') (h : P v w') : Post w P (.returned v) w' := ⟨v, rfl, hb, h⟩

/-- The call returns an integer, or a bool, with a property. -/
def IntP (p : Int → Prop) (v : Value) (_ : World) : Prop := ∃ r, v = .int .i64 r ∧ p r
def BoolP (b : Bool) (v : Value) (_ : World) : Prop := v = .bool b
theorem IntP.mk {p : Int → Prop} {r : Int} {w : World} (h : p r) : IntP p (.int .i64 r) w := ⟨r, rfl, h⟩
theorem BoolP.mk {b c : Bool} {w : World} (h : c = b) : BoolP b (.bool c) w := by rw [h]; rfl

end Go.Proofs.Ytpdpmcllpafjbaa

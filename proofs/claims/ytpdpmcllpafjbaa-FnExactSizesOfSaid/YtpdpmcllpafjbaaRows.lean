/-
  NARROWER THAN 'FOR EVERY INPUT', by the rows' own cells (each row's printed sentence says how): FnExactTokensOf: loops · FnExactDropEmpty: loops · FnExactPushNest: loops · FnExactDropGroups: loops.
  DERIVED. THE GIVEN ROWS OF THIS SEAT. 12 by the template 'for every input the law returns true; each argument reads behind the call as it read before'; 0 by the template 'total and deterministic' (their statements: YtpdpmcllpafjbaaTotals.lean).
  GIVEN WITH THE SEED: the statements are not yours to turn. If you find one false, say at which input.
  Laid BY PROGRAM, IN A SANDBOX (cutbox-rows.mjs): the forced cells as the released guide's own fill.sh prints them over the translation 3795245dc34d474b… (all of the seat's roots in one cut). By AI agents, Wed Nov 11 2026. No macro, syntax, notation, axiom, sorry.
-/
import Derived.Test.YtpdpmcllpafjbaaChecked
import GoSem.Claim
import GoSem.ClaimJoined
import GoSem.ClaimMapViews
import Derived.JoinedTies
import Derived.KernelRfl
namespace Go.Proofs.Ytpdpmcllpafjbaa
/- THE CELL 'sum', in the pinned program and in every row, IS THE sha256 OF THE DUMP (.gsa) THAT YtpdpmcllpafjbaaProg.lean LOADS. Nothing in Lean hashes anything: it is a label: what it is worth is what the hold of that sum in a sandbox is worth. -/
noncomputable def Try.pinned : Pinned := { name := "ytpdpmcllpafjbaa", sum := "3795245dc34d474b5ce65df301ab3b1bde07834d556dab3ab93cbc1f91adf60c", checked := Try.checked }
namespace Rows
def none {H : Type} : Left H := { results := [], args := [] }

/-- 'laws.FnExactCompareCosts': WHATEVER THE INPUT: true; the input reads as it did. -/
def fnExactCompareCostsSpec : ChangeSpec := { name := "fnExactCompareCosts", fn := fun _ => fun
  | [d1, d2] => { results := [.lit (.bool true)], args := [d1, d2] }
  | _ => none }
def fnExactCompareCostsRow : OpenClaim := { program := "ytpdpmcllpafjbaa", sum := "3795245dc34d474b5ce65df301ab3b1bde07834d556dab3ab93cbc1f91adf60c", func := "loop.example/docalgebra/laws.FnExactCompareCosts", spec := "fnExactCompareCosts", apart := false }
def FnExactCompareCostsSaid : Prop := fnExactCompareCostsRow.holds Try.pinned (OpenSpec.ofChange fnExactCompareCostsSpec)

/-- ITS FALSE NEIGHBOUR: 'it returns false'. Refute it at one input. -/
def fnExactCompareCostsWrong : ChangeSpec := { name := "fnExactCompareCosts", fn := fun _ => fun
  | [d1, d2] => { results := [.lit (.bool false)], args := [d1, d2] }
  | _ => none }
def FnExactCompareCostsWrongFalsely : Prop := fnExactCompareCostsRow.holds Try.pinned (OpenSpec.ofChange fnExactCompareCostsWrong)

/-- 'laws.FnCompareCosts': WHATEVER THE INPUT: true; the input reads as it did. -/
def fnCompareCostsSpec : ChangeSpec := { name := "fnCompareCosts", fn := fun _ => fun
  | [d1, d2] => { results := [.lit (.bool true)], args := [d1, d2] }
  | _ => none }
def fnCompareCostsRow : OpenClaim := { program := "ytpdpmcllpafjbaa", sum := "3795245dc34d474b5ce65df301ab3b1bde07834d556dab3ab93cbc1f91adf60c", func := "loop.example/docalgebra/laws.FnCompareCosts", spec := "fnCompareCosts", apart := false }
def FnCompareCostsSaid : Prop := fnCompareCostsRow.holds Try.pinned (OpenSpec.ofChange fnCompareCostsSpec)

/-- ITS FALSE NEIGHBOUR: 'it returns false'. Refute it at one input. -/
def fnCompareCostsWrong : ChangeSpec := { name := "fnCompareCosts", fn := fun _ => fun
  | [d1, d2] => { results := [.lit (.bool false)], args := [d1, d2] }
  | _ => none }
def FnCompareCostsWrongFalsely : Prop := fnCompareCostsRow.holds Try.pinned (OpenSpec.ofChange fnCompareCostsWrong)

/-- 'laws.FnExactTokensValid': WHATEVER THE INPUT: true; the input reads as it did. -/
def fnExactTokensValidSpec : ChangeSpec := { name := "fnExactTokensValid", fn := fun _ => fun
  | [d] => { results := [.lit (.bool true)], args := [d] }
  | _ => none }
def fnExactTokensValidRow : OpenClaim := { program := "ytpdpmcllpafjbaa", sum := "3795245dc34d474b5ce65df301ab3b1bde07834d556dab3ab93cbc1f91adf60c", func := "loop.example/docalgebra/laws.FnExactTokensValid", spec := "fnExactTokensValid", inPlace := ["internal/bytealg.IndexByteString"], apart := false }
def FnExactTokensValidSaid : Prop := fnExactTokensValidRow.holds Try.pinned (OpenSpec.ofChange fnExactTokensValidSpec)

/-- ITS FALSE NEIGHBOUR: 'it returns false'. Refute it at one input. -/
def fnExactTokensValidWrong : ChangeSpec := { name := "fnExactTokensValid", fn := fun _ => fun
  | [d] => { results := [.lit (.bool false)], args := [d] }
  | _ => none }
def FnExactTokensValidWrongFalsely : Prop := fnExactTokensValidRow.holds Try.pinned (OpenSpec.ofChange fnExactTokensValidWrong)

/-- 'laws.FnExactCostOf': WHATEVER THE INPUT: true; the input reads as it did. -/
def fnExactCostOfSpec : ChangeSpec := { name := "fnExactCostOf", fn := fun _ => fun
  | [d1, d2] => { results := [.lit (.bool true)], args := [d1, d2] }
  | _ => none }
def fnExactCostOfRow : OpenClaim := { program := "ytpdpmcllpafjbaa", sum := "3795245dc34d474b5ce65df301ab3b1bde07834d556dab3ab93cbc1f91adf60c", func := "loop.example/docalgebra/laws.FnExactCostOf", spec := "fnExactCostOf", inPlace := ["internal/bytealg.IndexByteString"], apart := false }
def FnExactCostOfSaid : Prop := fnExactCostOfRow.holds Try.pinned (OpenSpec.ofChange fnExactCostOfSpec)

/-- ITS FALSE NEIGHBOUR: 'it returns false'. Refute it at one input. -/
def fnExactCostOfWrong : ChangeSpec := { name := "fnExactCostOf", fn := fun _ => fun
  | [d1, d2] => { results := [.lit (.bool false)], args := [d1, d2] }
  | _ => none }
def FnExactCostOfWrongFalsely : Prop := fnExactCostOfRow.holds Try.pinned (OpenSpec.ofChange fnExactCostOfWrong)

/-- 'laws.FnExactTokensOf': WHATEVER THE INPUT: true; the input reads as it did. -/
def fnExactTokensOfSpec : ChangeSpec := { name := "fnExactTokensOf", fn := fun _ => fun
  | [d] => { results := [.lit (.bool true)], args := [d] }
  | _ => none }
def fnExactTokensOfRow : OpenClaim := { program := "ytpdpmcllpafjbaa", sum := "3795245dc34d474b5ce65df301ab3b1bde07834d556dab3ab93cbc1f91adf60c", func := "loop.example/docalgebra/laws.FnExactTokensOf", spec := "fnExactTokensOf", inPlace := ["internal/bytealg.IndexByteString"], recurses := true, loops := true, apart := false }
def FnExactTokensOfSaid : Prop := fnExactTokensOfRow.holds Try.pinned (OpenSpec.ofChange fnExactTokensOfSpec)

/-- ITS FALSE NEIGHBOUR: 'it returns false'. Refute it at one input. -/
def fnExactTokensOfWrong : ChangeSpec := { name := "fnExactTokensOf", fn := fun _ => fun
  | [d] => { results := [.lit (.bool false)], args := [d] }
  | _ => none }
def FnExactTokensOfWrongFalsely : Prop := fnExactTokensOfRow.holds Try.pinned (OpenSpec.ofChange fnExactTokensOfWrong)

/-- 'laws.FnExactDropEmpty': WHATEVER THE INPUT: true; the input reads as it did. -/
def fnExactDropEmptySpec : ChangeSpec := { name := "fnExactDropEmpty", fn := fun _ => fun
  | [d] => { results := [.lit (.bool true)], args := [d] }
  | _ => none }
def fnExactDropEmptyRow : OpenClaim := { program := "ytpdpmcllpafjbaa", sum := "3795245dc34d474b5ce65df301ab3b1bde07834d556dab3ab93cbc1f91adf60c", func := "loop.example/docalgebra/laws.FnExactDropEmpty", spec := "fnExactDropEmpty", inPlace := ["internal/bytealg.IndexByteString"], unfollowed := true, recurses := true, loops := true, apart := false }
def FnExactDropEmptySaid : Prop := fnExactDropEmptyRow.holds Try.pinned (OpenSpec.ofChange fnExactDropEmptySpec)

/-- ITS FALSE NEIGHBOUR: 'it returns false'. Refute it at one input. -/
def fnExactDropEmptyWrong : ChangeSpec := { name := "fnExactDropEmpty", fn := fun _ => fun
  | [d] => { results := [.lit (.bool false)], args := [d] }
  | _ => none }
def FnExactDropEmptyWrongFalsely : Prop := fnExactDropEmptyRow.holds Try.pinned (OpenSpec.ofChange fnExactDropEmptyWrong)

/-- 'laws.FnExactSizesOf': WHATEVER THE INPUT: true; the input reads as it did. -/
def fnExactSizesOfSpec : ChangeSpec := { name := "fnExactSizesOf", fn := fun _ => fun
  | [d] => { results := [.lit (.bool true)], args := [d] }
  | _ => none }
def fnExactSizesOfRow : OpenClaim := { program := "ytpdpmcllpafjbaa", sum := "3795245dc34d474b5ce65df301ab3b1bde07834d556dab3ab93cbc1f91adf60c", func := "loop.example/docalgebra/laws.FnExactSizesOf", spec := "fnExactSizesOf", inPlace := ["internal/bytealg.IndexByteString"], apart := false }
def FnExactSizesOfSaid : Prop := fnExactSizesOfRow.holds Try.pinned (OpenSpec.ofChange fnExactSizesOfSpec)

/-- ITS FALSE NEIGHBOUR: 'it returns false'. Refute it at one input. -/
def fnExactSizesOfWrong : ChangeSpec := { name := "fnExactSizesOf", fn := fun _ => fun
  | [d] => { results := [.lit (.bool false)], args := [d] }
  | _ => none }
def FnExactSizesOfWrongFalsely : Prop := fnExactSizesOfRow.holds Try.pinned (OpenSpec.ofChange fnExactSizesOfWrong)

/-- 'laws.FnGapBound': WHATEVER THE INPUT: true; the input reads as it did. -/
def fnGapBoundSpec : ChangeSpec := { name := "fnGapBound", fn := fun _ => fun
  | [d] => { results := [.lit (.bool true)], args := [d] }
  | _ => none }
def fnGapBoundRow : OpenClaim := { program := "ytpdpmcllpafjbaa", sum := "3795245dc34d474b5ce65df301ab3b1bde07834d556dab3ab93cbc1f91adf60c", func := "loop.example/docalgebra/laws.FnGapBound", spec := "fnGapBound", inPlace := ["internal/bytealg.IndexByteString"], unfollowed := true, recurses := true, apart := false }
def FnGapBoundSaid : Prop := fnGapBoundRow.holds Try.pinned (OpenSpec.ofChange fnGapBoundSpec)

/-- ITS FALSE NEIGHBOUR: 'it returns false'. Refute it at one input. -/
def fnGapBoundWrong : ChangeSpec := { name := "fnGapBound", fn := fun _ => fun
  | [d] => { results := [.lit (.bool false)], args := [d] }
  | _ => none }
def FnGapBoundWrongFalsely : Prop := fnGapBoundRow.holds Try.pinned (OpenSpec.ofChange fnGapBoundWrong)

/-- 'laws.FnExactPushNest': WHATEVER THE INPUT: true; the input reads as it did. -/
def fnExactPushNestSpec : ChangeSpec := { name := "fnExactPushNest", fn := fun _ => fun
  | [d] => { results := [.lit (.bool true)], args := [d] }
  | _ => none }
def fnExactPushNestRow : OpenClaim := { program := "ytpdpmcllpafjbaa", sum := "3795245dc34d474b5ce65df301ab3b1bde07834d556dab3ab93cbc1f91adf60c", func := "loop.example/docalgebra/laws.FnExactPushNest", spec := "fnExactPushNest", inPlace := ["internal/bytealg.IndexByteString"], unfollowed := true, recurses := true, loops := true, apart := false }
def FnExactPushNestSaid : Prop := fnExactPushNestRow.holds Try.pinned (OpenSpec.ofChange fnExactPushNestSpec)

/-- ITS FALSE NEIGHBOUR: 'it returns false'. Refute it at one input. -/
def fnExactPushNestWrong : ChangeSpec := { name := "fnExactPushNest", fn := fun _ => fun
  | [d] => { results := [.lit (.bool false)], args := [d] }
  | _ => none }
def FnExactPushNestWrongFalsely : Prop := fnExactPushNestRow.holds Try.pinned (OpenSpec.ofChange fnExactPushNestWrong)

/-- 'laws.FnExactDropGroups': WHATEVER THE INPUT: true; the input reads as it did. -/
def fnExactDropGroupsSpec : ChangeSpec := { name := "fnExactDropGroups", fn := fun _ => fun
  | [d] => { results := [.lit (.bool true)], args := [d] }
  | _ => none }
def fnExactDropGroupsRow : OpenClaim := { program := "ytpdpmcllpafjbaa", sum := "3795245dc34d474b5ce65df301ab3b1bde07834d556dab3ab93cbc1f91adf60c", func := "loop.example/docalgebra/laws.FnExactDropGroups", spec := "fnExactDropGroups", inPlace := ["internal/bytealg.IndexByteString"], unfollowed := true, recurses := true, loops := true, apart := false }
def FnExactDropGroupsSaid : Prop := fnExactDropGroupsRow.holds Try.pinned (OpenSpec.ofChange fnExactDropGroupsSpec)

/-- ITS FALSE NEIGHBOUR: 'it returns false'. Refute it at one input. -/
def fnExactDropGroupsWrong : ChangeSpec := { name := "fnExactDropGroups", fn := fun _ => fun
  | [d] => { results := [.lit (.bool false)], args := [d] }
  | _ => none }
def FnExactDropGroupsWrongFalsely : Prop := fnExactDropGroupsRow.holds Try.pinned (OpenSpec.ofChange fnExactDropGroupsWrong)

/-- 'laws.FnTokensValid': WHATEVER THE INPUT: true; the input reads as it did. -/
def fnTokensValidSpec : ChangeSpec := { name := "fnTokensValid", fn := fun _ => fun
  | [d] => { results := [.lit (.bool true)], args := [d] }
  | _ => none }
def fnTokensValidRow : OpenClaim := { program := "ytpdpmcllpafjbaa", sum := "3795245dc34d474b5ce65df301ab3b1bde07834d556dab3ab93cbc1f91adf60c", func := "loop.example/docalgebra/laws.FnTokensValid", spec := "fnTokensValid", inPlace := ["internal/bytealg.IndexByteString"], recurses := true, apart := false }
def FnTokensValidSaid : Prop := fnTokensValidRow.holds Try.pinned (OpenSpec.ofChange fnTokensValidSpec)

/-- ITS FALSE NEIGHBOUR: 'it returns false'. Refute it at one input. -/
def fnTokensValidWrong : ChangeSpec := { name := "fnTokensValid", fn := fun _ => fun
  | [d] => { results := [.lit (.bool false)], args := [d] }
  | _ => none }
def FnTokensValidWrongFalsely : Prop := fnTokensValidRow.holds Try.pinned (OpenSpec.ofChange fnTokensValidWrong)

/-- 'laws.FnExactLookAhead': WHATEVER THE INPUT: true; the input reads as it did. -/
def fnExactLookAheadSpec : ChangeSpec := { name := "fnExactLookAhead", fn := fun _ => fun
  | [d1, d2] => { results := [.lit (.bool true)], args := [d1, d2] }
  | _ => none }
def fnExactLookAheadRow : OpenClaim := { program := "ytpdpmcllpafjbaa", sum := "3795245dc34d474b5ce65df301ab3b1bde07834d556dab3ab93cbc1f91adf60c", func := "loop.example/docalgebra/laws.FnExactLookAhead", spec := "fnExactLookAhead", inPlace := ["internal/bytealg.IndexByteString"], apart := false }
def FnExactLookAheadSaid : Prop := fnExactLookAheadRow.holds Try.pinned (OpenSpec.ofChange fnExactLookAheadSpec)

/-- ITS FALSE NEIGHBOUR: 'it returns false'. Refute it at one input. -/
def fnExactLookAheadWrong : ChangeSpec := { name := "fnExactLookAhead", fn := fun _ => fun
  | [d1, d2] => { results := [.lit (.bool false)], args := [d1, d2] }
  | _ => none }
def FnExactLookAheadWrongFalsely : Prop := fnExactLookAheadRow.holds Try.pinned (OpenSpec.ofChange fnExactLookAheadWrong)

/- THE SECOND FORM. 'bulk': how many values and letters a reading holds, each counted each time it is reached (what is shared counts as often as it is met; a slice's spare places count too). A statement '..UptoSaid' is the law's where the arguments, and the package variables that the reading takes, are together of bulk at most 1048576: NARROWER than '..Said'. Prove '..Said' where nothing that the law and all that it calls make is longer than what came in: it says more and counts as full. Else prove '..UptoSaid'. A law counts once. -/
mutual
def uptoBulk {H : Type} : DataW H → Nat
  | .lit (.string bytes) => bytes.length + 1
  | .lit _ => 1
  | .nil => 1
  | .ptr d => uptoBulk d + 1
  | .slice elems spare => uptoBulkAll elems + uptoBulkAll spare + 1
  | .agg parts => uptoBulkAll parts + 1
  | .iface _ d => uptoBulk d + 1
  | .map entries => uptoBulkEntries entries + 1
  | .held _ => 1
def uptoBulkAll {H : Type} : List (DataW H) → Nat
  | [] => 0
  | d :: r => uptoBulk d + uptoBulkAll r
def uptoBulkEntries {H : Type} : List (Lit × DataW H) → Nat
  | [] => 0
  | x :: r => uptoBulkEntry x + uptoBulkEntries r
def uptoBulkEntry {H : Type} : Lit × DataW H → Nat
  | (.string bytes, d) => bytes.length + uptoBulk d + 1
  | (_, d) => uptoBulk d + 1
 end
def uptoSmall : (H : Type) → List (DataW H) → Bool := fun _ ds => decide (uptoBulkAll ds ≤ 1048576)
def OpenSpec.upto (s : _root_.Go.ChangeSpec) : _root_.Go.OpenSpec := { _root_.Go.OpenSpec.ofChange s with cond := some uptoSmall }

/-- 'laws.FnExactCompareCosts', WHERE WHAT IT READS IS OF BULK AT MOST 1048576: true; the input reads as it did. -/
def fnExactCompareCostsUptoRow : OpenClaim := { program := "ytpdpmcllpafjbaa", sum := "3795245dc34d474b5ce65df301ab3b1bde07834d556dab3ab93cbc1f91adf60c", func := "loop.example/docalgebra/laws.FnExactCompareCosts", spec := "fnExactCompareCosts", apart := false, narrowed := true }
def FnExactCompareCostsUptoSaid : Prop := fnExactCompareCostsUptoRow.holds Try.pinned (OpenSpec.upto fnExactCompareCostsSpec)

/-- 'laws.FnCompareCosts', WHERE WHAT IT READS IS OF BULK AT MOST 1048576: true; the input reads as it did. -/
def fnCompareCostsUptoRow : OpenClaim := { program := "ytpdpmcllpafjbaa", sum := "3795245dc34d474b5ce65df301ab3b1bde07834d556dab3ab93cbc1f91adf60c", func := "loop.example/docalgebra/laws.FnCompareCosts", spec := "fnCompareCosts", apart := false, narrowed := true }
def FnCompareCostsUptoSaid : Prop := fnCompareCostsUptoRow.holds Try.pinned (OpenSpec.upto fnCompareCostsSpec)

/-- 'laws.FnExactTokensValid', WHERE WHAT IT READS IS OF BULK AT MOST 1048576: true; the input reads as it did. -/
def fnExactTokensValidUptoRow : OpenClaim := { program := "ytpdpmcllpafjbaa", sum := "3795245dc34d474b5ce65df301ab3b1bde07834d556dab3ab93cbc1f91adf60c", func := "loop.example/docalgebra/laws.FnExactTokensValid", spec := "fnExactTokensValid", inPlace := ["internal/bytealg.IndexByteString"], apart := false, narrowed := true }
def FnExactTokensValidUptoSaid : Prop := fnExactTokensValidUptoRow.holds Try.pinned (OpenSpec.upto fnExactTokensValidSpec)

/-- 'laws.FnExactCostOf', WHERE WHAT IT READS IS OF BULK AT MOST 1048576: true; the input reads as it did. -/
def fnExactCostOfUptoRow : OpenClaim := { program := "ytpdpmcllpafjbaa", sum := "3795245dc34d474b5ce65df301ab3b1bde07834d556dab3ab93cbc1f91adf60c", func := "loop.example/docalgebra/laws.FnExactCostOf", spec := "fnExactCostOf", inPlace := ["internal/bytealg.IndexByteString"], apart := false, narrowed := true }
def FnExactCostOfUptoSaid : Prop := fnExactCostOfUptoRow.holds Try.pinned (OpenSpec.upto fnExactCostOfSpec)

/-- 'laws.FnExactTokensOf', WHERE WHAT IT READS IS OF BULK AT MOST 1048576: true; the input reads as it did. -/
def fnExactTokensOfUptoRow : OpenClaim := { program := "ytpdpmcllpafjbaa", sum := "3795245dc34d474b5ce65df301ab3b1bde07834d556dab3ab93cbc1f91adf60c", func := "loop.example/docalgebra/laws.FnExactTokensOf", spec := "fnExactTokensOf", inPlace := ["internal/bytealg.IndexByteString"], recurses := true, loops := true, apart := false, narrowed := true }
def FnExactTokensOfUptoSaid : Prop := fnExactTokensOfUptoRow.holds Try.pinned (OpenSpec.upto fnExactTokensOfSpec)

/-- 'laws.FnExactDropEmpty', WHERE WHAT IT READS IS OF BULK AT MOST 1048576: true; the input reads as it did. -/
def fnExactDropEmptyUptoRow : OpenClaim := { program := "ytpdpmcllpafjbaa", sum := "3795245dc34d474b5ce65df301ab3b1bde07834d556dab3ab93cbc1f91adf60c", func := "loop.example/docalgebra/laws.FnExactDropEmpty", spec := "fnExactDropEmpty", inPlace := ["internal/bytealg.IndexByteString"], unfollowed := true, recurses := true, loops := true, apart := false, narrowed := true }
def FnExactDropEmptyUptoSaid : Prop := fnExactDropEmptyUptoRow.holds Try.pinned (OpenSpec.upto fnExactDropEmptySpec)

/-- 'laws.FnExactSizesOf', WHERE WHAT IT READS IS OF BULK AT MOST 1048576: true; the input reads as it did. -/
def fnExactSizesOfUptoRow : OpenClaim := { program := "ytpdpmcllpafjbaa", sum := "3795245dc34d474b5ce65df301ab3b1bde07834d556dab3ab93cbc1f91adf60c", func := "loop.example/docalgebra/laws.FnExactSizesOf", spec := "fnExactSizesOf", inPlace := ["internal/bytealg.IndexByteString"], apart := false, narrowed := true }
def FnExactSizesOfUptoSaid : Prop := fnExactSizesOfUptoRow.holds Try.pinned (OpenSpec.upto fnExactSizesOfSpec)

/-- 'laws.FnGapBound', WHERE WHAT IT READS IS OF BULK AT MOST 1048576: true; the input reads as it did. -/
def fnGapBoundUptoRow : OpenClaim := { program := "ytpdpmcllpafjbaa", sum := "3795245dc34d474b5ce65df301ab3b1bde07834d556dab3ab93cbc1f91adf60c", func := "loop.example/docalgebra/laws.FnGapBound", spec := "fnGapBound", inPlace := ["internal/bytealg.IndexByteString"], unfollowed := true, recurses := true, apart := false, narrowed := true }
def FnGapBoundUptoSaid : Prop := fnGapBoundUptoRow.holds Try.pinned (OpenSpec.upto fnGapBoundSpec)

/-- 'laws.FnExactPushNest', WHERE WHAT IT READS IS OF BULK AT MOST 1048576: true; the input reads as it did. -/
def fnExactPushNestUptoRow : OpenClaim := { program := "ytpdpmcllpafjbaa", sum := "3795245dc34d474b5ce65df301ab3b1bde07834d556dab3ab93cbc1f91adf60c", func := "loop.example/docalgebra/laws.FnExactPushNest", spec := "fnExactPushNest", inPlace := ["internal/bytealg.IndexByteString"], unfollowed := true, recurses := true, loops := true, apart := false, narrowed := true }
def FnExactPushNestUptoSaid : Prop := fnExactPushNestUptoRow.holds Try.pinned (OpenSpec.upto fnExactPushNestSpec)

/-- 'laws.FnExactDropGroups', WHERE WHAT IT READS IS OF BULK AT MOST 1048576: true; the input reads as it did. -/
def fnExactDropGroupsUptoRow : OpenClaim := { program := "ytpdpmcllpafjbaa", sum := "3795245dc34d474b5ce65df301ab3b1bde07834d556dab3ab93cbc1f91adf60c", func := "loop.example/docalgebra/laws.FnExactDropGroups", spec := "fnExactDropGroups", inPlace := ["internal/bytealg.IndexByteString"], unfollowed := true, recurses := true, loops := true, apart := false, narrowed := true }
def FnExactDropGroupsUptoSaid : Prop := fnExactDropGroupsUptoRow.holds Try.pinned (OpenSpec.upto fnExactDropGroupsSpec)

/-- 'laws.FnTokensValid', WHERE WHAT IT READS IS OF BULK AT MOST 1048576: true; the input reads as it did. -/
def fnTokensValidUptoRow : OpenClaim := { program := "ytpdpmcllpafjbaa", sum := "3795245dc34d474b5ce65df301ab3b1bde07834d556dab3ab93cbc1f91adf60c", func := "loop.example/docalgebra/laws.FnTokensValid", spec := "fnTokensValid", inPlace := ["internal/bytealg.IndexByteString"], recurses := true, apart := false, narrowed := true }
def FnTokensValidUptoSaid : Prop := fnTokensValidUptoRow.holds Try.pinned (OpenSpec.upto fnTokensValidSpec)

/-- 'laws.FnExactLookAhead', WHERE WHAT IT READS IS OF BULK AT MOST 1048576: true; the input reads as it did. -/
def fnExactLookAheadUptoRow : OpenClaim := { program := "ytpdpmcllpafjbaa", sum := "3795245dc34d474b5ce65df301ab3b1bde07834d556dab3ab93cbc1f91adf60c", func := "loop.example/docalgebra/laws.FnExactLookAhead", spec := "fnExactLookAhead", inPlace := ["internal/bytealg.IndexByteString"], apart := false, narrowed := true }
def FnExactLookAheadUptoSaid : Prop := fnExactLookAheadUptoRow.holds Try.pinned (OpenSpec.upto fnExactLookAheadSpec)

end Rows
end Go.Proofs.Ytpdpmcllpafjbaa

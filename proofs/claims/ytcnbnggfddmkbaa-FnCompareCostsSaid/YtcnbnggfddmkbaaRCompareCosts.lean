/- Costs are an order: for any drawn costs the law FnCompareCosts returns true and leaves its arguments as they were; no condition beyond the given row's. -/
import Derived.Test.YtcnbnggfddmkbaaRows
import Derived.Test.YtcnbnggfddmkbaaLCompareCosts2
import Derived.Test.YtcnbnggfddmkbaaRowBy
import Derived.OpenShut
import Derived.ShutString
import Derived.ChangeOld
import Derived.Below
namespace Go.Proofs.Ytcnbnggfddmkbaa.fnCompareCosts
open Go.ChangeShapes Go.WideShapes Go.ChangeAt Go.RowKit
open Go.ChangeMaps (open_string shut_string)
set_option linter.unusedVariables false
theorem own : ownKnob Try.prog.godebug = none := by kernel_rfl
theorem laidOut : laidOutB Try.prog = true := by kernel_rfl
set_option maxRecDepth 100000 in
theorem lifted (os : Os) (started : os.Started) (H : Type) (enc : TypeId × Value → H) :
    ReturnsInHanded {} Try.checked os 4 .any (Rows.fnCompareCostsSpec.pre6 enc Try.prog Try.f4 Rows.fnCompareCostsRow.domain false) (Rows.fnCompareCostsSpec.post enc Try.prog Try.f4 false true false false) := by
  refine returnsInHanded_of_change (C := Try.checked) own started (by kernel_rfl) Try.func4
    (ChangeSpec.witness6 (enc := enc) (C := Try.checked) false ⟨#[], #[.slice none 0 0, .slice none 0 0], []⟩ 8 (by kernel_rfl) (by kernel_rfl) (by kernel_rfl) (by kernel_rfl)) ?_
  intro W base args ds gs before hval0 hW hcnd _
  have hval : ∀ (j : Nat) t v, Try.f4.params[j]? = some t → args[j]? = some v → Value.okWide Try.prog W .any base t v := hval0
  have hW' := hW
  obtain ⟨p, q, hA0, hV, rfl, hfz, hnd⟩ := hW
  have hA : DataW.TrodAll enc Try.prog W 0 (fun _ => true) true Try.f4.params.toList args.toList ds p := hA0
  rw [Try.params4] at hA hval
  obtain ⟨v0, vs0, d0, ds0, p0, q0, hargs, rfl, rfl, h0, r0⟩ := trodAll_cons hA
  obtain ⟨v1, vs1, d1, ds1, p1, q1, rfl, rfl, rfl, h1, r1⟩ := trodAll_cons r0
  obtain ⟨rfl, rfl, rfl⟩ := trodAll_nil r1
  obtain rfl : args = #[v0, v1] := by cases args; simp_all
  obtain ⟨rfl, rfl⟩ := trodVars_none hV
  have k0 := h0
  have lt0 : ∀ x ∈ p0, x.block < W.heap.size := by obtain ⟨m, hm⟩ := k0; exact DataW.trod_lt m _ _ _ hm
  obtain ⟨a0, len0, cap0, rfl⟩ := okWide_slice Try.underlying28 (hval 0 28 v0 rfl rfl)
  obtain ⟨x0, e0, s0, g0⟩ : ∃ xs : List By, len0 = xs.length ∧ SlAt W (· < W.heap.size) a0 cap0 xs ∧ ∀ y ∈ xs, 0 ≤ y.v ∧ y.v ≤ 255 := by
    obtain ⟨fuel, hf⟩ := h0
    exact open_sl _ Try.underlying28 (by kernel_rfl) dec_by (by simpa [Value.cells] using hf)
  subst e0
  have k1 := h1
  have lt1 : ∀ x ∈ p1, x.block < W.heap.size := by obtain ⟨m, hm⟩ := k1; exact DataW.trod_lt m _ _ _ hm
  obtain ⟨a1, len1, cap1, rfl⟩ := okWide_slice Try.underlying28 (hval 1 28 v1 rfl rfl)
  obtain ⟨x1, e1, s1, g1⟩ : ∃ xs : List By, len1 = xs.length ∧ SlAt W (· < W.heap.size) a1 cap1 xs ∧ ∀ y ∈ xs, 0 ≤ y.v ∧ y.v ≤ 255 := by
    obtain ⟨fuel, hf⟩ := h1
    exact open_sl _ Try.underlying28 (by kernel_rfl) dec_by (by simpa [Value.cells] using hf)
  subst e1
  clear hA0 hval0
  refine (law_CmpCosts x0 a0 cap0 x1 a1 cap1 W s0 g0 s1 g1).mono fun e W' ⟨_, he, bel, hb⟩ => ?_
  subst he
  obtain rfl := hb
  exact ⟨_, rfl, _, _, _, [], _, [], hW', trodAll_mk1 (shut_bool Try.underlying4 _), (trodAll_cons_mk (Below.trod laidOut (by kernel_rfl) (of_decide_eq_true (by kernel_rfl)) k0 bel lt0) (trodAll_cons_mk (Below.trod laidOut (by kernel_rfl) (of_decide_eq_true (by kernel_rfl)) k1 bel lt1) trodAll_mk0)), rfl, bel.frame _, fun h => by cases h⟩
theorem over : Rows.fnCompareCostsRow.holds Try.pinned (OpenSpec.ofChange Rows.fnCompareCostsSpec) :=
  OpenClaim.holds_of_wide 4 Try.f4 rfl rfl rfl rfl rfl rfl rfl ⟨rfl, rfl, rfl, rfl, rfl⟩ rfl rfl rfl rfl rfl (by kernel_rfl) Try.func4 (by kernel_rfl)
    (of_decide_eq_true (by kernel_rfl)) (by unfold Func.isWrapper; first | (rw [if_pos (by decide +kernel)]; kernel_rfl) | (rw [if_neg (by decide +kernel)]; exact ⟨rfl, rfl⟩))
    (fun os started H enc _ => lifted os started H enc)
theorem proved : Rows.FnCompareCostsSaid := over
end Go.Proofs.Ytcnbnggfddmkbaa.fnCompareCosts
namespace Go.Proofs.Ytcnbnggfddmkbaa
/-- The row, under a short name, for the claim. -/
theorem fnCompareCosts_holds : Rows.FnCompareCostsSaid := fnCompareCosts.proved
#print axioms fnCompareCosts_holds
end Go.Proofs.Ytcnbnggfddmkbaa

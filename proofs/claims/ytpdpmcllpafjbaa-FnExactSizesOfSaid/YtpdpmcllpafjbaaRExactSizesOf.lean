/- For every list of tokens the program's SizesOf returns what the reference's returns, and keeps nothing of it: the law FnExactSizesOf returns true and leaves its argument as it was; no condition beyond the given row's. -/
import Derived.Test.YtpdpmcllpafjbaaRows
import Derived.Test.YtpdpmcllpafjbaaLSizesOf
import Derived.Test.YtpdpmcllpafjbaaRowTok
import Derived.OpenShut
import Derived.ShutString
import Derived.ChangeOld
import Derived.Below
namespace Go.Proofs.Ytpdpmcllpafjbaa.fnExactSizesOf
open Go.ChangeShapes Go.WideShapes Go.ChangeAt Go.RowKit
open Go.ChangeMaps (open_string shut_string)
set_option linter.unusedVariables false
theorem own : ownKnob Try.prog.godebug = none := by kernel_rfl
theorem laidOut : laidOutB Try.prog = true := by kernel_rfl
set_option maxRecDepth 100000 in
theorem lifted (os : Os) (started : os.Started) (H : Type) (enc : TypeId × Value → H) :
    ReturnsInHanded {} Try.checked os 9 .any (Rows.fnExactSizesOfSpec.pre6 enc Try.prog Try.f9 Rows.fnExactSizesOfRow.domain false) (Rows.fnExactSizesOfSpec.post enc Try.prog Try.f9 false true false false) := by
  refine returnsInHanded_of_change (C := Try.checked) own started (by kernel_rfl) Try.func9
    (ChangeSpec.witness6 (enc := enc) (C := Try.checked) false ⟨#[], #[.slice none 0 0], []⟩ 8 (by kernel_rfl) (by kernel_rfl) (by kernel_rfl) (by kernel_rfl)) ?_
  intro W base args ds gs before hval0 hW hcnd _
  have hval : ∀ (j : Nat) t v, Try.f9.params[j]? = some t → args[j]? = some v → Value.okWide Try.prog W .any base t v := hval0
  have hW' := hW
  obtain ⟨p, q, hA0, hV, rfl, hfz, hnd⟩ := hW
  have hA : DataW.TrodAll enc Try.prog W 0 (fun _ => true) true Try.f9.params.toList args.toList ds p := hA0
  rw [Try.params9] at hA hval
  obtain ⟨v0, vs0, d0, ds0, p0, q0, hargs, rfl, rfl, h0, r0⟩ := trodAll_cons hA
  obtain ⟨rfl, rfl, rfl⟩ := trodAll_nil r0
  obtain rfl : args = #[v0] := by cases args; simp_all
  obtain ⟨rfl, rfl⟩ := trodVars_none hV
  have k0 := h0
  have lt0 : ∀ x ∈ p0, x.block < W.heap.size := by obtain ⟨m, hm⟩ := k0; exact DataW.trod_lt m _ _ _ hm
  obtain ⟨a0, len0, cap0, rfl⟩ := okWide_slice Try.underlying32 (hval 0 32 v0 rfl rfl)
  obtain ⟨x0, e0, s0, g0⟩ : ∃ xs : List Tok, len0 = xs.length ∧ SlAt W (· < W.heap.size) a0 cap0 xs ∧ ∀ y ∈ xs, y.text.size ≤ maxLen := by
    obtain ⟨fuel, hf⟩ := h0
    obtain ⟨xs, h1, h2, h3⟩ := open_sl _ Try.underlying32 (by kernel_rfl) dec_tok (by simpa [Value.cells] using hf)
    exact ⟨xs, h1, h2, fun y hy => (h3 y hy).1⟩
  subst e0
  clear hA0 hval0
  refine (law_SizesOf x0 a0 cap0 W s0 g0).mono fun e W' ⟨_, he, bel, hb⟩ => ?_
  subst he
  obtain rfl := hb
  exact ⟨_, rfl, _, _, _, [], _, [], hW', trodAll_mk1 (shut_bool Try.underlying4 _), (trodAll_cons_mk (Below.trod laidOut (by kernel_rfl) (of_decide_eq_true (by kernel_rfl)) k0 bel lt0) trodAll_mk0), rfl, bel.frame _, fun h => by cases h⟩
theorem over : Rows.fnExactSizesOfRow.holds Try.pinned (OpenSpec.ofChange Rows.fnExactSizesOfSpec) :=
  OpenClaim.holds_of_wide 9 Try.f9 rfl rfl rfl rfl rfl rfl rfl ⟨rfl, rfl, rfl, rfl, rfl⟩ rfl rfl rfl rfl rfl (by kernel_rfl) Try.func9 (by kernel_rfl)
    (of_decide_eq_true (by kernel_rfl)) (by unfold Func.isWrapper; first | (rw [if_pos (by decide +kernel)]; kernel_rfl) | (rw [if_neg (by decide +kernel)]; exact ⟨rfl, rfl⟩))
    (fun os started H enc _ => lifted os started H enc)
theorem proved : Rows.FnExactSizesOfSaid := over
end Go.Proofs.Ytpdpmcllpafjbaa.fnExactSizesOf
namespace Go.Proofs.Ytpdpmcllpafjbaa
/-- The row, under a short name, for the claim. -/
theorem fnExactSizesOf_holds : Rows.FnExactSizesOfSaid := fnExactSizesOf.proved
#print axioms fnExactSizesOf_holds
end Go.Proofs.Ytpdpmcllpafjbaa

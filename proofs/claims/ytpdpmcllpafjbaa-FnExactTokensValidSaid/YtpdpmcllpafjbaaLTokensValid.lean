/- For every list of tokens: the law FnExactTokensValid returns true, and writes nothing that was there. -/
import Derived.Test.YtpdpmcllpafjbaaTvi
namespace Go.Proofs.Ytpdpmcllpafjbaa
open Go.RowKit
set_option linter.unusedVariables false
set_option linter.unusedSimpArgs false

set_option maxHeartbeats 4000000 in
set_option maxRecDepth 100000 in
theorem law_TokensValid (xs : List Tok) (A : Option Addr) (cap : Nat) (w : World) (h : SlAt w (· < w.heap.size) A cap xs) (ht : ∀ t ∈ xs, t.text.size ≤ maxLen) :
    Calls Try.prog 5 #[.slice A xs.length cap] w (Post w (BoolP true)) := by
  have hl := h.1
  have hm := h.2.1
  unfold maxLen at hm
  go_enter Try.func5, Try.ntmps5
  go_wp2_with fail
  refine (szTokenS xs A cap _ _ h ht (by omega) (by omega)).mono ?_
  rintro e w1 ⟨_, rfl, hb1, r, rfl, hr⟩
  by_cases hr0 : r < 0
  · go_wp2_with fail
    go_ret
    exact .mk hb1 (.mk rfl)
  · have hlen : xs.length ≤ 1048576 := by
      have h1 := hr (by omega)
      have h2 : 0 ≤ tokSize xs := by
        unfold tokSize
        clear hr h1 h ht hl hm
        induction xs with
        | nil => simp
        | cons t ts ih => simp only [List.map_cons, List.sum_cons]; omega
      omega
    clear hr
    have ha1 := h.up hb1 hb1.size
    go_wp2_with fail
    refine (toTokenS xs A cap _ ha1 hlen).mono ?_
    rintro e w2 ⟨v2, rfl, hb2, ho2⟩
    have ha2 := ha1.up hb2 hb2.size
    have hs2 := hb2.size
    obtain ⟨A2, c2, rfl, hx2⟩ := ho2.arg
    go_wp2_with fail
    refine (spec_TokensValid xs A2 c2 _ hx2 ht).mono ?_
    rintro e w3 ⟨_, rfl, hb3, rfl⟩
    have ha3 := ha2.up hb3 hb3.size
    go_wp2_with fail
    refine (toTokenS xs A cap _ ha3 hlen).mono ?_
    rintro e w4 ⟨v4, rfl, hb4, ho4⟩
    have ha4 := ha3.up hb4 hb4.size
    obtain ⟨A4, c4, rfl, hx4⟩ := ho4.arg
    go_wp2_with fail
    refine (impl_TokensValid xs A4 c4 _ hx4 ht).mono ?_
    rintro e w5 ⟨_, rfl, hb5, rfl⟩
    have ha5 := ha4.up hb5 hb5.size
    have hx5 := hx4.up hb5 hb5.size
    cases hv : tokensB xs
    all_goals
      have HV := Lib.hid hv; clear hv
      go_wp2_with fail
      refine (toTokenS xs A cap _ ha5 hlen).mono ?_
      rintro e w6 ⟨v6, rfl, hb6, ho6⟩
      have hx6 := hx5.up hb6 hb6.size
      obtain ⟨A6, c6, rfl, hy6⟩ := ho6.arg
      go_wp2_with fail
      refine (eqTokenS xs xs A4 A6 c4 c6 _ hx6 hy6).mono ?_
      rw [decide_eq_true rfl]
      rintro e w7 ⟨_, rfl, hb7, rfl⟩
      go_wp2_with fail
      go_ret
      exact .mk ((((((hb1.trans (hb2.mono hb1.size)).trans (hb3.mono (by have := hb1.size; omega))).trans (hb4.mono (by have := hb1.size; have := hb3.size; omega))).trans (hb5.mono (by have := hb1.size; have := hb3.size; have := hb4.size; omega))).trans (hb6.mono (by have := hb1.size; have := hb3.size; have := hb4.size; have := hb5.size; omega))).trans (hb7.mono (by have := hb1.size; have := hb3.size; have := hb4.size; have := hb5.size; have := hb6.size; omega))) (.mk rfl)
end Go.Proofs.Ytpdpmcllpafjbaa

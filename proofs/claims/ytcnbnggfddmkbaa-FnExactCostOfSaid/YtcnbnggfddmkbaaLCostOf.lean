/- For every list of lines and every width: the law FnExactCostOf returns true, and writes nothing that was there. -/
import Derived.Test.YtcnbnggfddmkbaaCost
namespace Go.Proofs.Ytcnbnggfddmkbaa
open Go.RowKit
set_option linter.unusedVariables false
set_option linter.unusedSimpArgs false

theorem eqCost (a0 a1 b0 b1 : Int) (w : World) :
    Calls Try.prog 22 #[.agg #[.int .i64 a0, .int .i64 a1], .agg #[.int .i64 b0, .int .i64 b1]] w (Post w (BoolP (decide (a0 = b0 ∧ a1 = b1)))) := by
  go_enter Try.func22, Try.ntmps22
  go_wp2
  all_goals
    go_ret
    refine .mk (by repeat' (first | exact Below.refl _ _ | assumption | (refine Below.drew ?_) | (refine below_draws ?_ _) | (refine Below.alloc ?_ ?_ _) | (refine Below.setCell ?_ ?_ _) | (refine Below.trans ?_ (Below.mono (by assumption) ?_)) | omega | (simp; done) | (simp; omega))) (.mk ?_)
    go_tidy
    simp only [bne_iff_ne, bne_eq_false_iff_eq] at *
    simp [*]

theorem rowSize_pos (xs : List Rw) : 0 ≤ rowSize xs := by
  unfold rowSize
  induction xs with
  | nil => simp
  | cons t ts ih => simp only [List.map_cons, List.sum_cons]; omega

set_option maxHeartbeats 4000000 in
set_option maxRecDepth 100000 in
theorem law_CostOf (xs : List Rw) (A : Option Addr) (cap : Nat) (wd : Int) (w : World) (h : SlAt w (· < w.heap.size) A cap xs) (ht : ∀ t ∈ xs, t.text.size ≤ maxLen) (hwd : (Lit.int .i64 wd).wf = true) :
    Calls Try.prog 6 #[.slice A xs.length cap, .int .i64 wd] w (Post w (BoolP true)) := by
  have hl := h.1
  have hm := h.2.1
  unfold maxLen at hm
  go_enter Try.func6, Try.ntmps6
  go_wp2_with fail
  refine (szRowS xs A cap _ _ h ht (by omega) (by omega)).mono ?_
  rintro e w1 ⟨_, rfl, hb1, r, rfl, hr⟩
  by_cases hr0 : r < 0
  · go_wp2_with fail
    go_ret
    exact .mk hb1 (.mk rfl)
  · have hlen : xs.length ≤ 1048576 := by
      have h1 := hr (by omega)
      have h2 := rowSize_pos xs
      omega
    clear hr
    have ha1 := h.up hb1 hb1.size
    go_wp2_with fail
    refine (toRowS xs A cap _ ha1 hlen).mono ?_
    rintro e w2 ⟨v2, rfl, hb2, ho2⟩
    have ha2 := ha1.up hb2 hb2.size
    obtain ⟨A2, c2, rfl, hx2⟩ := ho2.arg
    go_wp2_with fail
    obtain ⟨ca, cb, hcost⟩ : ∃ a b, CostV (costOf xs wd) = .agg #[.int .i64 a, .int .i64 b] := ⟨_, _, rfl⟩
    have HC := Lib.hid hcost; clear hcost
    have hspec := spec_CostOf xs A2 c2 wd _ hx2 ht
    rw [HC.out] at hspec
    refine hspec.mono ?_
    clear hspec
    rintro e w3 ⟨_, rfl, hb3, rfl⟩
    have ha3 := ha2.up hb3 hb3.size
    go_wp2_with fail
    have hA3 : Below w3.heap.size w3 (w3.alloc (.cells #[.int .i64 ca, .int .i64 cb] 25)) := .alloc (.refl _ _) (Nat.le_refl _) _
    have ha4 := ha3.up hA3 hA3.size
    refine (toRowS xs A cap _ ha4 hlen).mono ?_
    rintro e w5 ⟨v5, rfl, hb5, ho5⟩
    have ha5 := ha4.up hb5 hb5.size
    have hs5 : w3.heap.size < w5.heap.size := by have := hb5.size; simp at this; omega
    have k0 : w5.cell? ⟨w3.heap.size, 0, none⟩ = some (.int .i64 ca) := (hb5.cell (p := ⟨w3.heap.size, 0, none⟩) (by simp)).trans (cell_of_row _ _ 0 _ _ (0, 0) (heap_alloc_new w3 _))
    have k1 : w5.cell? ⟨w3.heap.size, 1, none⟩ = some (.int .i64 cb) := (hb5.cell (p := ⟨w3.heap.size, 1, none⟩) (by simp)).trans (cell_of_row _ _ 1 _ _ (0, 0) (heap_alloc_new w3 _))
    obtain ⟨A5, c5, rfl, hx5⟩ := ho5.arg
    go_wp2_with fail
    have himp := impl_CostOf xs A5 c5 wd _ hx5 ht
    rw [HC.out] at himp
    refine himp.mono ?_
    clear himp
    rintro e w6 ⟨_, rfl, hb6, rfl⟩
    have ha6 := ha5.up hb6 hb6.size
    have hx6 := hx5.up hb6 hb6.size
    have j0 := cell_keep hb6 hs5 k0
    have j1 := cell_keep hb6 hs5 k1
    have hs6 : w3.heap.size < w6.heap.size := by have := hb6.size; omega
    clear k0 k1
    cases hv : costB xs wd
    all_goals
      have HV := Lib.hid hv; clear hv
      go_wp2_with fail
      refine (eqCost ca cb ca cb _).mono ?_
      rw [decide_eq_true ⟨rfl, rfl⟩]
      rintro e w7 ⟨_, rfl, hb7, rfl⟩
      have hA6 : Below w6.heap.size w6 (w6.alloc (.cells #[.int .i64 ca, .int .i64 cb] 25)) := .alloc (.refl _ _) (Nat.le_refl _) _
      have ha7 := (ha6.up hA6 hA6.size).up hb7 hb7.size
      have hx7 := (hx6.up hA6 hA6.size).up hb7 hb7.size
      go_wp2_with fail
      refine (toRowS xs A cap _ ha7 hlen).mono ?_
      rintro e w8 ⟨v8, rfl, hb8, ho8⟩
      have hx8 := hx7.up hb8 hb8.size
      obtain ⟨A8, c8, rfl, hy8⟩ := ho8.arg
      go_wp2_with fail
      refine (eqRowS xs xs A5 A8 c5 c8 _ hx8 hy8).mono ?_
      rw [decide_eq_true rfl]
      rintro e w9 ⟨_, rfl, hb9, rfl⟩
      go_wp2_with fail
      go_ret
      exact .mk (below_and (below_and (below_and (below_and (below_and (below_and (below_and (below_and (below_and hb1 hb2) hb3) hA3) hb5) hb6) hA6) hb7) hb8) hb9) (.mk rfl)
end Go.Proofs.Ytcnbnggfddmkbaa

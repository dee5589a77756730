/- Costs are compared, by the program and by the reference. -/
import Derived.Test.YtcnbnggfddmkbaaBase
import Derived.Test.YtcnbnggfddmkbaaProg
namespace Go.Proofs.Ytcnbnggfddmkbaa
open Go.RowKit
set_option linter.unusedVariables false
set_option linter.unusedSimpArgs false

def IntV (n : Int) (v : Value) (_ : World) : Prop := v = .int .i64 n
theorem IntV.mk {n m : Int} {w : World} (h : m = n) : IntV n (.int .i64 m) w := by rw [h]; rfl
/-- The order of costs. -/
def cmpC (a0 a1 b0 b1 : Int) : Int := if a0 < b0 ∨ a0 = b0 ∧ a1 < b1 then -1 else if a0 = b0 ∧ a1 = b1 then 0 else 1

theorem spec_CompareCosts (a0 a1 b0 b1 : Int) (w : World) :
    Calls Try.prog 9 #[.agg #[.int .i64 a0, .int .i64 a1], .agg #[.int .i64 b0, .int .i64 b1]] w (Post w (IntV (cmpC a0 a1 b0 b1))) := by
  by_cases h1 : a0 < b0
  · go_enter Try.func9, Try.ntmps9
    go_wp2
    all_goals
      go_ret
      refine .mk (by repeat' (first | exact Below.refl _ _ | assumption | (refine Below.drew ?_) | (refine below_draws ?_ _) | (refine Below.alloc ?_ ?_ _) | (refine Below.setCell ?_ ?_ _) | (refine below_and ?_ (by assumption)) | (refine Below.trans ?_ (Below.mono (by assumption) ?_)) | omega | (simp; done) | (simp; omega))) (.mk ?_)
      go_tidy
      unfold cmpC
      first | (rw [if_pos (by omega)]; done) | (rw [if_neg (by omega), if_pos (by omega)]; done) | (rw [if_neg (by omega), if_neg (by omega)]; done)
  · by_cases h2 : a0 = b0
    · subst h2
      by_cases h3 : a1 = b1
      · subst h3
        go_enter Try.func9, Try.ntmps9
        go_wp2
        all_goals
          go_ret
          refine .mk (by repeat' (first | exact Below.refl _ _ | assumption | (refine Below.drew ?_) | (refine below_draws ?_ _) | (refine Below.alloc ?_ ?_ _) | (refine Below.setCell ?_ ?_ _) | (refine below_and ?_ (by assumption)) | (refine Below.trans ?_ (Below.mono (by assumption) ?_)) | omega | (simp; done) | (simp; omega))) (.mk ?_)
          go_tidy
          unfold cmpC
          first | (rw [if_pos (by omega)]; done) | (rw [if_neg (by omega), if_pos (by omega)]; done) | (rw [if_neg (by omega), if_neg (by omega)]; done)
      · have h3' : (a1 == b1) = false := by simpa using h3
        go_enter Try.func9, Try.ntmps9
        go_wp2
        all_goals
          go_ret
          refine .mk (by repeat' (first | exact Below.refl _ _ | assumption | (refine Below.drew ?_) | (refine below_draws ?_ _) | (refine Below.alloc ?_ ?_ _) | (refine Below.setCell ?_ ?_ _) | (refine below_and ?_ (by assumption)) | (refine Below.trans ?_ (Below.mono (by assumption) ?_)) | omega | (simp; done) | (simp; omega))) (.mk ?_)
          go_tidy
          unfold cmpC
          first | (rw [if_pos (by omega)]; done) | (rw [if_neg (by omega), if_pos (by omega)]; done) | (rw [if_neg (by omega), if_neg (by omega)]; done)
    · have h2' : (a0 == b0) = false := by simpa using h2
      go_enter Try.func9, Try.ntmps9
      go_wp2
      all_goals
        go_ret
        refine .mk (by repeat' (first | exact Below.refl _ _ | assumption | (refine Below.drew ?_) | (refine below_draws ?_ _) | (refine Below.alloc ?_ ?_ _) | (refine Below.setCell ?_ ?_ _) | (refine below_and ?_ (by assumption)) | (refine Below.trans ?_ (Below.mono (by assumption) ?_)) | omega | (simp; done) | (simp; omega))) (.mk ?_)
        go_tidy
        unfold cmpC
        first | (rw [if_pos (by omega)]; done) | (rw [if_neg (by omega), if_pos (by omega)]; done) | (rw [if_neg (by omega), if_neg (by omega)]; done)

theorem cmp_Compare (a b : Int) (w : World) :
    Calls Try.prog 37 #[.int .i64 a, .int .i64 b] w fun e w' => e = .returned (.int .i64 (if a < b then -1 else if b < a then 1 else 0)) ∧ w' = w := by
  go_enter Try.func37, Try.ntmps37
  go_wp2
  all_goals
    go_ret
    refine ⟨?_, rfl⟩
    go_tidy
    congr 2
    all_goals first | (rw [if_pos (by omega)]; done) | (rw [if_neg (by omega), if_pos (by omega)]; done) | (rw [if_neg (by omega), if_neg (by omega)]; done)

theorem impl_CompareCosts (a0 a1 b0 b1 : Int) (w : World) :
    Calls Try.prog 11 #[.agg #[.int .i64 a0, .int .i64 a1], .agg #[.int .i64 b0, .int .i64 b1]] w (Post w (IntV (cmpC a0 a1 b0 b1))) := by
  by_cases h1 : a0 < b0
  · go_enter Try.func11, Try.ntmps11
    go_wp2
    all_goals
      go_ret
      refine .mk (by repeat' (first | exact Below.refl _ _ | assumption | (refine Below.drew ?_) | (refine below_draws ?_ _) | (refine Below.alloc ?_ ?_ _) | (refine Below.setCell ?_ ?_ _) | (refine below_and ?_ (by assumption)) | (refine Below.trans ?_ (Below.mono (by assumption) ?_)) | omega | (simp; done) | (simp; omega))) (.mk ?_)
      go_tidy
      unfold cmpC
      first | (rw [if_pos (by omega)]; done) | (rw [if_neg (by omega), if_pos (by omega)]; done) | (rw [if_neg (by omega), if_neg (by omega)]; done)
  · by_cases h2 : a0 = b0
    · subst h2
      by_cases h3 : a1 = b1
      · subst h3
        go_enter Try.func11, Try.ntmps11
        go_wp2
        all_goals
          go_ret
          refine .mk (by repeat' (first | exact Below.refl _ _ | assumption | (refine Below.drew ?_) | (refine below_draws ?_ _) | (refine Below.alloc ?_ ?_ _) | (refine Below.setCell ?_ ?_ _) | (refine below_and ?_ (by assumption)) | (refine Below.trans ?_ (Below.mono (by assumption) ?_)) | omega | (simp; done) | (simp; omega))) (.mk ?_)
          go_tidy
          unfold cmpC
          first | (rw [if_pos (by omega)]; done) | (rw [if_neg (by omega), if_pos (by omega)]; done) | (rw [if_neg (by omega), if_neg (by omega)]; done)
      · have h3' : (a1 == b1) = false := by simpa using h3
        go_enter Try.func11, Try.ntmps11
        go_wp2
        all_goals
          go_ret
          refine .mk (by repeat' (first | exact Below.refl _ _ | assumption | (refine Below.drew ?_) | (refine below_draws ?_ _) | (refine Below.alloc ?_ ?_ _) | (refine Below.setCell ?_ ?_ _) | (refine below_and ?_ (by assumption)) | (refine Below.trans ?_ (Below.mono (by assumption) ?_)) | omega | (simp; done) | (simp; omega))) (.mk ?_)
          go_tidy
          unfold cmpC
          first | (rw [if_pos (by omega)]; done) | (rw [if_neg (by omega), if_pos (by omega)]; done) | (rw [if_neg (by omega), if_neg (by omega)]; done)
    · have h2' : (a0 == b0) = false := by simpa using h2
      go_enter Try.func11, Try.ntmps11
      go_wp2
      all_goals
        go_ret
        refine .mk (by repeat' (first | exact Below.refl _ _ | assumption | (refine Below.drew ?_) | (refine below_draws ?_ _) | (refine Below.alloc ?_ ?_ _) | (refine Below.setCell ?_ ?_ _) | (refine below_and ?_ (by assumption)) | (refine Below.trans ?_ (Below.mono (by assumption) ?_)) | omega | (simp; done) | (simp; omega))) (.mk ?_)
        go_tidy
        unfold cmpC
        first | (rw [if_pos (by omega)]; done) | (rw [if_neg (by omega), if_pos (by omega)]; done) | (rw [if_neg (by omega), if_neg (by omega)]; done)

theorem toCost (a b : Int) (w : World) :
    Calls Try.prog 10 #[.agg #[.int .i64 a, .int .i64 b]] w (Post w fun v _ => v = .agg #[.int .i64 a, .int .i64 b]) := by
  go_enter Try.func10, Try.ntmps10
  go_wp2
  exact bodyPost_ret (v := .agg #[.int .i64 a, .int .i64 b]) (by simp [results, Try.results10, go_sem]) rfl (.mk (by repeat' (first | exact Below.refl _ _ | assumption | (refine Below.drew ?_) | (refine below_draws ?_ _) | (refine Below.alloc ?_ ?_ _) | (refine Below.setCell ?_ ?_ _) | (refine below_and ?_ (by assumption)) | (refine Below.trans ?_ (Below.mono (by assumption) ?_)) | omega | (simp; done) | (simp; omega))) rfl)

set_option maxHeartbeats 4000000 in
theorem law_CompareCosts (a0 a1 b0 b1 : Int) (w : World) :
    Calls Try.prog 3 #[.agg #[.int .i64 a0, .int .i64 a1], .agg #[.int .i64 b0, .int .i64 b1]] w (Post w (BoolP true)) := by
  go_enter Try.func3, Try.ntmps3
  go_wp2_with fail
  go_region_held3 (fun w1 => w1.cell? ⟨w.heap.size, 0, none⟩ = some (.int .i64 a0) ∧ w1.cell? ⟨w.heap.size, 1, none⟩ = some (.int .i64 a1) ∧ w1.cell? ⟨w.heap.size + 1, 0, none⟩ = some (.int .i64 b0) ∧ w1.cell? ⟨w.heap.size + 1, 1, none⟩ = some (.int .i64 b1) ∧ w.heap.size + 2 ≤ w1.heap.size) (first | go_keep | ((try dsimp only); (repeat' apply And.intro) <;> first | assumption | exact cell_keep hb' (by first | omega | (simp; done) | (simp; omega)) (by first | assumption | (simp; done) | (simp [*]; done)) | exact Nat.le_trans (by first | assumption | (simp; done) | (simp [*]; done) | (simp; omega)) hb'.size | go_keep)) (first | (go_at_call 10; refine (toCost _ _ _).mono ?_; rintro e w' ⟨_, rfl, hb', rfl⟩) | (go_at_call 9; refine (spec_CompareCosts _ _ _ _ _).mono ?_; rintro e w' ⟨_, rfl, hb', rfl⟩))
  go_wp2_with fail
  go_region_held3 (fun w1 => w1.cell? ⟨w.heap.size, 0, none⟩ = some (.int .i64 a0) ∧ w1.cell? ⟨w.heap.size, 1, none⟩ = some (.int .i64 a1) ∧ w1.cell? ⟨w.heap.size + 1, 0, none⟩ = some (.int .i64 b0) ∧ w1.cell? ⟨w.heap.size + 1, 1, none⟩ = some (.int .i64 b1) ∧ w.heap.size + 2 ≤ w1.heap.size) (first | go_keep | ((try dsimp only); (repeat' apply And.intro) <;> first | assumption | exact cell_keep hb' (by first | omega | (simp; done) | (simp; omega)) (by first | assumption | (simp; done) | (simp [*]; done)) | exact Nat.le_trans (by first | assumption | (simp; done) | (simp [*]; done) | (simp; omega)) hb'.size | go_keep)) (first | (go_at_call 10; refine (toCost _ _ _).mono ?_; rintro e w' ⟨_, rfl, hb', rfl⟩) | (go_at_call 11; refine (impl_CompareCosts _ _ _ _ _).mono ?_; rintro e w' ⟨_, rfl, hb', rfl⟩))
  go_wp2_with fail
  all_goals
    go_ret
    exact .mk (by repeat' (first | exact Below.refl _ _ | assumption | (refine Below.drew ?_) | (refine below_draws ?_ _) | (refine Below.alloc ?_ ?_ _) | (refine Below.setCell ?_ ?_ _) | (refine below_and ?_ (by assumption)) | (refine Below.trans ?_ (Below.mono (by assumption) ?_)) | omega | (simp; done) | (simp; omega))) (.mk rfl)
end Go.Proofs.Ytcnbnggfddmkbaa

/- For all drawn costs: the law FnCompareCosts returns true, and writes nothing that was there. -/
import Derived.Test.YtcnbnggfddmkbaaCmp
import Derived.Test.YtcnbnggfddmkbaaDrawCmp
namespace Go.Proofs.Ytcnbnggfddmkbaa
open Go.RowKit
set_option linter.unusedVariables false
set_option linter.unusedSimpArgs false

theorem Box2'.below {w w' : World} {b : Nat} {r1 r2 : Int} (h : Box2' w b r1 r2) (ho : Below w.heap.size w w') : Box2' w' b r1 r2 := by
  obtain ⟨h0, h1, h2⟩ := h
  have hb := ho.block b h0
  exact ⟨by have := ho.size; omega, (World.cell?_of_block (w := w) (a := ⟨b, 0, none⟩) hb).trans h1, (World.cell?_of_block (w := w) (a := ⟨b, 1, none⟩) hb).trans h2⟩

theorem cmp_neg (a0 a1 b0 b1 : Int) : cmpC a0 a1 b0 b1 = - cmpC b0 b1 a0 a1 := by
  unfold cmpC
  by_cases h1 : a0 < b0 ∨ a0 = b0 ∧ a1 < b1
  · rw [if_pos h1, if_neg (by omega), if_neg (by omega)]
  · by_cases h2 : a0 = b0 ∧ a1 = b1
    · rw [if_neg h1, if_pos h2, if_neg (by omega), if_pos (by omega)]; rfl
    · rw [if_neg h1, if_neg h2, if_pos (by omega)]; rfl
theorem cmp_zero (a0 a1 b0 b1 : Int) : (cmpC a0 a1 b0 b1 == 0) = (a0 == b0 && a1 == b1) := by
  rw [Bool.eq_iff_iff]
  simp only [beq_iff_eq, Bool.and_eq_true]
  unfold cmpC
  by_cases h1 : a0 < b0 ∨ a0 = b0 ∧ a1 < b1
  · rw [if_pos h1]; omega
  · by_cases h2 : a0 = b0 ∧ a1 = b1
    · rw [if_neg h1, if_pos h2]; omega
    · rw [if_neg h1, if_neg h2]; omega
theorem cmp_trans {a0 a1 b0 b1 c0 c1 : Int} (h1 : cmpC a0 a1 b0 b1 ≤ 0) (h2 : cmpC b0 b1 c0 c1 ≤ 0) : cmpC a0 a1 c0 c1 ≤ 0 := by
  unfold cmpC at *
  split at h1 <;> split at h2 <;> split <;> (try split) <;> (try split at h1) <;> (try split at h2) <;> omega
theorem cmp_bd (a0 a1 b0 b1 : Int) : -1 ≤ cmpC a0 a1 b0 b1 ∧ cmpC a0 a1 b0 b1 ≤ 1 := by
  unfold cmpC; split
  · omega
  · split <;> omega

set_option maxHeartbeats 8000000 in
set_option maxRecDepth 100000 in
theorem law_CmpCosts (xs : List By) (A : Option Addr) (cap : Nat) (ys : List By) (A2 : Option Addr) (cap2 : Nat) (w : World) (h : SlAt w (· < w.heap.size) A cap xs) (hv : ∀ x ∈ xs, 0 ≤ x.v ∧ x.v ≤ 255)
    (h2 : SlAt w (· < w.heap.size) A2 cap2 ys) (hv2 : ∀ x ∈ ys, 0 ≤ x.v ∧ x.v ≤ 255) :
    Calls Try.prog 4 #[.slice A xs.length cap, .slice A2 ys.length cap2] w (Post w (BoolP true)) := by
  have hl := h.1
  have hm := h.2.1
  have hl2 := h2.1
  have hm2 := h2.2.1
  unfold maxLen at hm hm2
  by_cases hbig : xs.length ≤ 1048576 ∧ ys.length ≤ 1048576
  · obtain ⟨hb1, hb2⟩ := hbig
    go_enter Try.func4, Try.ntmps4
    go_wp2_with fail
    refine (spec_DrawCompareCosts xs A cap _ h hv).mono ?_
    rintro e w1 ⟨_, rfl, b1, a0, a1, b0, b1', rfl⟩
    go_wp2_with fail
    have hA1 : Below w1.heap.size w1 ((w1.alloc (.cells #[.int .i64 a0, .int .i64 a1] 25)).alloc (.cells #[.int .i64 b0, .int .i64 b1'] 25)) := (by repeat' (first | exact Below.refl _ _ | assumption | (refine Below.drew ?_) | (refine below_draws ?_ _) | (refine Below.alloc ?_ ?_ _) | (refine Below.setCell ?_ ?_ _) | (refine below_and ?_ (by assumption)) | (refine Below.trans ?_ (Below.mono (by assumption) ?_)) | omega | (simp; done) | (simp; omega)))
    have hq2 := (h2.up b1 b1.size).up hA1 hA1.size
    refine (spec_DrawCompareCosts ys A2 cap2 _ hq2 hv2).mono ?_
    rintro e w2 ⟨_, rfl, b2, c0, c1, d0, d1, rfl⟩
    have X0 : Box2' w2 w1.heap.size a0 a1 := Box2'.below (w := (w1.alloc (.cells #[.int .i64 a0, .int .i64 a1] 25)).alloc (.cells #[.int .i64 b0, .int .i64 b1'] 25)) ⟨by simp; omega, by simp, by simp⟩ b2
    have Y0 : Box2' w2 (w1.heap.size + 1) b0 b1' := Box2'.below (w := (w1.alloc (.cells #[.int .i64 a0, .int .i64 a1] 25)).alloc (.cells #[.int .i64 b0, .int .i64 b1'] 25)) ⟨by simp, by simp, by simp⟩ b2
    have hA2 : Below w2.heap.size w2 ((w2.alloc (.cells #[.int .i64 c0, .int .i64 c1] 25)).alloc (.cells #[.int .i64 d0, .int .i64 d1] 25)) := (by repeat' (first | exact Below.refl _ _ | assumption | (refine Below.drew ?_) | (refine below_draws ?_ _) | (refine Below.alloc ?_ ?_ _) | (refine Below.setCell ?_ ?_ _) | (refine below_and ?_ (by assumption)) | (refine Below.trans ?_ (Below.mono (by assumption) ?_)) | omega | (simp; done) | (simp; omega)))
    have HB0 := below_and (below_and (below_and b1 hA1) b2) hA2
    have X1 := X0.below hA2
    have Y1 := Y0.below hA2
    have Z1 : Box2' ((w2.alloc (.cells #[.int .i64 c0, .int .i64 c1] 25)).alloc (.cells #[.int .i64 d0, .int .i64 d1] 25)) w2.heap.size c0 c1 := ⟨by simp; omega, by simp, by simp⟩
    obtain ⟨-, x1, x2⟩ := id X1
    obtain ⟨-, y1, y2⟩ := id Y1
    obtain ⟨-, z1, z2⟩ := id Z1
    clear X0 Y0
    have bd := cmp_bd a0 a1 b0 b1'
    have bd2 := cmp_bd b0 b1' a0 a1
    have E2 : (cmpC a0 a1 b0 b1' != -cmpC b0 b1' a0 a1) = false := by rw [← cmp_neg]; simp
    have E3 := cmp_zero a0 a1 b0 b1'
    by_cases g1 : cmpC a0 a1 b0 b1' > 0
    · go_wp2_with (first | (go_at_call 11; refine (impl_CompareCosts _ _ _ _ _).mono ?_; rintro e w' ⟨_, rfl, hb', rfl⟩; have HB := below_and (w := w) (by assumption) hb'; have X := Box2'.below (by assumption : Box2' _ w1.heap.size a0 a1) hb'; have Y := Box2'.below (by assumption : Box2' _ (w1.heap.size + 1) b0 b1') hb'; have Z := Box2'.below (by assumption : Box2' _ w2.heap.size c0 c1) hb'; obtain ⟨-, x1, x2⟩ := id X; obtain ⟨-, y1, y2⟩ := id Y; obtain ⟨-, z1, z2⟩ := id Z) | (go_at_call 9; refine (spec_CompareCosts _ _ _ _ _).mono ?_; rintro e w' ⟨_, rfl, hb', rfl⟩; have HB := below_and (w := w) (by assumption) hb'; have X := Box2'.below (by assumption : Box2' _ w1.heap.size a0 a1) hb'; have Y := Box2'.below (by assumption : Box2' _ (w1.heap.size + 1) b0 b1') hb'; have Z := Box2'.below (by assumption : Box2' _ w2.heap.size c0 c1) hb'; obtain ⟨-, x1, x2⟩ := id X; obtain ⟨-, y1, y2⟩ := id Y; obtain ⟨-, z1, z2⟩ := id Z))
      all_goals first | (go_ret; exact .mk HB (.mk rfl)) | (go_ret; refine .mk HB (.mk ?_); go_tidy; clear HB X Y Z; simp [*]; done) | (go_ret; refine .mk HB (.mk ?_); go_tidy; clear HB X Y Z; simp; omega) | (exfalso; go_tidy; clear HB X Y Z; simp_all; done) | (exfalso; go_tidy; clear HB X Y Z; simp_all; omega)
    · by_cases g2 : cmpC b0 b1' c0 c1 > 0
      · go_wp2_with (first | (go_at_call 11; refine (impl_CompareCosts _ _ _ _ _).mono ?_; rintro e w' ⟨_, rfl, hb', rfl⟩; have HB := below_and (w := w) (by assumption) hb'; have X := Box2'.below (by assumption : Box2' _ w1.heap.size a0 a1) hb'; have Y := Box2'.below (by assumption : Box2' _ (w1.heap.size + 1) b0 b1') hb'; have Z := Box2'.below (by assumption : Box2' _ w2.heap.size c0 c1) hb'; obtain ⟨-, x1, x2⟩ := id X; obtain ⟨-, y1, y2⟩ := id Y; obtain ⟨-, z1, z2⟩ := id Z) | (go_at_call 9; refine (spec_CompareCosts _ _ _ _ _).mono ?_; rintro e w' ⟨_, rfl, hb', rfl⟩; have HB := below_and (w := w) (by assumption) hb'; have X := Box2'.below (by assumption : Box2' _ w1.heap.size a0 a1) hb'; have Y := Box2'.below (by assumption : Box2' _ (w1.heap.size + 1) b0 b1') hb'; have Z := Box2'.below (by assumption : Box2' _ w2.heap.size c0 c1) hb'; obtain ⟨-, x1, x2⟩ := id X; obtain ⟨-, y1, y2⟩ := id Y; obtain ⟨-, z1, z2⟩ := id Z))
        all_goals first | (go_ret; exact .mk HB (.mk rfl)) | (go_ret; refine .mk HB (.mk ?_); go_tidy; clear HB X Y Z; simp [*]; done) | (go_ret; refine .mk HB (.mk ?_); go_tidy; clear HB X Y Z; simp; omega) | (exfalso; go_tidy; clear HB X Y Z; simp_all; done) | (exfalso; go_tidy; clear HB X Y Z; simp_all; omega)
      · have g3 := cmp_trans (show cmpC a0 a1 b0 b1' ≤ 0 by omega) (show cmpC b0 b1' c0 c1 ≤ 0 by omega)
        go_wp2_with (first | (go_at_call 11; refine (impl_CompareCosts _ _ _ _ _).mono ?_; rintro e w' ⟨_, rfl, hb', rfl⟩; have HB := below_and (w := w) (by assumption) hb'; have X := Box2'.below (by assumption : Box2' _ w1.heap.size a0 a1) hb'; have Y := Box2'.below (by assumption : Box2' _ (w1.heap.size + 1) b0 b1') hb'; have Z := Box2'.below (by assumption : Box2' _ w2.heap.size c0 c1) hb'; obtain ⟨-, x1, x2⟩ := id X; obtain ⟨-, y1, y2⟩ := id Y; obtain ⟨-, z1, z2⟩ := id Z) | (go_at_call 9; refine (spec_CompareCosts _ _ _ _ _).mono ?_; rintro e w' ⟨_, rfl, hb', rfl⟩; have HB := below_and (w := w) (by assumption) hb'; have X := Box2'.below (by assumption : Box2' _ w1.heap.size a0 a1) hb'; have Y := Box2'.below (by assumption : Box2' _ (w1.heap.size + 1) b0 b1') hb'; have Z := Box2'.below (by assumption : Box2' _ w2.heap.size c0 c1) hb'; obtain ⟨-, x1, x2⟩ := id X; obtain ⟨-, y1, y2⟩ := id Y; obtain ⟨-, z1, z2⟩ := id Z))
        all_goals first | (go_ret; exact .mk HB (.mk rfl)) | (exfalso; go_tidy; clear HB X Y Z; simp_all; done) | (have he : a0 = b0 := (by assumption); have g4 : cmpC b0 a1 c0 c1 ≤ 0 := he ▸ g3; go_ret; refine .mk HB (.mk ?_); all_goals simp [g4])
  · by_cases hx : xs.length > 1048576
    all_goals
      go_enter Try.func4, Try.ntmps4
      go_wp2_with fail
      go_ret
      exact .mk (by repeat' (first | exact Below.refl _ _ | assumption | (refine Below.drew ?_) | (refine below_draws ?_ _) | (refine Below.alloc ?_ ?_ _) | (refine Below.setCell ?_ ?_ _) | (refine below_and ?_ (by assumption)) | (refine Below.trans ?_ (Below.mono (by assumption) ?_)) | omega | (simp; done) | (simp; omega))) (.mk rfl)
end Go.Proofs.Ytcnbnggfddmkbaa

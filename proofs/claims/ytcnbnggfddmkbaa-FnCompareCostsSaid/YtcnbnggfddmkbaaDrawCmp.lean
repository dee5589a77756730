/- Two drawn costs. -/
import Derived.Test.YtcnbnggfddmkbaaRd
import Derived.Deep.RegionWith
namespace Go.Proofs.Ytcnbnggfddmkbaa
open Go.RowKit
set_option linter.unusedVariables false
set_option linter.unusedSimpArgs false

def TwoCosts (v : Value) (_ : World) : Prop := ∃ a0 a1 b0 b1 : Int, v = .tuple #[.agg #[.int .i64 a0, .int .i64 a1], .agg #[.int .i64 b0, .int .i64 b1]]

theorem setCell_size (w : World) (a : Addr) (v : Value) : (w.setCell a v).heap.size = w.heap.size := by simp [World.setCell]
/-- Two cells of a block that hold numbers. -/
def Box2 (w : World) (b : Nat) : Prop := b < w.heap.size ∧ w.cell? ⟨b, 0, none⟩ = some (.int .i64 0) ∧ w.cell? ⟨b, 1, none⟩ = some (.int .i64 0) ∧ w.frozen? ⟨b, 0, none⟩ = false ∧ w.frozen? ⟨b, 1, none⟩ = false
theorem Box2.keep {w w' : World} {b : Nat} (h : Box2 w b) (hb : w'.heap[b]? = w.heap[b]?) (hs : w.heap.size ≤ w'.heap.size) : Box2 w' b := by
  obtain ⟨h0, h1, h2, h3, h4⟩ := h
  exact ⟨by omega, (World.cell?_of_block (w := w) (a := ⟨b, 0, none⟩) hb).trans h1, (World.cell?_of_block (w := w) (a := ⟨b, 1, none⟩) hb).trans h2,
    (World.frozen?_of_block (w := w) (a := ⟨b, 0, none⟩) hb).trans h3, (World.frozen?_of_block (w := w) (a := ⟨b, 1, none⟩) hb).trans h4⟩
theorem Box2.only {w w' : World} {b g : Nat} (h : Box2 w b) (ho : Only g w w') (hg : b ≠ g) : Box2 w' b := h.keep (ho.block b h.1 hg) ho.size
theorem Box2.below {w w' : World} {b : Nat} (h : Box2 w b) (ho : Below w.heap.size w w') : Box2 w' b := h.keep (ho.block b h.1) ho.size

def Box2' (w : World) (b : Nat) (r1 r2 : Int) : Prop := b < w.heap.size ∧ w.cell? ⟨b, 0, none⟩ = some (.int .i64 r1) ∧ w.cell? ⟨b, 1, none⟩ = some (.int .i64 r2)
theorem Box2'.only {w w' : World} {b g : Nat} {r1 r2 : Int} (h : Box2' w b r1 r2) (ho : Only g w w') (hg : b ≠ g) : Box2' w' b r1 r2 := by
  obtain ⟨h0, h1, h2⟩ := h
  have hb := ho.block b h0 hg
  exact ⟨by have := ho.size; omega, (World.cell?_of_block (w := w) (a := ⟨b, 0, none⟩) hb).trans h1, (World.cell?_of_block (w := w) (a := ⟨b, 1, none⟩) hb).trans h2⟩

theorem below_pick {w a b : World} {g : Nat} (h : Below w.heap.size w a) (ho : Only g a b) (hg : w.heap.size ≤ g) : Below w.heap.size w b := h.trans (only_below ho hg h.size)

set_option maxHeartbeats 8000000 in
set_option maxRecDepth 100000 in
theorem spec_DrawCompareCosts (xs : List By) (A : Option Addr) (cap : Nat) (w : World) (h : SlAt w (· < w.heap.size) A cap xs) (hv : ∀ x ∈ xs, 0 ≤ x.v ∧ x.v ≤ 255) :
    Calls Try.prog 12 #[.slice A xs.length cap] w (Post w TwoCosts) := by
  go_enter Try.func12, Try.ntmps12
  go_wp2_with fail
  have hW : Below w.heap.size w ((w.alloc (.cells #[.int .i64 0, .int .i64 0] 25)).alloc (.cells #[.int .i64 0, .int .i64 0] 25)) := (by repeat' (first | exact Below.refl _ _ | assumption | (refine Below.drew ?_) | (refine below_draws ?_ _) | (refine Below.alloc ?_ ?_ _) | (refine Below.setCell ?_ ?_ _) | (refine below_and ?_ (by assumption)) | (refine Below.trans ?_ (Below.mono (by assumption) ?_)) | omega | (simp; done) | (simp; omega)))
  refine (spec_l15Open w.heap.size xs A cap _ hW.size (h.below hW) hv).mono ?_
  rintro e w1 ⟨_, rfl, hb1, g, rfl, hg, hR⟩
  have hw1 : w.heap.size + 2 ≤ w1.heap.size := by have := hb1.size; simp at this; omega
  have hg' : w.heap.size + 2 ≤ g := by simp at hg; omega
  have X0 : Box2 w1 w.heap.size := Box2.below (w := (w.alloc (.cells #[.int .i64 0, .int .i64 0] 25)).alloc (.cells #[.int .i64 0, .int .i64 0] 25)) ⟨by simp; omega, by simp, by simp, by simp, by simp⟩ hb1
  have Y0 : Box2 w1 (w.heap.size + 1) := Box2.below (w := (w.alloc (.cells #[.int .i64 0, .int .i64 0] 25)).alloc (.cells #[.int .i64 0, .int .i64 0] 25)) ⟨by simp, by simp, by simp, by simp, by simp⟩ hb1
  have n1 : w.heap.size ≠ g := by omega
  have n2 : w.heap.size + 1 ≠ g := by omega
  go_wp2_with fail
  refine (rd_pick w.heap.size g _ 3 _ hR (by omega) (by omega)).mono ?_
  rintro e w2 ⟨r1, rfl, -, -, R1, O1⟩
  go_wp2_with fail
  refine (rd_pick w.heap.size g _ 3 _ R1 (by omega) (by omega)).mono ?_
  rintro e w3 ⟨r2, rfl, -, -, R2, O2⟩
  go_wp2_with fail
  have s2 := O1.size
  have s3 := O2.size
  have g3 : g < w3.heap.size := R2.2.1
  have hA3 : Below w3.heap.size w3 (w3.alloc (.cells #[.int .i64 r1, .int .i64 r2] 25)).drew := (by repeat' (first | exact Below.refl _ _ | assumption | (refine Below.drew ?_) | (refine below_draws ?_ _) | (refine Below.alloc ?_ ?_ _) | (refine Below.setCell ?_ ?_ _) | (refine below_and ?_ (by assumption)) | (refine Below.trans ?_ (Below.mono (by assumption) ?_)) | omega | (simp; done) | (simp; omega)))
  have R3 := R2.below hA3
  have hne : w3.heap.size ≠ g := by omega
  have X := ((X0.only O1 n1).only O2 n1).below hA3
  have Y := ((Y0.only O1 n2).only O2 n2).below hA3
  clear R1 R2 hR X0 Y0
  have hd1 : w.heap.size ≠ w3.heap.size := by omega
  have hd2 : w.heap.size + 1 ≠ w3.heap.size := by omega
  have g3' : w3.heap.size < w3.heap.size + 1 := by omega
  have Z : Box2' ((w3.alloc (.cells #[.int .i64 r1, .int .i64 r2] 25)).drew) w3.heap.size r1 r2 := ⟨by simp, by simp, by simp⟩
  obtain ⟨-, z1, z2⟩ := id Z
  have HB0 : Below w.heap.size w (w3.alloc (.cells #[.int .i64 r1, .int .i64 r2] 25)).drew := below_and (below_pick (below_pick (hW.trans (hb1.mono hW.size)) O1 (by omega)) O2 (by omega)) hA3
  go_region_with (first | (go_at_call 39; refine (rd_pick w.heap.size g _ 3 _ (by assumption) (by omega) (by omega)).mono ?_; rintro e w2 ⟨r2, rfl, -, -, hR, hO⟩; have X := Box2.only (by assumption) hO n1; have Y := Box2.only (by assumption) hO n2; have Z := Box2'.only (by assumption) hO hne; have HB := below_pick (w := w) (by assumption) hO (by omega); have X' := X; have Y' := Y; have Z' := Z; obtain ⟨-, x1, x2, x3, x4⟩ := X'; obtain ⟨-, y1, y2, y3, y4⟩ := Y'; obtain ⟨-, z1, z2⟩ := Z'))
  all_goals
    go_wp2_with fail
    refine bodyPost_ret (v := ?_) (by simp [results, Try.results12, go_sem, *]; rfl) rfl (Post.mk (by repeat' (first | exact Below.refl _ _ | assumption | (refine Below.drew ?_) | (refine below_draws ?_ _) | (refine Below.alloc ?_ ?_ _) | (refine Below.setCell ?_ ?_ _) | (refine below_and ?_ (by assumption)) | (refine Below.trans ?_ (Below.mono (by assumption) ?_)) | omega | (simp; done) | (simp; omega))) ⟨_, _, _, _, rfl⟩)
end Go.Proofs.Ytcnbnggfddmkbaa

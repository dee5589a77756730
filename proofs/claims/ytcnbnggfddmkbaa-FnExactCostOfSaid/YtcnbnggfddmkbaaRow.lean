/- Lines of layouts: how much they hold, copied, compared. -/
import Derived.Test.YtcnbnggfddmkbaaPost
import Derived.Test.YtcnbnggfddmkbaaInfo
namespace Go.Proofs.Ytcnbnggfddmkbaa
open Go.RowKit
set_option linter.unusedVariables false
set_option linter.unusedSimpArgs false

def rowSize (xs : List Rw) : Int := (xs.map fun t => (t.text.size : Int)).sum
theorem rowSize_snoc (xs : List Rw) (k : Nat) (h : k < xs.length) : rowSize (xs.take (k + 1)) = rowSize (xs.take k) + xs[k].text.size := by
  unfold rowSize
  rw [List.take_succ_eq_append_getElem h, List.map_append, List.sum_append]
  simp

theorem szRow (t : Rw) (left : Int) (w : World) (ht : t.text.size ≤ maxLen) (h0 : 0 ≤ left) (h1 : left ≤ 1048576) :
    Calls Try.prog 45 #[.agg #[.int .i64 t.indent, .string t.text], .int .i64 left] w (Post w (IntP fun r => r ≤ 1048576 ∧ (0 ≤ r → r + t.text.size ≤ left))) := by
  unfold maxLen at ht
  go_enter Try.func45, Try.ntmps45
  go_wp2
  all_goals (go_ret; exact .mk (by repeat' (first | exact Below.refl _ _ | assumption | (refine Below.drew ?_) | (refine below_draws ?_ _) | (refine Below.alloc ?_ ?_ _) | (refine Below.setCell ?_ ?_ _) | (refine Below.trans ?_ (Below.mono (by assumption) ?_)) | omega | (simp; done) | (simp; omega))) (.mk (by omega)))

theorem szRowS (xs : List Rw) (A : Option Addr) (cap : Nat) (left : Int) (w : World) (h : SlAt w (· < w.heap.size) A cap xs) (ht : ∀ t ∈ xs, t.text.size ≤ maxLen) (h0 : 0 ≤ left) (h1 : left ≤ 1048576) :
    Calls Try.prog 18 #[.slice A xs.length cap, .int .i64 left] w (Post w (IntP fun r => 0 ≤ r → r + xs.length + rowSize xs ≤ left)) := by
  have hl := h.1
  have hm := h.2.1
  unfold maxLen at hm
  go_enter Try.func18, Try.ntmps18
  go_wp2_with fail
  · go_ret
    exact .mk (.refl _ _) (.mk (by omega))
  · go_loopw [1, 5] (fun l i wr => ∃ (k : Nat) (x : Int), k ≤ xs.length ∧ i = .int .i64 k ∧ l = .int .i64 x ∧ 0 ≤ x ∧ x ≤ 1048576 ∧ Below w.heap.size w wr ∧ Hid (x + xs.length + rowSize (xs.take k) ≤ left)) (fun _ i _ => xs.length - (intOf i).toNat)
    case atStart => exact ⟨0, _, by omega, rfl, rfl, by omega, by omega, .refl _ _, show _ ≤ _ by simp [rowSize]⟩
    case round =>
      obtain ⟨k, x, hk, rfl, rfl, hx0, hx1, hb, hs⟩ := hrel
      by_cases hlt : k < xs.length
      · obtain ⟨b, o, rfl, hbo, c0, c1⟩ := Rw.at (h.below hb) k hlt
        have hsz := ht xs[k] (List.getElem_mem _)
        have hbs := hb.size
        go_wp2_with (go_at_call 45; refine (szRow xs[k] _ _ hsz hx0 hx1).mono ?_; rintro e w' ⟨_, rfl, hb', r, rfl, hr1, hr2⟩)
        · go_ret
          exact .mk (hb.trans (hb'.mono hbs)) (.mk (by omega))
        · have hs' : Hid (r + xs.length + rowSize (xs.take (k + 1)) ≤ left) := by
            have := hs.out; rw [rowSize_snoc xs k hlt]; show _ ≤ _; omega
          have hbb := hb.trans (hb'.mono hbs)
          (first | (refine ⟨⟨k + 1, r, by omega, by go_num, rfl, by omega, by omega, hbb, hs'⟩, by simp [intOf] <;> omega⟩) | (go_roundw; case rel => exact ⟨k + 1, r, by omega, by go_num, rfl, by omega, by omega, hbb, hs'⟩; case measure => simp [intOf] <;> omega) | (go_round; case rel => exact ⟨k + 1, r, by omega, by go_num, rfl, by omega, by omega, hbb, hs'⟩; case measure => simp [intOf] <;> omega))
      · go_wp2_with fail
        go_ret
        exact .mk hb (.mk (by have := hs.out; rw [List.take_of_length_le (by omega)] at this; omega))

theorem toRow (t : Rw) (w : World) :
    Calls Try.prog 48 #[.agg #[.int .i64 t.indent, .string t.text]] w (Post w fun v _ => v = .agg #[.int .i64 t.indent, .string t.text]) := by
  go_enter Try.func48, Try.ntmps48
  go_wp2
  exact bodyPost_ret (v := .agg #[.int .i64 t.indent, .string t.text]) (by simp [results, Try.results48, go_sem]) rfl (.mk (by repeat' (first | exact Below.refl _ _ | assumption | (refine Below.drew ?_) | (refine below_draws ?_ _) | (refine Below.alloc ?_ ?_ _) | (refine Below.setCell ?_ ?_ _) | (refine Below.trans ?_ (Below.mono (by assumption) ?_)) | omega | (simp; done) | (simp; omega))) rfl)

theorem eqRow (t u : Rw) (w : World) :
    Calls Try.prog 51 #[.agg #[.int .i64 t.indent, .string t.text], .agg #[.int .i64 u.indent, .string u.text]] w (Post w (BoolP (decide (t.indent = u.indent ∧ t.text = u.text)))) := by
  go_enter Try.func51, Try.ntmps51
  go_wp2
  all_goals
    go_ret
    refine .mk (by repeat' (first | exact Below.refl _ _ | assumption | (refine Below.drew ?_) | (refine below_draws ?_ _) | (refine Below.alloc ?_ ?_ _) | (refine Below.setCell ?_ ?_ _) | (refine Below.trans ?_ (Below.mono (by assumption) ?_)) | omega | (simp; done) | (simp; omega))) (.mk ?_)
    go_tidy
    simp only [str_eq, Bool.not_eq_true', Bool.not_eq_false', decide_eq_true_eq, decide_eq_false_iff_not, bne_iff_ne, bne_eq_false_iff_eq] at *
    simp [*]

def Rw.zero : Rw := ⟨0, ⟨#[]⟩⟩
set_option maxHeartbeats 1000000 in
theorem toRowS (xs : List Rw) (A : Option Addr) (cap : Nat) (w : World) (h : SlAt w (· < w.heap.size) A cap xs) (hn : xs.length ≤ 1048576)  :
    Calls Try.prog 20 #[.slice A xs.length cap] w (Post w fun v w' => OwnS w' w.heap.size 84 v xs) := by
  have hl := h.1
  have hm := h.2.1
  unfold maxLen at hm
  go_enter Try.func20, Try.ntmps20
  go_wp2_with (at_make; refine slRow.make rfl _ _ rfl xs.length rfl rfl (by omega) (by unfold maxLen; omega) ?_; intro w1 hown hg)
  have hb1 : Below w.heap.size w w1 := (Below.refl _ _).grown hg (Nat.le_refl _) (by simp)
  have hown1 : OwnS w1 w.heap.size 84 (.slice (some ⟨w.heap.size, 0, none⟩) (fillL xs Rw.zero 0).length xs.length) (fillL xs Rw.zero 0) := by
    rw [fillL_zero, List.length_replicate]; exact hown
  clear hown hg
  go_loopw [4] (fun i wr => ∃ (k : Nat), k ≤ xs.length ∧ i = .int .i64 k ∧ Below w.heap.size w wr ∧ w.heap.size < wr.heap.size ∧ OwnS wr w.heap.size 84 (.slice (some ⟨w.heap.size, 0, none⟩) (fillL xs Rw.zero k).length xs.length) (fillL xs Rw.zero k)) (fun i _ => xs.length - (intOf i).toNat)
  case atStart => exact ⟨0, by omega, rfl, hb1, (hown1.lt _ rfl).2, hown1⟩
  case round =>
    obtain ⟨k, hk, rfl, hb, hs, hown⟩ := hrel
    clear hown1 hb1
    by_cases hlt : k < xs.length
    · obtain ⟨b, o, rfl, hbo, c0, c1⟩ := Rw.at (h.below hb) k hlt
      have hbs := hb.size
      have hfl := fillL_length xs Rw.zero k hk
      go_wp2_with (go_at_call 48; refine (toRow xs[k] _).mono ?_; rintro e w' ⟨_, rfl, hb', rfl⟩; have ho2 := hown.below hb' (Nat.le_refl _); obtain ⟨x0, x1, d0, d1, -, f0, f1⟩ := ho2.at2 (k := k) (by omega) rfl; clear hfl)
      have hsz := hb'.size
      have hb2 := hb.trans (hb'.mono hbs)
      have ho3 := ho2.set2 (k := k) (t := xs[k]) (by rw [fillL_length _ _ _ hk]; exact hlt) rfl rfl
      rw [fillL_set _ _ _ hlt] at ho3
      have hb3 := (hb2.setCell (p := ⟨w.heap.size, k * 2, none⟩) (Nat.le_refl _) (.int .i64 xs[k].indent)).setCell (p := ⟨w.heap.size, k * 2 + 1, none⟩) (Nat.le_refl _) (.string xs[k].text)
      (first | (refine ⟨⟨k + 1, by omega, by go_num, hb3, by simp; omega, ho3⟩, by simp [intOf] <;> omega⟩) | (go_roundw; case rel => exact ⟨k + 1, by omega, by go_num, hb3, by simp; omega, ho3⟩; case measure => simp [intOf] <;> omega) | (go_round; case rel => exact ⟨k + 1, by omega, by go_num, hb3, by simp; omega, ho3⟩; case measure => simp [intOf] <;> omega))
    · go_wp2_with fail
      go_ret
      rw [fillL_all xs Rw.zero k hlt] at hown
      exact .mk hb hown

theorem eqRowS (xs ys : List Rw) (A A' : Option Addr) (cap cap' : Nat) (w : World) (h : SlAt w (· < w.heap.size) A cap xs) (h' : SlAt w (· < w.heap.size) A' cap' ys)  :
    Calls Try.prog 23 #[.slice A xs.length cap, .slice A' ys.length cap'] w (Post w (BoolP (decide (xs = ys)))) := by
  have hl := h.1
  have hm := h.2.1
  have hl' := h'.1
  have hm' := h'.2.1
  unfold maxLen at hm hm'
  by_cases hle : xs.length = ys.length
  · have HL := Lib.hid hle
    have hle1 : ((xs.length : Int) != ys.length) = false := by simp [hle]
    clear hle
    go_enter Try.func23, Try.ntmps23
    go_wp2_with fail
    clear hle1
    go_loopw [5] (fun i wr => ∃ (k : Nat), k ≤ xs.length ∧ i = .int .i64 k ∧ Below w.heap.size w wr ∧ Hid (xs.take k = ys.take k)) (fun i _ => xs.length - (intOf i).toNat)
    case atStart => exact ⟨0, by omega, rfl, .refl _ _, show _ = _ by simp⟩
    case round =>
      obtain ⟨k, hk, rfl, hb, hs⟩ := hrel
      have hbs := hb.size
      by_cases hlt : k < xs.length
      · have hlt' : k < ys.length := by have := HL.out; omega
        obtain ⟨b, o, rfl, hbo, c0, c1⟩ := Rw.at (h.below hb) k hlt
        obtain ⟨b', o', rfl, hbo', c0', c1'⟩ := Rw.at (h'.below hb) k hlt'
        by_cases he : xs[k] = ys[k]
        · have hd : decide (xs[k].indent = ys[k].indent ∧ xs[k].text = ys[k].text) = true := by simp [he]
          have HE := Lib.hid he; clear he
          have HD := Lib.hid hd; clear hd
          go_wp2_with fail
          go_region_held3 (fun w1 => w1.cell? ⟨b, o + k * 2, none⟩ = some (.int .i64 xs[k].indent) ∧ w1.cell? ⟨b, o + k * 2 + 1, none⟩ = some (.string xs[k].text) ∧ w1.cell? ⟨b', o' + k * 2, none⟩ = some (.int .i64 ys[k].indent) ∧ w1.cell? ⟨b', o' + k * 2 + 1, none⟩ = some (.string ys[k].text)) (first | go_keep | (refine ⟨?_, ?_, ?_, ?_⟩ <;> exact cell_keep hb' (by simp <;> omega) (by assumption))) (first | (go_at_call 51; refine (eqRow xs[k] ys[k] _).mono ?_; rw [HD.out]; rintro e w' ⟨_, rfl, hb', rfl⟩))
          go_wp2_with fail
          have hbb := hb.drew.trans (hb'.mono hbs)
          have hs' := take_same hs hlt hlt' HE.out
          (first | (refine ⟨⟨k + 1, by omega, by go_num, hbb, hs'⟩, by simp [intOf] <;> omega⟩) | (go_roundw; case rel => exact ⟨k + 1, by omega, by go_num, hbb, hs'⟩; case measure => simp [intOf] <;> omega) | (go_round; case rel => exact ⟨k + 1, by omega, by go_num, hbb, hs'⟩; case measure => simp [intOf] <;> omega))
        · have hd : decide (xs[k].indent = ys[k].indent ∧ xs[k].text = ys[k].text) = false := by
            rw [decide_eq_false_iff_not]; intro h; exact he (by cases hx : xs[k]; cases hy : ys[k]; simp_all)
          have HE := Lib.hid he; clear he
          have HD := Lib.hid hd; clear hd
          go_wp2_with fail
          go_region_held3 (fun w1 => w1.cell? ⟨b, o + k * 2, none⟩ = some (.int .i64 xs[k].indent) ∧ w1.cell? ⟨b, o + k * 2 + 1, none⟩ = some (.string xs[k].text) ∧ w1.cell? ⟨b', o' + k * 2, none⟩ = some (.int .i64 ys[k].indent) ∧ w1.cell? ⟨b', o' + k * 2 + 1, none⟩ = some (.string ys[k].text)) (first | go_keep | (refine ⟨?_, ?_, ?_, ?_⟩ <;> exact cell_keep hb' (by simp <;> omega) (by assumption))) (first | (go_at_call 51; refine (eqRow xs[k] ys[k] _).mono ?_; rw [HD.out]; rintro e w' ⟨_, rfl, hb', rfl⟩))
          go_wp2_with fail
          go_ret
          exact .mk (hb.drew.trans (hb'.mono hbs)) (.mk (decide_eq_false (ne_at k hlt hlt' HE.out)).symm)
      · go_wp2_with fail
        go_ret
        exact .mk hb (.mk (decide_eq_true (take_all hs hlt HL.out)).symm)
  · have hle' : ((xs.length : Int) != ys.length) = true := by simp; omega
    go_enter Try.func23, Try.ntmps23
    go_wp2_with fail
    all_goals first
      | (go_ret; refine .mk (by repeat' (first | exact Below.refl _ _ | assumption | (refine Below.drew ?_) | (refine below_draws ?_ _) | (refine Below.alloc ?_ ?_ _) | (refine Below.setCell ?_ ?_ _) | (refine Below.trans ?_ (Below.mono (by assumption) ?_)) | omega | (simp; done) | (simp; omega))) (.mk ?_); symm; exact decide_eq_false (fun e => hle (by rw [e])))
      | (exfalso; go_tidy; simp only [Bool.not_eq_true', Bool.not_eq_false', decide_eq_true_eq, decide_eq_false_iff_not] at *; omega)
end Go.Proofs.Ytcnbnggfddmkbaa

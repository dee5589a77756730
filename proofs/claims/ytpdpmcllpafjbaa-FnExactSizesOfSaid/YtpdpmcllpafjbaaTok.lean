/- Tokens: how much they hold, copied, compared; whether a list of them is valid, by the program and by the reference. -/
import Derived.Test.YtpdpmcllpafjbaaPost
import Derived.Test.YtpdpmcllpafjbaaInfo
namespace Go.Proofs.Ytpdpmcllpafjbaa
open Go.RowKit
set_option linter.unusedVariables false
set_option linter.unusedSimpArgs false

def tokSize (xs : List Tok) : Int := (xs.map fun t => (t.text.size : Int)).sum
theorem tokSize_snoc (xs : List Tok) (k : Nat) (h : k < xs.length) : tokSize (xs.take (k + 1)) = tokSize (xs.take k) + xs[k].text.size := by
  unfold tokSize
  rw [List.take_succ_eq_append_getElem h, List.map_append, List.sum_append]
  simp

theorem szToken (t : Tok) (left : Int) (w : World) (ht : t.text.size ≤ maxLen) (h0 : 0 ≤ left) (h1 : left ≤ 1048576) :
    Calls Try.prog 61 #[.agg #[.int .i64 t.kind, .int .i64 t.n, .string t.text], .int .i64 left] w (Post w (IntP fun r => r ≤ 1048576 ∧ (0 ≤ r → r + t.text.size ≤ left))) := by
  unfold maxLen at ht
  go_enter Try.func61, Try.ntmps61
  go_wp2
  all_goals (go_ret; exact .mk (by repeat' (first | exact Below.refl _ _ | assumption | (refine Below.drew ?_) | (refine below_draws ?_ _) | (refine Below.alloc ?_ ?_ _) | (refine Below.setCell ?_ ?_ _) | (refine below_and ?_ (by assumption)) | (refine Below.trans ?_ (Below.mono (by assumption) ?_)) | omega | (simp; done) | (simp; omega))) (.mk (by omega)))

theorem szTokenS (xs : List Tok) (A : Option Addr) (cap : Nat) (left : Int) (w : World) (h : SlAt w (· < w.heap.size) A cap xs) (ht : ∀ t ∈ xs, t.text.size ≤ maxLen) (h0 : 0 ≤ left) (h1 : left ≤ 1048576) :
    Calls Try.prog 19 #[.slice A xs.length cap, .int .i64 left] w (Post w (IntP fun r => 0 ≤ r → r + xs.length + tokSize xs ≤ left)) := by
  have hl := h.1
  have hm := h.2.1
  unfold maxLen at hm
  go_enter Try.func19, Try.ntmps19
  go_wp2_with fail
  · go_ret
    exact .mk (.refl _ _) (.mk (by omega))
  · go_loopw [1, 5] (fun l i wr => ∃ (k : Nat) (x : Int), k ≤ xs.length ∧ i = .int .i64 k ∧ l = .int .i64 x ∧ 0 ≤ x ∧ x ≤ 1048576 ∧ Below w.heap.size w wr ∧ Hid (x + xs.length + tokSize (xs.take k) ≤ left)) (fun _ i _ => xs.length - (intOf i).toNat)
    case atStart => exact ⟨0, _, by omega, rfl, rfl, by omega, by omega, .refl _ _, show _ ≤ _ by simp [tokSize]⟩
    case round =>
      obtain ⟨k, x, hk, rfl, rfl, hx0, hx1, hb, hs⟩ := hrel
      by_cases hlt : k < xs.length
      · obtain ⟨b, o, rfl, hbo, c0, c1, c2⟩ := Tok.at (h.below hb) k hlt
        have hsz := ht xs[k] (List.getElem_mem _)
        have hbs := hb.size
        go_wp2_with (go_at_call 61; refine (szToken xs[k] _ _ hsz hx0 hx1).mono ?_; rintro e w' ⟨_, rfl, hb', r, rfl, hr1, hr2⟩)
        · go_ret
          exact .mk (hb.trans (hb'.mono hbs)) (.mk (by omega))
        · have hs' : Hid (r + xs.length + tokSize (xs.take (k + 1)) ≤ left) := by
            have := hs.out; rw [tokSize_snoc xs k hlt]; show _ ≤ _; omega
          have hbb := hb.trans (hb'.mono hbs)
          (first | (refine ⟨⟨k + 1, r, by omega, by go_num, rfl, by omega, by omega, hbb, hs'⟩, by simp [intOf] <;> omega⟩) | (go_roundw; case rel => exact ⟨k + 1, r, by omega, by go_num, rfl, by omega, by omega, hbb, hs'⟩; case measure => simp [intOf] <;> omega) | (go_round; case rel => exact ⟨k + 1, r, by omega, by go_num, rfl, by omega, by omega, hbb, hs'⟩; case measure => simp [intOf] <;> omega))
      · go_wp2_with fail
        go_ret
        exact .mk hb (.mk (by have := hs.out; rw [List.take_of_length_le (by omega)] at this; omega))

theorem toToken (t : Tok) (w : World) :
    Calls Try.prog 63 #[.agg #[.int .i64 t.kind, .int .i64 t.n, .string t.text]] w (Post w fun v _ => v = .agg #[.int .i64 t.kind, .int .i64 t.n, .string t.text]) := by
  go_enter Try.func63, Try.ntmps63
  go_wp2
  exact bodyPost_ret (v := .agg #[.int .i64 t.kind, .int .i64 t.n, .string t.text]) (by simp [results, Try.results63, go_sem]) rfl (.mk (by repeat' (first | exact Below.refl _ _ | assumption | (refine Below.drew ?_) | (refine below_draws ?_ _) | (refine Below.alloc ?_ ?_ _) | (refine Below.setCell ?_ ?_ _) | (refine below_and ?_ (by assumption)) | (refine Below.trans ?_ (Below.mono (by assumption) ?_)) | omega | (simp; done) | (simp; omega))) rfl)

theorem eqToken (t u : Tok) (w : World) :
    Calls Try.prog 65 #[.agg #[.int .i64 t.kind, .int .i64 t.n, .string t.text], .agg #[.int .i64 u.kind, .int .i64 u.n, .string u.text]] w (Post w (BoolP (decide (t.kind = u.kind ∧ t.n = u.n ∧ t.text = u.text)))) := by
  go_enter Try.func65, Try.ntmps65
  go_wp2
  all_goals
    go_ret
    refine .mk (by repeat' (first | exact Below.refl _ _ | assumption | (refine Below.drew ?_) | (refine below_draws ?_ _) | (refine Below.alloc ?_ ?_ _) | (refine Below.setCell ?_ ?_ _) | (refine below_and ?_ (by assumption)) | (refine Below.trans ?_ (Below.mono (by assumption) ?_)) | omega | (simp; done) | (simp; omega))) (.mk ?_)
    go_tidy
    simp only [str_eq, Bool.not_eq_true', Bool.not_eq_false', decide_eq_true_eq, decide_eq_false_iff_not, bne_iff_ne, bne_eq_false_iff_eq] at *
    simp [*]

def Tok.zero : Tok := ⟨0, 0, ⟨#[]⟩⟩
set_option maxHeartbeats 1000000 in
theorem toTokenS (xs : List Tok) (A : Option Addr) (cap : Nat) (w : World) (h : SlAt w (· < w.heap.size) A cap xs) (hn : xs.length ≤ 1048576)  :
    Calls Try.prog 21 #[.slice A xs.length cap] w (Post w fun v w' => OwnS w' w.heap.size 78 v xs) := by
  have hl := h.1
  have hm := h.2.1
  unfold maxLen at hm
  go_enter Try.func21, Try.ntmps21
  go_wp2_with (at_make; refine slTok.make rfl _ _ rfl xs.length rfl rfl (by omega) (by unfold maxLen; omega) ?_; intro w1 hown hg)
  have hb1 : Below w.heap.size w w1 := (Below.refl _ _).grown hg (Nat.le_refl _) (by simp)
  have hown1 : OwnS w1 w.heap.size 78 (.slice (some ⟨w.heap.size, 0, none⟩) (fillL xs Tok.zero 0).length xs.length) (fillL xs Tok.zero 0) := by
    rw [fillL_zero, List.length_replicate]; exact hown
  clear hown hg
  go_loopw [4] (fun i wr => ∃ (k : Nat), k ≤ xs.length ∧ i = .int .i64 k ∧ Below w.heap.size w wr ∧ w.heap.size < wr.heap.size ∧ OwnS wr w.heap.size 78 (.slice (some ⟨w.heap.size, 0, none⟩) (fillL xs Tok.zero k).length xs.length) (fillL xs Tok.zero k)) (fun i _ => xs.length - (intOf i).toNat)
  case atStart => exact ⟨0, by omega, rfl, hb1, (hown1.lt _ rfl).2, hown1⟩
  case round =>
    obtain ⟨k, hk, rfl, hb, hs, hown⟩ := hrel
    clear hown1 hb1
    by_cases hlt : k < xs.length
    · obtain ⟨b, o, rfl, hbo, c0, c1, c2⟩ := Tok.at (h.below hb) k hlt
      have hbs := hb.size
      have hfl := fillL_length xs Tok.zero k hk
      go_wp2_with (go_at_call 63; refine (toToken xs[k] _).mono ?_; rintro e w' ⟨_, rfl, hb', rfl⟩; have ho2 := hown.below hb' (Nat.le_refl _); obtain ⟨x0, x1, x2, d0, d1, d2, -, f0, f1, f2⟩ := ho2.at3 (k := k) (by omega) rfl; clear hfl)
      have hsz := hb'.size
      have hb2 := hb.trans (hb'.mono hbs)
      have ho3 := ho2.set3 (k := k) (t := xs[k]) (by rw [fillL_length _ _ _ hk]; exact hlt) rfl rfl
      rw [fillL_set _ _ _ hlt] at ho3
      have hb3 := ((hb2.setCell (p := ⟨w.heap.size, k * 3, none⟩) (Nat.le_refl _) (.int .i64 xs[k].kind)).setCell (p := ⟨w.heap.size, k * 3 + 1, none⟩) (Nat.le_refl _) (.int .i64 xs[k].n)).setCell (p := ⟨w.heap.size, k * 3 + 2, none⟩) (Nat.le_refl _) (.string xs[k].text)
      (first | (refine ⟨⟨k + 1, by omega, by go_num, hb3, by simp; omega, ho3⟩, by simp [intOf] <;> omega⟩) | (go_roundw; case rel => exact ⟨k + 1, by omega, by go_num, hb3, by simp; omega, ho3⟩; case measure => simp [intOf] <;> omega) | (go_round; case rel => exact ⟨k + 1, by omega, by go_num, hb3, by simp; omega, ho3⟩; case measure => simp [intOf] <;> omega))
    · go_wp2_with fail
      go_ret
      rw [fillL_all xs Tok.zero k hlt] at hown
      exact .mk hb hown

theorem eqTokenS (xs ys : List Tok) (A A' : Option Addr) (cap cap' : Nat) (w : World) (h : SlAt w (· < w.heap.size) A cap xs) (h' : SlAt w (· < w.heap.size) A' cap' ys)  :
    Calls Try.prog 23 #[.slice A xs.length cap, .slice A' ys.length cap'] w (Post w (BoolP (decide (xs = ys)))) := by
  have hl := h.1
  have hm := h.2.1
  have hl' := h'.1
  have hm' := h'.2.1
  unfold maxLen at hm hm'
  by_cases hle : xs.length = ys.length
  · have HL := Lib.hid hle
    have hle1 : ((xs.length : Int) != ys.length) = false := by simp [hle]
    clear hle
    go_enter Try.func23, Try.ntmps23
    go_wp2_with fail
    clear hle1
    go_loopw [5] (fun i wr => ∃ (k : Nat), k ≤ xs.length ∧ i = .int .i64 k ∧ Below w.heap.size w wr ∧ Hid (xs.take k = ys.take k)) (fun i _ => xs.length - (intOf i).toNat)
    case atStart => exact ⟨0, by omega, rfl, .refl _ _, show _ = _ by simp⟩
    case round =>
      obtain ⟨k, hk, rfl, hb, hs⟩ := hrel
      have hbs := hb.size
      by_cases hlt : k < xs.length
      · have hlt' : k < ys.length := by have := HL.out; omega
        obtain ⟨b, o, rfl, hbo, c0, c1, c2⟩ := Tok.at (h.below hb) k hlt
        obtain ⟨b', o', rfl, hbo', c0', c1', c2'⟩ := Tok.at (h'.below hb) k hlt'
        by_cases he : xs[k] = ys[k]
        · have hd : decide (xs[k].kind = ys[k].kind ∧ xs[k].n = ys[k].n ∧ xs[k].text = ys[k].text) = true := by simp [he]
          have HE := Lib.hid he; clear he
          have HD := Lib.hid hd; clear hd
          go_wp2_with fail
          go_region_held3 (fun w1 => w1.cell? ⟨b, o + k * 3, none⟩ = some (.int .i64 xs[k].kind) ∧ w1.cell? ⟨b, o + k * 3 + 1, none⟩ = some (.int .i64 xs[k].n) ∧ w1.cell? ⟨b, o + k * 3 + 2, none⟩ = some (.string xs[k].text) ∧ w1.cell? ⟨b', o' + k * 3, none⟩ = some (.int .i64 ys[k].kind) ∧ w1.cell? ⟨b', o' + k * 3 + 1, none⟩ = some (.int .i64 ys[k].n) ∧ w1.cell? ⟨b', o' + k * 3 + 2, none⟩ = some (.string ys[k].text)) (first | go_keep | ((try dsimp only); (repeat' apply And.intro) <;> first | assumption | exact cell_keep hb' (by first | omega | (simp; done) | (simp; omega)) (by first | assumption | (simp; done) | (simp [*]; done)) | exact Nat.le_trans (by first | assumption | (simp; done) | (simp [*]; done) | (simp; omega)) hb'.size | go_keep)) (first | (go_at_call 65; refine (eqToken xs[k] ys[k] _).mono ?_; rw [HD.out]; rintro e w' ⟨_, rfl, hb', rfl⟩))
          go_wp2_with fail
          have hbb := hb.drew.trans (hb'.mono hbs)
          have hs' := take_same hs hlt hlt' HE.out
          (first | (refine ⟨⟨k + 1, by omega, by go_num, hbb, hs'⟩, by simp [intOf] <;> omega⟩) | (go_roundw; case rel => exact ⟨k + 1, by omega, by go_num, hbb, hs'⟩; case measure => simp [intOf] <;> omega) | (go_round; case rel => exact ⟨k + 1, by omega, by go_num, hbb, hs'⟩; case measure => simp [intOf] <;> omega))
        · have hd : decide (xs[k].kind = ys[k].kind ∧ xs[k].n = ys[k].n ∧ xs[k].text = ys[k].text) = false := by
            rw [decide_eq_false_iff_not]; intro h; exact he (by cases hx : xs[k]; cases hy : ys[k]; simp_all)
          have HE := Lib.hid he; clear he
          have HD := Lib.hid hd; clear hd
          go_wp2_with fail
          go_region_held3 (fun w1 => w1.cell? ⟨b, o + k * 3, none⟩ = some (.int .i64 xs[k].kind) ∧ w1.cell? ⟨b, o + k * 3 + 1, none⟩ = some (.int .i64 xs[k].n) ∧ w1.cell? ⟨b, o + k * 3 + 2, none⟩ = some (.string xs[k].text) ∧ w1.cell? ⟨b', o' + k * 3, none⟩ = some (.int .i64 ys[k].kind) ∧ w1.cell? ⟨b', o' + k * 3 + 1, none⟩ = some (.int .i64 ys[k].n) ∧ w1.cell? ⟨b', o' + k * 3 + 2, none⟩ = some (.string ys[k].text)) (first | go_keep | ((try dsimp only); (repeat' apply And.intro) <;> first | assumption | exact cell_keep hb' (by first | omega | (simp; done) | (simp; omega)) (by first | assumption | (simp; done) | (simp [*]; done)) | exact Nat.le_trans (by first | assumption | (simp; done) | (simp [*]; done) | (simp; omega)) hb'.size | go_keep)) (first | (go_at_call 65; refine (eqToken xs[k] ys[k] _).mono ?_; rw [HD.out]; rintro e w' ⟨_, rfl, hb', rfl⟩))
          go_wp2_with fail
          go_ret
          exact .mk (hb.drew.trans (hb'.mono hbs)) (.mk (decide_eq_false (ne_at k hlt hlt' HE.out)).symm)
      · go_wp2_with fail
        go_ret
        exact .mk hb (.mk (decide_eq_true (take_all hs hlt HL.out)).symm)
  · have hle' : ((xs.length : Int) != ys.length) = true := by simp; omega
    go_enter Try.func23, Try.ntmps23
    go_wp2_with fail
    all_goals first
      | (go_ret; refine .mk (by repeat' (first | exact Below.refl _ _ | assumption | (refine Below.drew ?_) | (refine below_draws ?_ _) | (refine Below.alloc ?_ ?_ _) | (refine Below.setCell ?_ ?_ _) | (refine below_and ?_ (by assumption)) | (refine Below.trans ?_ (Below.mono (by assumption) ?_)) | omega | (simp; done) | (simp; omega))) (.mk ?_); symm; exact decide_eq_false (fun e => hle (by rw [e])))
      | (exfalso; go_tidy; simp only [Bool.not_eq_true', Bool.not_eq_false', decide_eq_true_eq, decide_eq_false_iff_not] at *; omega)
end Go.Proofs.Ytpdpmcllpafjbaa

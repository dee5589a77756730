/- Layouts: which lists of lines are layouts, how long a line is, by the program and by the reference. -/
import Derived.Test.YtcnbnggfddmkbaaIdx
import Derived.Test.YtcnbnggfddmkbaaRow
namespace Go.Proofs.Ytcnbnggfddmkbaa
open Go.RowKit
set_option linter.unusedVariables false
set_option linter.unusedSimpArgs false

def lineB (s : ByteArray) : Bool := s.data.toList.all fun b => b.toNat == 32 || chB b.toNat
def rowOk (r : Rw) : Bool := decide (0 ≤ r.indent ∧ r.indent ≤ 400 ∧ r.text.size < 2000) && lineB r.text
def layB (xs : List Rw) : Bool := decide (1 ≤ xs.length ∧ xs.length ≤ 200 ∧ (xs.head?.map (·.indent)) = some 0) && xs.all rowOk

theorem lineB_no {s : ByteArray} {k : Nat} (hk : k < s.size) (h1 : s[k].toNat ≠ 32) (h2 : chB s[k].toNat = false) : lineB s = false := by
  unfold lineB
  rw [List.all_eq_false]
  refine ⟨s[k], ?_, by simp [h1, h2]⟩
  have : s[k] = s.data.toList[k]'(by simpa using hk) := by simp; rfl
  rw [this]; exact List.getElem_mem _
theorem lineB_yes {s : ByteArray} {k : Nat} (hk : ¬ k < s.size) (h : Hid (∀ j (hj : j < s.size), j < k → (s[j].toNat == 32 || chB s[j].toNat) = true)) : lineB s = true := by
  unfold lineB
  rw [List.all_eq_true]
  intro b hb
  obtain ⟨j, hj, rfl⟩ := List.getElem_of_mem hb
  have hj' : j < s.size := by simpa using hj
  exact h.out j hj' (by omega)
theorem line_next {s : ByteArray} {k : Nat} (hlt : k < s.size) (h : Hid (∀ j (hj : j < s.size), j < k → (s[j].toNat == 32 || chB s[j].toNat) = true)) (hc : (s[k].toNat == 32 || chB s[k].toNat) = true) :
    Hid (∀ j (hj : j < s.size), j < k + 1 → (s[j].toNat == 32 || chB s[j].toNat) = true) := fun j hj h' => by
  by_cases e : j < k
  · exact h.out j hj e
  · obtain rfl : j = k := by omega
    exact hc
theorem one_size {s : ByteArray} {k : Nat} (hk : k < s.size) : (s.extract k (k + 1)).size = 1 := by
  rw [ByteArray.size_extract]; omega
theorem textB_one {s : ByteArray} {k : Nat} (hk : k < s.size) : textB (s.extract k (k + 1)) = chB s[k].toNat := by
  have h1 : (s.extract k (k + 1)).data.toList = [s[k]] := by
    apply List.ext_getElem
    · simp; omega
    · intro i h1 h2
      simp at h2
      subst h2
      simp
      rfl
  rw [textB, h1, one_size hk]
  simp

set_option maxHeartbeats 1000000 in
theorem impl_rowBytes (s : ByteArray) (w : World) (hs : s.size ≤ maxLen) :
    Calls Try.prog 69 #[.string s] w (Post w (BoolP (lineB s))) := by
  unfold maxLen at hs
  go_enter Try.func69, Try.ntmps69
  go_wp2_with fail
  go_loopw [3] (fun i wr => ∃ k : Nat, k ≤ s.size ∧ i = .int .i64 k ∧ Below w.heap.size w wr ∧ Hid (∀ j (hj : j < s.size), j < k → (s[j].toNat == 32 || chB s[j].toNat) = true)) (fun i _ => s.size - (intOf i).toNat)
  case atStart => exact ⟨0, by omega, rfl, .refl _ _, fun j hj h => by omega⟩
  case round =>
    obtain ⟨k, hk, rfl, hb, hall⟩ := hrel
    have hbs := hb.size
    by_cases hlt : k < s.size
    · by_cases h32 : s[k].toNat = 32
      · have ha := line_next hlt hall (by simp [h32])
        have e1 : ((s[k].toNat : Int) != 32) = false := by simp [h32]
        clear h32
        go_wp2_with fail
        (first | (refine ⟨⟨k + 1, by omega, by go_num, hb, ha⟩, by simp [intOf] <;> omega⟩) | (go_roundw; case rel => exact ⟨k + 1, by omega, by go_num, hb, ha⟩; case measure => simp [intOf] <;> omega) | (go_round; case rel => exact ⟨k + 1, by omega, by go_num, hb, ha⟩; case measure => simp [intOf] <;> omega))
      · have e1 : ((s[k].toNat : Int) != 32) = true := by simp; omega
        cases hc : chB s[k].toNat with
        | true =>
          have ha := line_next hlt hall (by simp [hc])
          have hB := Lib.hid ((textB_one hlt).trans hc)
          have hz : Hid ((s.extract k (k + 1)).size ≤ maxLen) := by show _ ≤ _; rw [one_size hlt]; decide
          clear hc h32
          go_wp2_with (first | (go_at_call 43; refine (hB.out ▸ impl_TextValid (s.extract k (k + 1)) _ hz.out).mono ?_; rintro e w' ⟨_, rfl, hb', rfl⟩; obtain ⟨hc', hf'⟩ := bcell hb'; (try (have hz' : w.heap.size < w'.heap.size := (by have := hb'.size; simp at this; omega))); (try (have hzr : wr.heap.size < w'.heap.size := (by have := hb'.size; simp at this; omega)))))
          have hbb := hb.trans (hb'.mono hbs)
          (first | (refine ⟨⟨k + 1, by omega, by go_num, hbb, ha⟩, by simp [intOf] <;> omega⟩) | (go_roundw; case rel => exact ⟨k + 1, by omega, by go_num, hbb, ha⟩; case measure => simp [intOf] <;> omega) | (go_round; case rel => exact ⟨k + 1, by omega, by go_num, hbb, ha⟩; case measure => simp [intOf] <;> omega))
        | false =>
          have hf := Lib.hid (lineB_no hlt h32 hc)
          have hB := Lib.hid ((textB_one hlt).trans hc)
          have hz : Hid ((s.extract k (k + 1)).size ≤ maxLen) := by show _ ≤ _; rw [one_size hlt]; decide
          clear hc h32
          go_wp2_with (first | (go_at_call 43; refine (hB.out ▸ impl_TextValid (s.extract k (k + 1)) _ hz.out).mono ?_; rintro e w' ⟨_, rfl, hb', rfl⟩; obtain ⟨hc', hf'⟩ := bcell hb'; (try (have hz' : w.heap.size < w'.heap.size := (by have := hb'.size; simp at this; omega))); (try (have hzr : wr.heap.size < w'.heap.size := (by have := hb'.size; simp at this; omega)))))
          go_ret
          exact .mk (hb.trans (hb'.mono hbs)) (.mk hf.out.symm)
    · go_wp2_with fail
      go_ret
      exact .mk hb (.mk (lineB_yes hlt hall).symm)

set_option maxHeartbeats 1000000 in
set_option maxRecDepth 100000 in
theorem spec_l2Text (s : ByteArray) (w : World) (hs : s.size ≤ maxLen) :
    Calls Try.prog 67 #[.string s] w (Post w (BoolP (decide (s.size < 2000) && lineB s))) := by
  unfold maxLen at hs
  go_enter Try.func67, Try.ntmps67
  go_wp2_with fail
  go_loopw [3] (fun i wr => ∃ k : Nat, k ≤ s.size ∧ k ≤ 2000 ∧ i = .int .i64 k ∧ Below w.heap.size w wr ∧ Hid (∀ j (hj : j < s.size), j < k → (s[j].toNat == 32 || chB s[j].toNat) = true)) (fun i _ => s.size - (intOf i).toNat)
  case atStart => exact ⟨0, by omega, by omega, rfl, .refl _ _, fun j hj h => by omega⟩
  case round =>
    obtain ⟨k, hk, hk2, rfl, hb, hall⟩ := hrel
    have hbs := hb.size
    by_cases hlt : k < s.size
    · by_cases hlt2 : k < 2000
      · by_cases h32 : s[k].toNat = 32
        · have ha := line_next hlt hall (by simp [h32])
          have e1 : ((s[k].toNat : Int) != 32) = false := by simp [h32]
          clear h32
          go_wp2_with fail
          (first | (refine ⟨⟨k + 1, by omega, by omega, by go_num, hb, ha⟩, by simp [intOf] <;> omega⟩) | (go_roundw; case rel => exact ⟨k + 1, by omega, by omega, by go_num, hb, ha⟩; case measure => simp [intOf] <;> omega) | (go_round; case rel => exact ⟨k + 1, by omega, by omega, by go_num, hb, ha⟩; case measure => simp [intOf] <;> omega))
        · have e1 : ((s[k].toNat : Int) != 32) = true := by simp; omega
          cases hc : chB s[k].toNat with
          | true =>
            have ha := line_next hlt hall (by simp [hc])
            have hB := Lib.hid ((textB_one hlt).trans hc)
            have hz : Hid ((s.extract k (k + 1)).size ≤ maxLen) := by show _ ≤ _; rw [one_size hlt]; decide
            clear hc h32
            go_wp2_with (first | (go_at_call 65; refine (hB.out ▸ spec_TextValid (s.extract k (k + 1)) _ hz.out).mono ?_; rintro e w' ⟨_, rfl, hb', rfl⟩; obtain ⟨hc', hf'⟩ := bcell hb'; (try (have hz' : w.heap.size < w'.heap.size := (by have := hb'.size; simp at this; omega))); (try (have hzr : wr.heap.size < w'.heap.size := (by have := hb'.size; simp at this; omega)))))
            have hbb := hb.trans (hb'.mono hbs)
            (first | (refine ⟨⟨k + 1, by omega, by omega, by go_num, hbb, ha⟩, by simp [intOf] <;> omega⟩) | (go_roundw; case rel => exact ⟨k + 1, by omega, by omega, by go_num, hbb, ha⟩; case measure => simp [intOf] <;> omega) | (go_round; case rel => exact ⟨k + 1, by omega, by omega, by go_num, hbb, ha⟩; case measure => simp [intOf] <;> omega))
          | false =>
            have hf := Lib.hid (lineB_no hlt h32 hc)
            have hB := Lib.hid ((textB_one hlt).trans hc)
            have hz : Hid ((s.extract k (k + 1)).size ≤ maxLen) := by show _ ≤ _; rw [one_size hlt]; decide
            clear hc h32
            go_wp2_with (first | (go_at_call 65; refine (hB.out ▸ spec_TextValid (s.extract k (k + 1)) _ hz.out).mono ?_; rintro e w' ⟨_, rfl, hb', rfl⟩; obtain ⟨hc', hf'⟩ := bcell hb'; (try (have hz' : w.heap.size < w'.heap.size := (by have := hb'.size; simp at this; omega))); (try (have hzr : wr.heap.size < w'.heap.size := (by have := hb'.size; simp at this; omega)))))
            go_ret
            exact .mk (hb.trans (hb'.mono hbs)) (.mk (by rw [hf.out, Bool.and_false]))
      · go_wp2_with fail
        go_ret
        refine .mk hb (.mk ?_)
        rw [decide_eq_false (show ¬ s.size < 2000 by omega), Bool.false_and]
        (all_goals first | rfl | (simp; done) | (rw [Bool.eq_iff_iff]; simp; done) | (rw [Bool.eq_iff_iff]; simp; omega) | omega)
    · go_wp2_with fail
      go_ret
      refine .mk hb (.mk ?_)
      rw [lineB_yes hlt hall, Bool.and_true]
      (all_goals first | rfl | (simp; done) | (rw [Bool.eq_iff_iff]; simp; done) | (rw [Bool.eq_iff_iff]; simp; omega) | omega)

theorem rowOk_true {r : Rw} (h : rowOk r = true) : 0 ≤ r.indent ∧ r.indent ≤ 400 ∧ r.text.size < 2000 ∧ lineB r.text = true := by
  simp only [rowOk, Bool.and_eq_true, decide_eq_true_eq] at h
  exact ⟨h.1.1, h.1.2.1, h.1.2.2, h.2⟩
theorem rowOk_false {r : Rw} (h : rowOk r = false) : r.indent < 0 ∨ (0 ≤ r.indent ∧ 400 < r.indent) ∨ (0 ≤ r.indent ∧ r.indent ≤ 400 ∧ lineB r.text = false) ∨ (0 ≤ r.indent ∧ r.indent ≤ 400 ∧ lineB r.text = true ∧ 2000 ≤ r.text.size) := by
  simp only [rowOk, Bool.and_eq_false_iff, decide_eq_false_iff_not] at h
  rcases h with h | h
  · cases hl : lineB r.text <;> simp <;> omega
  · simp [h]; omega
theorem lay_dies {xs : List Rw} {k : Nat} (hk : k < xs.length) (h : rowOk xs[k] = false) : false = layB xs := by
  have : xs.all rowOk = false := by rw [List.all_eq_false]; exact ⟨xs[k], List.getElem_mem _, by simp [h]⟩
  rw [layB, this, Bool.and_false]
theorem lay_next {xs : List Rw} {k : Nat} (hk : k < xs.length) (h : Hid ((xs.take k).all rowOk = true)) (h1 : rowOk xs[k] = true) : Hid ((xs.take (k + 1)).all rowOk = true) := by
  show _ = _
  rw [List.take_succ_eq_append_getElem hk, List.all_append, h.out]
  simp [h1]
theorem lay_end {xs : List Rw} {k : Nat} (hk : ¬ k < xs.length) (h : Hid ((xs.take k).all rowOk = true)) : layB xs = decide (1 ≤ xs.length ∧ xs.length ≤ 200 ∧ (xs.head?.map (·.indent)) = some 0) := by
  have := h.out
  rw [List.take_of_length_le (by omega)] at this
  rw [layB, this, Bool.and_true]

set_option maxHeartbeats 4000000 in
set_option maxRecDepth 100000 in
theorem impl_LayoutValid (xs : List Rw) (A : Option Addr) (cap : Nat) (w : World) (h : SlAt w (· < w.heap.size) A cap xs) (ht : ∀ t ∈ xs, t.text.size ≤ maxLen) :
    Calls Try.prog 49 #[.slice A xs.length cap] w (Post w (BoolP (layB xs))) := by
  have hl := h.1
  have hm := h.2.1
  unfold maxLen at hm
  by_cases hlen : 1 ≤ xs.length ∧ xs.length ≤ 200
  · obtain ⟨h1, h200⟩ := hlen
    obtain ⟨b, o, rfl, hbo, c0, c1⟩ := Rw.atB h 0 (by omega)
    rw [Nat.zero_mul, Nat.add_zero] at c0
    have hhead : xs.head? = some xs[0] := by rw [List.head?_eq_getElem?, List.getElem?_eq_getElem]
    have HH := Lib.hid hhead; clear hhead
    by_cases hi0 : xs[0].indent = 0
    · have HI := Lib.hid hi0
      have e0 : (xs[0].indent != 0) = false := by simp [hi0]
      clear hi0
      go_enter Try.func49, Try.ntmps49
      go_wp2_with fail
      clear c0 c1 e0
      go_loopw [22] (fun i wr => ∃ k : Nat, k ≤ xs.length ∧ i = .int .i64 k ∧ Below w.heap.size w wr ∧ Hid ((xs.take k).all rowOk = true)) (fun i _ => xs.length - (intOf i).toNat)
      case atStart => exact ⟨0, by omega, rfl, .refl _ _, rfl⟩
      case round =>
        obtain ⟨k, hk, rfl, hb, hall⟩ := hrel
        have hbs := hb.size
        by_cases hlt : k < xs.length
        · obtain ⟨b', o', hA, hbo', c0, c1⟩ := Rw.atB (h.below hb) k hlt
          simp only [Option.some.injEq, Addr.mk.injEq, and_true] at hA
          obtain ⟨rfl, rfl⟩ := hA
          have hsz := ht xs[k] (List.getElem_mem _)
          have hszz : xs[k].text.size ≤ 9223372036854775807 := by unfold maxLen at hsz; omega
          cases hok : rowOk xs[k] with
          | false =>
            have HF := Lib.hid (lay_dies hlt hok)
            rcases rowOk_false hok with h1 | ⟨h1, h2⟩ | ⟨h1, h2, h3⟩ | ⟨h1, h2, h3, h4⟩
            · clear hok
              go_wp2_with fail
              go_ret
              exact .mk (by repeat' (first | exact Below.refl _ _ | assumption | (refine Below.drew ?_) | (refine below_draws ?_ _) | (refine Below.alloc ?_ ?_ _) | (refine Below.setCell ?_ ?_ _) | (refine Below.trans ?_ (Below.mono (by assumption) ?_)) | omega | (simp; done) | (simp; omega))) (.mk HF.out)
            · clear hok
              go_wp2_with fail
              go_ret
              exact .mk (by repeat' (first | exact Below.refl _ _ | assumption | (refine Below.drew ?_) | (refine below_draws ?_ _) | (refine Below.alloc ?_ ?_ _) | (refine Below.setCell ?_ ?_ _) | (refine Below.trans ?_ (Below.mono (by assumption) ?_)) | omega | (simp; done) | (simp; omega))) (.mk HF.out)
            · have H3 := Lib.hid h3; clear hok h3
              go_wp2_with (first | (go_at_call 69; refine (H3.out ▸ impl_rowBytes xs[k].text _ hsz).mono ?_; rintro e w' ⟨_, rfl, hb', rfl⟩; obtain ⟨hc', hf'⟩ := bcell hb'; (try (have hz' : w.heap.size < w'.heap.size := (by have := hb'.size; simp at this; omega))); (try (have hzr : wr.heap.size < w'.heap.size := (by have := hb'.size; simp at this; omega)))))
              go_ret
              exact .mk ((hb.alloc hbs _).trans (hb'.mono (by simp; omega))) (.mk HF.out)
            · have H3 := Lib.hid h3; clear hok h3
              go_wp2_with (first | (go_at_call 69; refine (H3.out ▸ impl_rowBytes xs[k].text _ hsz).mono ?_; rintro e w' ⟨_, rfl, hb', rfl⟩; obtain ⟨hc', hf'⟩ := bcell hb'; (try (have hz' : w.heap.size < w'.heap.size := (by have := hb'.size; simp at this; omega))); (try (have hzr : wr.heap.size < w'.heap.size := (by have := hb'.size; simp at this; omega)))))
              go_ret
              exact .mk ((hb.alloc hbs _).trans (hb'.mono (by simp; omega))) (.mk HF.out)
          | true =>
            obtain ⟨h1, h2, h3, h4⟩ := rowOk_true hok
            have HS := lay_next hlt hall hok
            have H4 := Lib.hid h4; clear hok h4
            go_wp2_with (first | (go_at_call 69; refine (H4.out ▸ impl_rowBytes xs[k].text _ hsz).mono ?_; rintro e w' ⟨_, rfl, hb', rfl⟩; obtain ⟨hc', hf'⟩ := bcell hb'; (try (have hz' : w.heap.size < w'.heap.size := (by have := hb'.size; simp at this; omega))); (try (have hzr : wr.heap.size < w'.heap.size := (by have := hb'.size; simp at this; omega)))))
            have hbb := (hb.alloc hbs (.cells #[.int .i64 xs[k].indent, .string xs[k].text] 84)).trans (hb'.mono (by simp; omega))
            (first | (refine ⟨⟨k + 1, by omega, by go_num, hbb, HS⟩, by simp [intOf] <;> omega⟩) | (go_roundw; case rel => exact ⟨k + 1, by omega, by go_num, hbb, HS⟩; case measure => simp [intOf] <;> omega) | (go_round; case rel => exact ⟨k + 1, by omega, by go_num, hbb, HS⟩; case measure => simp [intOf] <;> omega))
        · go_wp2_with fail
          go_ret
          refine .mk hb (.mk ?_)
          rw [lay_end hlt hall, HH.out, Option.map_some, HI.out]
          symm; exact decide_eq_true ⟨h1, h200, rfl⟩
    · have HI := Lib.hid hi0
      have e0 : (xs[0].indent != 0) = true := by simpa using hi0
      clear hi0
      go_enter Try.func49, Try.ntmps49
      go_wp2_with fail
      go_ret
      refine .mk (by repeat' (first | exact Below.refl _ _ | assumption | (refine Below.drew ?_) | (refine below_draws ?_ _) | (refine Below.alloc ?_ ?_ _) | (refine Below.setCell ?_ ?_ _) | (refine Below.trans ?_ (Below.mono (by assumption) ?_)) | omega | (simp; done) | (simp; omega))) (.mk ?_)
      rw [layB, HH.out, Option.map_some, decide_eq_false, Bool.false_and]
      rintro ⟨_, _, h⟩; exact HI.out (Option.some.inj h)
  · go_enter Try.func49, Try.ntmps49
    by_cases h1 : xs.length < 1
    all_goals
      go_wp2_with fail
      go_ret
      refine .mk (by repeat' (first | exact Below.refl _ _ | assumption | (refine Below.drew ?_) | (refine below_draws ?_ _) | (refine Below.alloc ?_ ?_ _) | (refine Below.setCell ?_ ?_ _) | (refine Below.trans ?_ (Below.mono (by assumption) ?_)) | omega | (simp; done) | (simp; omega))) (.mk ?_)
      rw [layB, decide_eq_false, Bool.false_and]
      omega

theorem lay_long {xs : List Rw} (h : ¬ (1 ≤ xs.length ∧ xs.length ≤ 200)) : layB xs = false := by
  rw [layB, decide_eq_false (fun h' => h ⟨h'.1, h'.2.1⟩), Bool.false_and]
theorem lay_head {xs : List Rw} (h0 : 0 < xs.length) (h : ¬ xs[0].indent = 0) : false = layB xs := by
  have hhead : xs.head? = some xs[0] := by rw [List.head?_eq_getElem?, List.getElem?_eq_getElem]
  rw [layB, hhead, Option.map_some, decide_eq_false, Bool.false_and]
  rintro ⟨_, _, h'⟩; exact h (Option.some.inj h')
theorem lay_all {xs : List Rw} {k : Nat} (hk : ¬ k < xs.length) (h : Hid ((xs.take k).all rowOk = true)) (h0 : 0 < xs.length) (h1 : xs.length ≤ 200) (h2 : xs[0].indent = 0) : layB xs = true := by
  have hhead : xs.head? = some xs[0] := by rw [List.head?_eq_getElem?, List.getElem?_eq_getElem]
  rw [lay_end hk h, hhead, Option.map_some, h2]
  exact decide_eq_true ⟨by omega, h1, rfl⟩

set_option maxHeartbeats 4000000 in
set_option maxRecDepth 100000 in
theorem spec_LayoutValid (xs : List Rw) (A : Option Addr) (cap : Nat) (w : World) (h : SlAt w (· < w.heap.size) A cap xs) (ht : ∀ t ∈ xs, t.text.size ≤ maxLen) :
    Calls Try.prog 46 #[.slice A xs.length cap] w (Post w (BoolP (layB xs))) := by
  have hl := h.1
  have hm := h.2.1
  unfold maxLen at hm
  go_enter Try.func46, Try.ntmps46
  go_wp2_with fail
  go_loopw [3] (fun i wr => ∃ k : Nat, k ≤ xs.length ∧ k ≤ 201 ∧ i = .int .i64 k ∧ Below w.heap.size w wr ∧ Hid ((xs.take k).all rowOk = true) ∧ Hid (0 < k → ∀ h : 0 < xs.length, xs[0].indent = 0)) (fun i _ => xs.length - (intOf i).toNat)
  case atStart => exact ⟨0, by omega, by omega, rfl, .refl _ _, rfl, fun h => by omega⟩
  case round =>
    obtain ⟨k, hk, hk2, rfl, hb, hall, hh⟩ := hrel
    have hbs := hb.size
    by_cases hlt : k < xs.length
    · by_cases hlt2 : k ≤ 200
      · obtain ⟨b, o, rfl, hbo, c0, c1⟩ := Rw.atB (h.below hb) k hlt
        have hbo2 : b < wr.heap.size := by omega
        have hsz := ht xs[k] (List.getElem_mem _)
        have hz : ((k : Int) == 0) = decide (k = 0) := by rw [Bool.eq_iff_iff]; simp
        cases hok : rowOk xs[k] with
        | false =>
          have HF := Lib.hid (lay_dies hlt hok)
          by_cases hk0 : k = 0
          · have hz' : ((k : Int) == 0) = true := by rw [hz]; exact decide_eq_true hk0
            clear hz
            by_cases hi0 : xs[k].indent = 0
            · have e0 : (xs[k].indent != 0) = false := by simp [hi0]
              clear hk0
              rcases rowOk_false hok with h1 | ⟨h1, h2⟩ | ⟨h1, h2, h3⟩ | ⟨h1, h2, h3, h4⟩
              · omega
              · omega
              all_goals
                have H3 := Lib.hid h3; clear hok h3
                clear hi0
                first
                  | (have hd : Hid ((decide (xs[k].text.size < 2000) && lineB xs[k].text) = false) := by show _ = _; rw [H3.out, Bool.and_false])
                  | (have hd : Hid ((decide (xs[k].text.size < 2000) && lineB xs[k].text) = false) := by show _ = _; rw [decide_eq_false (by omega), Bool.false_and])
                go_wp2_with (first | (go_at_call 67; refine (hd.out ▸ spec_l2Text xs[k].text _ hsz).mono ?_; rintro e w' ⟨_, rfl, hb', rfl⟩; obtain ⟨hc', hf'⟩ := bcell hb'; (try (have hz' : w.heap.size < w'.heap.size := (by have := hb'.size; simp at this; omega))); (try (have hzr : wr.heap.size < w'.heap.size := (by have := hb'.size; simp at this; omega)))))
                go_ret
                exact .mk (hb.trans (hb'.mono hbs)) (.mk HF.out)
            · have e0 : (xs[k].indent != 0) = true := by simpa using hi0
              clear hok hi0 hk0
              by_cases h1 : xs[k].indent < 0
              · go_wp2_with fail
                go_ret
                exact .mk hb (.mk HF.out)
              · by_cases h2 : 400 < xs[k].indent
                all_goals
                  go_wp2_with fail
                  go_ret
                  exact .mk hb (.mk HF.out)
          · have hz' : ((k : Int) == 0) = false := by rw [hz]; exact decide_eq_false hk0
            clear hz
            rcases rowOk_false hok with h1 | ⟨h1, h2⟩ | ⟨h1, h2, h3⟩ | ⟨h1, h2, h3, h4⟩
            · clear hok
              go_wp2_with fail
              go_ret
              exact .mk hb (.mk HF.out)
            · clear hok
              go_wp2_with fail
              go_ret
              exact .mk hb (.mk HF.out)
            all_goals
              have H3 := Lib.hid h3; clear hok h3
              first
                | (have hd : Hid ((decide (xs[k].text.size < 2000) && lineB xs[k].text) = false) := by show _ = _; rw [H3.out, Bool.and_false])
                | (have hd : Hid ((decide (xs[k].text.size < 2000) && lineB xs[k].text) = false) := by show _ = _; rw [decide_eq_false (by omega), Bool.false_and])
              go_wp2_with (first | (go_at_call 67; refine (hd.out ▸ spec_l2Text xs[k].text _ hsz).mono ?_; rintro e w' ⟨_, rfl, hb', rfl⟩; obtain ⟨hc', hf'⟩ := bcell hb'; (try (have hz' : w.heap.size < w'.heap.size := (by have := hb'.size; simp at this; omega))); (try (have hzr : wr.heap.size < w'.heap.size := (by have := hb'.size; simp at this; omega)))))
              go_ret
              exact .mk (hb.trans (hb'.mono hbs)) (.mk HF.out)
        | true =>
          obtain ⟨h1, h2, h3, h4⟩ := rowOk_true hok
          have HS := lay_next hlt hall hok
          have hd : Hid ((decide (xs[k].text.size < 2000) && lineB xs[k].text) = true) := by show _ = _; rw [h4, Bool.and_true]; exact decide_eq_true h3
          clear hok h4
          by_cases hk0 : k = 0
          · have hz' : ((k : Int) == 0) = true := by rw [hz]; exact decide_eq_true hk0
            clear hz
            by_cases hi0 : xs[k].indent = 0
            · have e0 : (xs[k].indent != 0) = false := by simp [hi0]
              have HI : Hid (0 < k + 1 → ∀ h : 0 < xs.length, xs[0].indent = 0) := fun _ _ => by subst hk0; exact hi0
              clear hi0 hk0
              go_wp2_with (first | (go_at_call 67; refine (hd.out ▸ spec_l2Text xs[k].text _ hsz).mono ?_; rintro e w' ⟨_, rfl, hb', rfl⟩; obtain ⟨hc', hf'⟩ := bcell hb'; (try (have hz' : w.heap.size < w'.heap.size := (by have := hb'.size; simp at this; omega))); (try (have hzr : wr.heap.size < w'.heap.size := (by have := hb'.size; simp at this; omega)))))
              have hbb := hb.trans (hb'.mono hbs)
              (first | (refine ⟨⟨k + 1, by omega, by omega, by go_num, hbb, HS, HI⟩, by simp [intOf] <;> omega⟩) | (go_roundw; case rel => exact ⟨k + 1, by omega, by omega, by go_num, hbb, HS, HI⟩; case measure => simp [intOf] <;> omega) | (go_round; case rel => exact ⟨k + 1, by omega, by omega, by go_num, hbb, HS, HI⟩; case measure => simp [intOf] <;> omega))
            · have HI := Lib.hid (lay_head (xs := xs) (by omega) (by subst hk0; exact hi0))
              have e0 : (xs[k].indent != 0) = true := by simpa using hi0
              clear hi0 hk0
              go_wp2_with fail
              go_ret
              exact .mk hb (.mk HI.out)
          · have hz' : ((k : Int) == 0) = false := by rw [hz]; exact decide_eq_false hk0
            clear hz
            go_wp2_with (first | (go_at_call 67; refine (hd.out ▸ spec_l2Text xs[k].text _ hsz).mono ?_; rintro e w' ⟨_, rfl, hb', rfl⟩; obtain ⟨hc', hf'⟩ := bcell hb'; (try (have hz' : w.heap.size < w'.heap.size := (by have := hb'.size; simp at this; omega))); (try (have hzr : wr.heap.size < w'.heap.size := (by have := hb'.size; simp at this; omega)))))
            have hbb := hb.trans (hb'.mono hbs)
            have hh' : Hid (0 < k + 1 → ∀ h : 0 < xs.length, xs[0].indent = 0) := fun _ h => hh.out (by omega) h
            (first | (refine ⟨⟨k + 1, by omega, by omega, by go_num, hbb, HS, hh'⟩, by simp [intOf] <;> omega⟩) | (go_roundw; case rel => exact ⟨k + 1, by omega, by omega, by go_num, hbb, HS, hh'⟩; case measure => simp [intOf] <;> omega) | (go_round; case rel => exact ⟨k + 1, by omega, by omega, by go_num, hbb, HS, hh'⟩; case measure => simp [intOf] <;> omega))
      · go_wp2_with fail
        go_ret
        refine .mk hb (.mk ?_)
        rw [lay_long (by omega)]
        (all_goals first | rfl | (simp; done) | (rw [Bool.eq_iff_iff]; simp; done) | (rw [Bool.eq_iff_iff]; simp; omega) | omega)
    · by_cases h0 : xs.length = 0
      · have h0' : xs.length < 1 := by omega
        clear h0
        go_wp2_with fail
        go_ret
        refine .mk hb (.mk ?_)
        rw [lay_long (by omega)]
        (all_goals first | rfl | (simp; done) | (rw [Bool.eq_iff_iff]; simp; done) | (rw [Bool.eq_iff_iff]; simp; omega) | omega)
      · by_cases h200 : xs.length ≤ 200
        · go_wp2_with fail
          go_ret
          refine .mk hb (.mk ?_)
          rw [lay_all hlt hall (by omega) h200 (hh.out (by omega) (by omega))]
          (all_goals first | rfl | (simp; done) | (rw [Bool.eq_iff_iff]; simp; done) | (rw [Bool.eq_iff_iff]; simp; omega) | omega)
        · go_wp2_with fail
          go_ret
          refine .mk hb (.mk ?_)
          rw [lay_long (by omega)]
          (all_goals first | rfl | (simp; done) | (rw [Bool.eq_iff_iff]; simp; done) | (rw [Bool.eq_iff_iff]; simp; omega) | omega)
end Go.Proofs.Ytcnbnggfddmkbaa

/- strings.IndexByte, and TextValid of the program and of the reference. -/
import Derived.Test.YtpdpmcllpafjbaaProg
import Derived.Test.YtpdpmcllpafjbaaPost
import Derived.Lib.Strings
import Derived.Lib.Slices
import Derived.Lib.Walk
import Derived.Lib.Bytealg
namespace Go.Proofs.Ytpdpmcllpafjbaa
open Go.RowKit
set_option linter.unusedVariables false
set_option linter.unusedSimpArgs false

set_option maxHeartbeats 1000000 in
set_option maxRecDepth 100000 in
theorem stringslite_IndexByte (s : ByteArray) (c : Int) (w : World) :
    Calls Try.prog 144 #[.string s, .int .u8 c] w fun e w' => e = .returned (.int .i64 (Lib.indexByte s.data.toList c.toNat.toUInt8)) ∧ w' = w := by
  go_enter Try.func144, Try.ntmps144
  go_wp2
  rw [run_callFunc_extern Try.func158 (by kernel_rfl) (by kernel_rfl) (by kernel_rfl) (e := Extern.BytealgIndexByte.indexByte) (by kernel_rfl), Lib.run_indexByteString]
  simp only [Result.andThen]
  rw [Oper.upon_value]
  go_wp2
  go_ret
  exact ⟨rfl, rfl⟩

set_option maxHeartbeats 1000000 in
theorem strings_IndexByte (s : ByteArray) (c : Int) (w : World) :
    Calls Try.prog 105 #[.string s, .int .u8 c] w fun e w' => e = .returned (.int .i64 (Lib.indexByte s.data.toList c.toNat.toUInt8)) ∧ w' = w := by
  go_enter Try.func105, Try.ntmps105
  go_wp2_with (go_at_call 144; refine (stringslite_IndexByte _ _ _).mono ?_; rintro e w' ⟨rfl, rfl⟩)
  go_ret
  exact ⟨rfl, rfl⟩

/-- The signs of a text. -/
def sgnB (c : Nat) : Bool := c == 44 || c == 58 || c == 61 || c == 123 || c == 125 || c == 40 || c == 41 || c == 91 || c == 93
/-- The bytes of a text. -/
def chB (c : Nat) : Bool := decide (97 ≤ c ∧ c ≤ 122) || decide (48 ≤ c ∧ c ≤ 57) || sgnB c
def textB (s : ByteArray) : Bool := decide (1 ≤ s.size ∧ s.size ≤ 12) && s.data.toList.all fun b => chB b.toNat

theorem idx_signs : ∀ c : Fin 256, decide (0 ≤ Lib.indexByte [44, 58, 61, 123, 125, 40, 41, 91, 93] c.val.toUInt8) = sgnB c.val := by decide +kernel

theorem IndexByte_signs (u : UInt8) (w : World) :
    Calls Try.prog 105 #[.string ⟨#[44, 58, 61, 123, 125, 40, 41, 91, 93]⟩, .int .u8 u.toNat] w fun e w' => ∃ r, e = .returned (.int .i64 r) ∧ w' = w ∧ (0 ≤ r ↔ sgnB u.toNat = true) := by
  refine (strings_IndexByte _ _ _).mono ?_
  rintro e w' ⟨rfl, rfl⟩
  refine ⟨_, rfl, rfl, ?_⟩
  have h := idx_signs ⟨u.toNat, u.toNat_lt⟩
  rw [← h]
  simp

theorem all_of {s : ByteArray} (h : ∀ j (hj : j < s.size), chB s[j].toNat = true) : (s.data.toList.all fun b => chB b.toNat) = true := by
  rw [List.all_eq_true]
  intro b hb
  obtain ⟨j, hj, rfl⟩ := List.getElem_of_mem hb
  have hj' : j < s.size := by simpa using hj
  exact h j hj'
theorem not_all {s : ByteArray} {j : Nat} (hj : j < s.size) (h : chB s[j].toNat = false) : (s.data.toList.all fun b => chB b.toNat) = false := by
  rw [List.all_eq_false]
  refine ⟨s[j], ?_, by simp [h]⟩
  have : s[j] = s.data.toList[j]'(by simpa using hj) := by simp; rfl
  rw [this]; exact List.getElem_mem _

theorem textB_false {s : ByteArray} {j : Nat} (hj : j < s.size) (h : chB s[j].toNat = false) : false = textB s := by
  rw [textB, not_all hj h, Bool.and_false]
theorem chB_no {c : Nat} (hg : sgnB c = false) (h : c < 48 ∨ 57 < c) (h' : c < 97 ∨ 122 < c) : chB c = false := by
  simp only [chB, hg, Bool.or_false, Bool.or_eq_false_iff, decide_eq_false_iff_not]; omega
theorem chB_yes {c : Nat} (h : sgnB c = true ∨ (48 ≤ c ∧ c ≤ 57) ∨ (97 ≤ c ∧ c ≤ 122)) : chB c = true := by
  simp only [chB, Bool.or_eq_true, decide_eq_true_eq]
  rcases h with h | h | h
  · exact .inr h
  · exact .inl (.inr h)
  · exact .inl (.inl h)
theorem all_next {s : ByteArray} {k : Nat} (hlt : k < s.size) (hall : Hid (∀ j (hj : j < s.size), j < k → chB s[j].toNat = true)) (h : chB s[k].toNat = true) :
    Hid (∀ j (hj : j < s.size), j < k + 1 → chB s[j].toNat = true) := fun j hj h' => by
  by_cases e : j < k
  · exact hall.out j hj e
  · obtain rfl : j = k := by omega
    exact h
theorem textB_end {s : ByteArray} {k : Nat} (hlt : ¬ k < s.size) (hall : Hid (∀ j (hj : j < s.size), j < k → chB s[j].toNat = true)) : textB s = decide (1 ≤ s.size ∧ s.size ≤ 12) := by
  rw [textB, all_of fun j hj => hall.out j hj (by omega), Bool.and_true]

theorem range5 (c : Nat) : c < 48 ∨ (48 ≤ c ∧ c ≤ 57) ∨ (58 ≤ c ∧ c < 97) ∨ (97 ≤ c ∧ c ≤ 122) ∨ 122 < c := by omega

set_option maxHeartbeats 1000000 in
theorem impl_TextValid (s : ByteArray) (w : World) (hs : s.size ≤ maxLen) :
    Calls Try.prog 64 #[.string s] w (Post w (BoolP (textB s))) := by
  unfold maxLen at hs
  go_enter Try.func64, Try.ntmps64
  go_wp2_with fail
  go_loop [3] (fun i => ∃ k : Nat, k ≤ s.size ∧ i = .int .i64 k ∧ Hid (∀ j (hj : j < s.size), j < k → chB s[j].toNat = true)) (fun i => s.size - (intOf i).toNat)
  case atStart => exact ⟨0, by omega, rfl, fun j hj h => by omega⟩
  case round =>
    obtain ⟨k, hk, rfl, hall⟩ := hrel
    by_cases hlt : k < s.size
    · have hu : s[k].toNat < 256 := s[k].toNat_lt
      have hr5 := range5 s[k].toNat
      cases hg : sgnB s[k].toNat
      all_goals
        have HG := Lib.hid hg
        rcases hr5 with h1 | ⟨h1, h2⟩ | ⟨h1, h2⟩ | ⟨h1, h2⟩ | h1
        all_goals
          go_wp2_with (first | (go_at_call 105; refine (IndexByte_signs _ _).mono ?_; rintro e w' ⟨r, rfl, rfl, hr⟩))
          all_goals first
            | (exfalso; go_tidy; simp only [Bool.not_eq_true', Bool.not_eq_false', decide_eq_true_eq, decide_eq_false_iff_not] at *; omega)
            | (go_ret; exact .mk (.refl _ _) (.mk (textB_false hlt (chB_no HG.out (by omega) (by omega)))))
            | (have ha := all_next hlt hall (chB_yes (by first | exact .inl HG.out | (right; omega)))
               (first | (refine ⟨⟨k + 1, by omega, by go_num, ha⟩, by simp [intOf] <;> omega⟩) | (go_roundw; case rel => exact ⟨k + 1, by omega, by go_num, ha⟩; case measure => simp [intOf] <;> omega) | (go_round; case rel => exact ⟨k + 1, by omega, by go_num, ha⟩; case measure => simp [intOf] <;> omega)))
    · go_wp2_with fail
      all_goals
        go_ret
        refine .mk (.refl _ _) (.mk ?_)
        rw [textB_end hlt hall, Bool.eq_iff_iff]
        simp <;> omega

theorem cases12 (c : Nat) : c = 44 ∨ c = 58 ∨ c = 61 ∨ c = 123 ∨ c = 125 ∨ c = 40 ∨ c = 41 ∨ c = 91 ∨ c = 93 ∨ (48 ≤ c ∧ c ≤ 57) ∨ (97 ≤ c ∧ c ≤ 122) ∨ (sgnB c = false ∧ (c < 48 ∨ 57 < c) ∧ (c < 97 ∨ 122 < c)) := by
  by_cases h : sgnB c = true
  · simp only [sgnB, Bool.or_eq_true, beq_iff_eq] at h; omega
  · have h' : sgnB c = false := by simpa using h
    simp only [h', true_and]; omega
theorem sgn_ne {c : Nat} (h : sgnB c = false) : ((c : Int) == 44) = false ∧ ((c : Int) == 58) = false ∧ ((c : Int) == 61) = false ∧ ((c : Int) == 123) = false ∧ ((c : Int) == 125) = false ∧ ((c : Int) == 40) = false ∧ ((c : Int) == 41) = false ∧ ((c : Int) == 91) = false ∧ ((c : Int) == 93) = false := by
  simp only [sgnB, Bool.or_eq_false_iff, beq_eq_false_iff_ne] at *; omega

set_option maxHeartbeats 4000000 in
theorem spec_TextValid (s : ByteArray) (w : World) (hs : s.size ≤ maxLen) :
    Calls Try.prog 104 #[.string s] w (Post w (BoolP (textB s))) := by
  unfold maxLen at hs
  by_cases h12 : 1 ≤ s.size ∧ s.size ≤ 12
  · go_enter Try.func104, Try.ntmps104
    go_wp2_with fail
    go_loop [3] (fun i => ∃ k : Nat, k ≤ s.size ∧ i = .int .i64 k ∧ Hid (∀ j (hj : j < s.size), j < k → chB s[j].toNat = true)) (fun i => s.size - (intOf i).toNat)
    case atStart => exact ⟨0, by omega, rfl, fun j hj h => by omega⟩
    case round =>
      obtain ⟨k, hk, rfl, hall⟩ := hrel
      by_cases hlt : k < s.size
      · have hu : s[k].toNat < 256 := s[k].toNat_lt
        rcases cases12 s[k].toNat with hc | hc | hc | hc | hc | hc | hc | hc | hc | hc | hc | ⟨hg, hc, hc'⟩
        any_goals
          have ha := all_next hlt hall (chB_yes (by first | (right; omega) | (left; rw [hc]; rfl)))
          try (have h1 := hc.1; have h2 := hc.2; clear hc)
          go_wp2_with fail
          all_goals first
            | (first | (refine ⟨⟨k + 1, by omega, by go_num, ha⟩, by simp [intOf] <;> omega⟩) | (go_roundw; case rel => exact ⟨k + 1, by omega, by go_num, ha⟩; case measure => simp [intOf] <;> omega) | (go_round; case rel => exact ⟨k + 1, by omega, by go_num, ha⟩; case measure => simp [intOf] <;> omega))
            | (exfalso; go_tidy; simp only [Bool.not_eq_true', Bool.not_eq_false', decide_eq_true_eq, decide_eq_false_iff_not] at *; omega)
        · have hf := textB_false hlt (chB_no hg hc hc')
          have HF := Lib.hid hf; clear hf
          obtain ⟨n1, n2, n3, n4, n5, n6, n7, n8, n9⟩ := sgn_ne hg
          clear hg
          rcases hc with hc | hc
          all_goals rcases hc' with hc' | hc'
          all_goals
            try (exfalso; omega)
            go_wp2_with fail
            all_goals first
              | (go_ret; exact .mk (.refl _ _) (.mk HF.out))
              | (exfalso; go_tidy; simp only [Bool.not_eq_true', Bool.not_eq_false', decide_eq_true_eq, decide_eq_false_iff_not] at *; omega)
      · go_wp2_with fail
        all_goals
          go_ret
          refine .mk (.refl _ _) (.mk ?_)
          rw [textB_end hlt hall, Bool.eq_iff_iff]
          simp <;> omega
  · go_enter Try.func104, Try.ntmps104
    go_wp2_with fail
    all_goals
      first
      | (exfalso; go_tidy; simp only [Bool.not_eq_true', Bool.not_eq_false', decide_eq_true_eq, decide_eq_false_iff_not] at *; omega)
      | (go_ret
         refine .mk (.refl _ _) (.mk ?_)
         rw [textB, decide_eq_false h12, Bool.false_and])
end Go.Proofs.Ytpdpmcllpafjbaa

/- TokensValid of the program and of the reference: both tell what 'tokensB' tells. -/
import Derived.Test.YtpdpmcllpafjbaaIdx
import Derived.Test.YtpdpmcllpafjbaaTok
namespace Go.Proofs.Ytpdpmcllpafjbaa
open Go.RowKit
set_option linter.unusedVariables false
set_option linter.unusedSimpArgs false

def tokOk (t : Tok) : Bool :=
  if t.kind = 1 then textB t.text && decide (t.n = 0)
  else if t.kind = 7 then decide (t.text.size = 0 ∧ 0 ≤ t.n ∧ t.n ≤ 9)
  else decide (2 ≤ t.kind ∧ t.kind ≤ 8 ∧ t.text.size = 0 ∧ t.n = 0)

/-- One token more, with what is open; none: not valid. -/
def tvStep (op : List Int) (t : Tok) : Option (List Int) :=
  if tokOk t = false then none
  else if t.kind = 5 ∨ t.kind = 7 then (if op.length < 50 then some (op ++ [t.kind]) else none)
  else if t.kind = 6 ∨ t.kind = 8 then (if op.getLast? = some (t.kind - 1) then some op.dropLast else none)
  else some op

def tvRun : List Int → List Tok → Option (List Int)
  | op, [] => some op
  | op, t :: ts => (tvStep op t).bind fun o => tvRun o ts

def tokensB (xs : List Tok) : Bool := decide (xs.length < 200) && (tvRun [] xs == some [])

theorem tvRun_append (op : List Int) (xs ys : List Tok) : tvRun op (xs ++ ys) = (tvRun op xs).bind fun o => tvRun o ys := by
  induction xs generalizing op with
  | nil => rfl
  | cons t ts ih =>
    simp only [List.cons_append, tvRun]
    cases tvStep op t with
    | none => rfl
    | some o => simp [ih]

theorem tv_next {xs : List Tok} {k : Nat} {op : List Int} (h : Hid (tvRun [] (xs.take k) = some op)) (hk : k < xs.length) {op' : List Int} (hs : tvStep op xs[k] = some op') : Hid (tvRun [] (xs.take (k + 1)) = some op') := by
  show _ = _
  rw [List.take_succ_eq_append_getElem hk, tvRun_append, h.out]
  simp [tvRun, hs]
theorem tv_dies {xs : List Tok} {k : Nat} {op : List Int} (h : Hid (tvRun [] (xs.take k) = some op)) (hk : k < xs.length) (hs : tvStep op xs[k] = none) : false = tokensB xs := by
  have e : tvRun [] xs = none := by
    have h1 : xs = (xs.take k ++ [xs[k]]) ++ xs.drop (k + 1) := by rw [← List.take_succ_eq_append_getElem hk, List.take_append_drop]
    rw [h1, tvRun_append, tvRun_append, h.out]
    simp [tvRun, hs]
  rw [tokensB, e]; simp
theorem tv_end {xs : List Tok} {k : Nat} {op : List Int} (h : Hid (tvRun [] (xs.take k) = some op)) (hk : ¬ k < xs.length) (hl : xs.length < 200) : tokensB xs = decide (op.length = 0) := by
  have e := h.out
  rw [List.take_of_length_le (by omega)] at e
  rw [tokensB, e, decide_eq_true hl, Bool.true_and, Bool.eq_iff_iff]
  simp

theorem tvStep_bad {op : List Int} {t : Tok} (h : tokOk t = false) : tvStep op t = none := by rw [tvStep, if_pos h]

theorem spec_l6Is (t : Tok) (w : World) (ht : t.text.size ≤ maxLen) :
    Calls Try.prog 62 #[.agg #[.int .i64 t.kind, .int .i64 t.n, .string t.text]] w (Post w (BoolP (tokOk t))) := by
  by_cases h1 : t.kind = 1
  · cases hb : textB t.text
    all_goals
      have HB := Lib.hid hb; clear hb
      have H1 := Lib.hid h1
      have h1' : (t.kind == 1) = true := by simpa using h1
      clear h1
      go_enter Try.func62, Try.ntmps62
      go_wp2_with (go_at_call 104; refine (HB.out ▸ spec_TextValid t.text _ ht).mono ?_; rintro e w' ⟨_, rfl, hb', rfl⟩; obtain ⟨hc', hf'⟩ := bcell hb'; (try (have hz' : w.heap.size < w'.heap.size := (by have := hb'.size; simp at this; omega))); (try (have hzr : wr.heap.size < w'.heap.size := (by have := hb'.size; simp at this; omega))))
      all_goals
        go_ret
        refine .mk ((Below.alloc (.refl _ _) (Nat.le_refl _) _).trans (hb'.mono (by simp))) (.mk ?_)
        rw [tokOk, if_pos H1.out, HB.out]
        first | rfl | (simp; done) | skip
  · have h1' : (t.kind == 1) = false := by simpa using h1
    have H1 := Lib.hid h1
    by_cases h7 : t.kind = 7
    · have h7' : (t.kind == 7) = true := by simpa using h7
      have H7 := Lib.hid h7; clear h7 h1
      go_enter Try.func62, Try.ntmps62
      go_wp2_with fail
      all_goals
        go_ret
        refine .mk (by repeat' (first | exact Below.refl _ _ | assumption | (refine Below.drew ?_) | (refine below_draws ?_ _) | (refine Below.alloc ?_ ?_ _) | (refine Below.setCell ?_ ?_ _) | (refine below_and ?_ (by assumption)) | (refine Below.trans ?_ (Below.mono (by assumption) ?_)) | omega | (simp; done) | (simp; omega))) (.mk ?_)
        rw [tokOk, if_neg H1.out, if_pos H7.out, Bool.eq_iff_iff]
        have e := str_emp (s := t.text)
        go_tidy
        simp_all
        try omega
    · have h7' : (t.kind == 7) = false := by simpa using h7
      have H7 := Lib.hid h7; clear h7 h1
      go_enter Try.func62, Try.ntmps62
      go_wp2_with fail
      all_goals
        go_ret
        refine .mk (by repeat' (first | exact Below.refl _ _ | assumption | (refine Below.drew ?_) | (refine below_draws ?_ _) | (refine Below.alloc ?_ ?_ _) | (refine Below.setCell ?_ ?_ _) | (refine below_and ?_ (by assumption)) | (refine Below.trans ?_ (Below.mono (by assumption) ?_)) | omega | (simp; done) | (simp; omega))) (.mk ?_)
        rw [tokOk, if_neg H1.out, if_neg H7.out, Bool.eq_iff_iff]
        have e := str_emp (s := t.text)
        go_tidy
        simp_all
        try omega

theorem step_push {op : List Int} {t : Tok} (h : tokOk t = true) (hk : t.kind = 5 ∨ t.kind = 7) (hl : op.length < 50) : tvStep op t = some (op ++ [t.kind]) := by
  rw [tvStep, if_neg (by simp [h]), if_pos hk, if_pos hl]
theorem step_full {op : List Int} {t : Tok} (h : tokOk t = true) (hk : t.kind = 5 ∨ t.kind = 7) (hl : ¬ op.length < 50) : tvStep op t = none := by
  rw [tvStep, if_neg (by simp [h]), if_pos hk, if_neg hl]
theorem step_none {t : Tok} (h : tokOk t = true) (hk : t.kind = 6 ∨ t.kind = 8) : tvStep [] t = none := by
  rw [tvStep, if_neg (by simp [h]), if_neg (by omega), if_pos hk, if_neg (by simp)]
theorem step_pop {os : List Int} {l : Int} {t : Tok} (h : tokOk t = true) (hk : t.kind = 6 ∨ t.kind = 8) (hl : l = t.kind - 1) : tvStep (os ++ [l]) t = some os := by
  rw [tvStep, if_neg (by simp [h]), if_neg (by omega), if_pos hk, if_pos (by simp [hl])]; simp
theorem step_miss {os : List Int} {l : Int} {t : Tok} (h : tokOk t = true) (hk : t.kind = 6 ∨ t.kind = 8) (hl : l ≠ t.kind - 1) : tvStep (os ++ [l]) t = none := by
  rw [tvStep, if_neg (by simp [h]), if_neg (by omega), if_pos hk, if_neg (by simpa using hl)]
theorem step_other {op : List Int} {t : Tok} (h : tokOk t = true) (hk : ¬ (t.kind = 5 ∨ t.kind = 7)) (hk' : ¬ (t.kind = 6 ∨ t.kind = 8)) : tvStep op t = some op := by
  rw [tvStep, if_neg (by simp [h]), if_neg hk, if_neg hk']
theorem kind_of {t : Tok} (h : tokOk t = true) : 1 ≤ t.kind ∧ t.kind ≤ 8 := by
  unfold tokOk at h
  split at h
  · omega
  · split at h
    · omega
    · simp at h; omega

set_option maxHeartbeats 40000000 in
set_option maxRecDepth 100000 in
theorem spec_TokensValid (xs : List Tok) (A : Option Addr) (cap : Nat) (w : World) (h : SlAt w (· < w.heap.size) A cap xs) (ht : ∀ t ∈ xs, t.text.size ≤ maxLen) :
    Calls Try.prog 20 #[.slice A xs.length cap] w (Post w (BoolP (tokensB xs))) := by
  have hl := h.1
  have hm := h.2.1
  unfold maxLen at hm
  go_enter Try.func20, Try.ntmps20
  go_wp2_with fail
  have hown0 : OwnS (w.alloc (.cells #[] 3)) w.heap.size 3 (.slice (some ⟨w.heap.size, 0, none⟩) 0 0) ([] : List Int) := OwnS.lit w 3 #[] [] (Nat.le_refl _) (by simp) rfl
  go_loopw [3, 4] (fun v i wr => ∃ (k : Nat) (op : List Int) (A' : Option Addr) (n c : Nat), k ≤ xs.length ∧ k ≤ 200 ∧ i = .int .i64 k ∧ v = .slice A' n c ∧ n = op.length ∧ n ≤ c ∧ c ≤ 9223372036854775807 ∧ n ≤ 50 ∧ OwnS wr w.heap.size 3 (.slice A' n c) op ∧ Below w.heap.size w wr ∧ Hid (tvRun [] (xs.take k) = some op)) (fun _ i _ => xs.length - (intOf i).toNat)
  case atStart => exact ⟨0, [], _, 0, 0, by omega, by omega, rfl, rfl, rfl, by omega, by omega, by omega, hown0, (by repeat' (first | exact Below.refl _ _ | assumption | (refine Below.drew ?_) | (refine below_draws ?_ _) | (refine Below.alloc ?_ ?_ _) | (refine Below.setCell ?_ ?_ _) | (refine below_and ?_ (by assumption)) | (refine Below.trans ?_ (Below.mono (by assumption) ?_)) | omega | (simp; done) | (simp; omega))), rfl⟩
  case round =>
    obtain ⟨k, op, A', n, c, hk, hk2, rfl, rfl, hn, hnc, hc, hn50, hown, hb, hs⟩ := hrel
    have HN := Lib.hid hn; clear hn hown0
    have hbs := hb.size
    by_cases hlt : k < xs.length ∧ k < 200
    · obtain ⟨hlt, hlt2⟩ := hlt
      obtain ⟨b, o, rfl, hbo, c0, c1, c2⟩ := Tok.atB (h.below hb) k hlt
      have hbo2 : b < wr.heap.size := by omega
      have hsz := ht xs[k] (List.getElem_mem _)
      cases hok : tokOk xs[k] with
      | false =>
        have HD := Lib.hid (tv_dies hs hlt (tvStep_bad hok))
        have HO := Lib.hid hok; clear hok
        go_wp2_with (go_at_call 62; refine (HO.out ▸ spec_l6Is xs[k] _ hsz).mono ?_; rintro e w' ⟨_, rfl, hb', rfl⟩; obtain ⟨hc', hf'⟩ := bcell hb'; (try (have hz' : w.heap.size < w'.heap.size := (by have := hb'.size; simp at this; omega))); (try (have hzr : wr.heap.size < w'.heap.size := (by have := hb'.size; simp at this; omega))))
        go_ret
        exact .mk (hb.trans (hb'.mono hbs)) (.mk HD.out)
      | true =>
        have HO := Lib.hid hok; clear hok
        have hkk := kind_of HO.out
        by_cases h57 : xs[k].kind = 5 ∨ xs[k].kind = 7
        · by_cases hfull : op.length < 50
          · have HS := tv_next hs hlt (step_push HO.out h57 hfull)
            have hfull' : n < 50 := by have := HN.out; omega
            have H57 := Lib.hid h57
            have e1 : (xs[k].kind == 6) = false := by simp; omega
            have e2 : (xs[k].kind == 8) = false := by simp; omega
            rcases h57 with h5 | h5
            · have e3 : (xs[k].kind == 5) = true := by simp [h5]
              clear h5
              go_wp2_with (first | (go_at_call 62; refine (HO.out ▸ spec_l6Is xs[k] _ hsz).mono ?_; rintro e w' ⟨_, rfl, hb', rfl⟩; obtain ⟨hc', hf'⟩ := bcell hb'; (try (have hz' : w.heap.size < w'.heap.size := (by have := hb'.size; simp at this; omega))); (try (have hzr : wr.heap.size < w'.heap.size := (by have := hb'.size; simp at this; omega))); have hs' := hb'.size; have hbn := hown.below hb' (Nat.le_refl _); clear hf') | (at_builtin; refine SlT.push slInt rfl _ _ rfl rfl rfl rfl (hbn) (by omega) (by unfold maxLen; omega) (by first | omega | (simp; omega)) ?_; intro v2 w2 hown2 hg2; obtain ⟨A2, c2, rfl, hle2, hcm2, -⟩ := hown2.len; clear hc'))
              have hbb := (hb.trans (hb'.mono hbs)).trans (grown_below hbn hg2 (Nat.le_refl _) (by omega))
              unfold maxLen at hcm2
              rw [List.length_append] at hle2 hown2
              (first | (refine ⟨⟨k + 1, _, A2, op.length + 1, c2, by omega, by omega, by go_num, rfl, by simp, hle2, by omega, by omega, hown2, hbb, HS⟩, by simp [intOf] <;> omega⟩) | (go_roundw; case rel => exact ⟨k + 1, _, A2, op.length + 1, c2, by omega, by omega, by go_num, rfl, by simp, hle2, by omega, by omega, hown2, hbb, HS⟩; case measure => simp [intOf] <;> omega) | (go_round; case rel => exact ⟨k + 1, _, A2, op.length + 1, c2, by omega, by omega, by go_num, rfl, by simp, hle2, by omega, by omega, hown2, hbb, HS⟩; case measure => simp [intOf] <;> omega))
            · have e3 : (xs[k].kind == 5) = false := by simp [h5]
              have e4 : (xs[k].kind == 7) = true := by simp [h5]
              clear h5
              go_wp2_with (first | (go_at_call 62; refine (HO.out ▸ spec_l6Is xs[k] _ hsz).mono ?_; rintro e w' ⟨_, rfl, hb', rfl⟩; obtain ⟨hc', hf'⟩ := bcell hb'; (try (have hz' : w.heap.size < w'.heap.size := (by have := hb'.size; simp at this; omega))); (try (have hzr : wr.heap.size < w'.heap.size := (by have := hb'.size; simp at this; omega))); have hs' := hb'.size; have hbn := hown.below hb' (Nat.le_refl _); clear hf') | (at_builtin; refine SlT.push slInt rfl _ _ rfl rfl rfl rfl (hbn) (by omega) (by unfold maxLen; omega) (by first | omega | (simp; omega)) ?_; intro v2 w2 hown2 hg2; obtain ⟨A2, c2, rfl, hle2, hcm2, -⟩ := hown2.len; clear hc'))
              have hbb := (hb.trans (hb'.mono hbs)).trans (grown_below hbn hg2 (Nat.le_refl _) (by omega))
              unfold maxLen at hcm2
              rw [List.length_append] at hle2 hown2
              (first | (refine ⟨⟨k + 1, _, A2, op.length + 1, c2, by omega, by omega, by go_num, rfl, by simp, hle2, by omega, by omega, hown2, hbb, HS⟩, by simp [intOf] <;> omega⟩) | (go_roundw; case rel => exact ⟨k + 1, _, A2, op.length + 1, c2, by omega, by omega, by go_num, rfl, by simp, hle2, by omega, by omega, hown2, hbb, HS⟩; case measure => simp [intOf] <;> omega) | (go_round; case rel => exact ⟨k + 1, _, A2, op.length + 1, c2, by omega, by omega, by go_num, rfl, by simp, hle2, by omega, by omega, hown2, hbb, HS⟩; case measure => simp [intOf] <;> omega))
          · have HD := Lib.hid (tv_dies hs hlt (step_full HO.out h57 hfull))
            have hfull' : n = 50 := by have := HN.out; omega
            have hfull2 : 50 ≤ op.length := by omega
            have hfull3 : op.length ≤ 50 := by have := HN.out; omega
            clear hfull'
            rcases h57 with h5 | h5
            · have e3 : (xs[k].kind == 5) = true := by simp [h5]
              clear h5
              go_wp2_with (first | (go_at_call 62; refine (HO.out ▸ spec_l6Is xs[k] _ hsz).mono ?_; rintro e w' ⟨_, rfl, hb', rfl⟩; obtain ⟨hc', hf'⟩ := bcell hb'; (try (have hz' : w.heap.size < w'.heap.size := (by have := hb'.size; simp at this; omega))); (try (have hzr : wr.heap.size < w'.heap.size := (by have := hb'.size; simp at this; omega))); have hs' := hb'.size; have hbn := hown.below hb' (Nat.le_refl _); clear hf') | (at_builtin; refine SlT.push slInt rfl _ _ rfl rfl rfl rfl (hbn) (by omega) (by unfold maxLen; omega) (by first | omega | (simp; omega)) ?_; intro v2 w2 hown2 hg2; obtain ⟨A2, c2, rfl, hle2, hcm2, -⟩ := hown2.len; clear hc'))
              have hbb := (hb.trans (hb'.mono hbs)).trans (grown_below hbn hg2 (Nat.le_refl _) (by omega))
              go_ret
              exact .mk hbb (.mk HD.out)
            · have e3 : (xs[k].kind == 5) = false := by simp [h5]
              have e4 : (xs[k].kind == 7) = true := by simp [h5]
              clear h5
              go_wp2_with (first | (go_at_call 62; refine (HO.out ▸ spec_l6Is xs[k] _ hsz).mono ?_; rintro e w' ⟨_, rfl, hb', rfl⟩; obtain ⟨hc', hf'⟩ := bcell hb'; (try (have hz' : w.heap.size < w'.heap.size := (by have := hb'.size; simp at this; omega))); (try (have hzr : wr.heap.size < w'.heap.size := (by have := hb'.size; simp at this; omega))); have hs' := hb'.size; have hbn := hown.below hb' (Nat.le_refl _); clear hf') | (at_builtin; refine SlT.push slInt rfl _ _ rfl rfl rfl rfl (hbn) (by omega) (by unfold maxLen; omega) (by first | omega | (simp; omega)) ?_; intro v2 w2 hown2 hg2; obtain ⟨A2, c2, rfl, hle2, hcm2, -⟩ := hown2.len; clear hc'))
              have hbb := (hb.trans (hb'.mono hbs)).trans (grown_below hbn hg2 (Nat.le_refl _) (by omega))
              go_ret
              exact .mk hbb (.mk HD.out)
        · by_cases h68 : xs[k].kind = 6 ∨ xs[k].kind = 8
          · have e1 : (xs[k].kind == 5) = false := by simp; omega
            have e2 : (xs[k].kind == 7) = false := by simp; omega
            have e68 : ((xs[k].kind == 6) = true ∧ (xs[k].kind == 8) = false) ∨ ((xs[k].kind == 6) = false ∧ (xs[k].kind == 8) = true) := by
              rcases h68 with h6 | h6 <;> simp [h6]
            rcases snoc_cases op with rfl | ⟨os, l, rfl⟩
            · have HD := Lib.hid (tv_dies hs hlt (step_none HO.out h68))
              have en : ((n : Int) == 0) = true := by have := HN.out; simp at this; simp [this]
              clear h57 h68
              rcases e68 with ⟨e3, e4⟩ | ⟨e3, e4⟩
              all_goals
                go_wp2_with (go_at_call 62; refine (HO.out ▸ spec_l6Is xs[k] _ hsz).mono ?_; rintro e w' ⟨_, rfl, hb', rfl⟩; obtain ⟨hc', hf'⟩ := bcell hb'; (try (have hz' : w.heap.size < w'.heap.size := (by have := hb'.size; simp at this; omega))); (try (have hzr : wr.heap.size < w'.heap.size := (by have := hb'.size; simp at this; omega))); have hs' := hb'.size; have hbn := hown.below hb' (Nat.le_refl _); clear hf')
                go_quiet (fail)
                go_wp2_with fail
                go_ret
                exact .mk (below_draws (hb.trans (hb'.mono hbs)) _) (.mk HD.out)
            · obtain ⟨g, rfl, hg1, hg2, hn1, hgc⟩ := hown.last
              subst hn1
              clear HN
              have en : ((os.length : Int) + 1 == 0) = false := by simp; omega
              have ew : IntKind.i64.wrap ((os.length : Int) + 1 - 1) = os.length := by rw [Int.add_sub_cancel]; exact IntWalk.i64_in _ (by omega)
              have ew2 : IntKind.i64.wrap (xs[k].kind - 1) = xs[k].kind - 1 := IntWalk.i64_in _ (by omega)
              by_cases hl1 : l = xs[k].kind - 1
              · have HS := tv_next hs hlt (step_pop HO.out h68 hl1)
                have el : (l != xs[k].kind - 1) = false := by simp [hl1]
                have el7 : (xs[k].kind == 8) = true → (l != 7) = false := fun h => by simp at h; simp [hl1, h]
                have el6 : (xs[k].kind == 6) = true → (l != 7) = true := fun h => by simp at h; simp [hl1, h]
                clear h57 h68 hl1
                have fin : ∀ w' nq, Below wr.heap.size wr w' → Below w.heap.size w (w'.drewN nq) ∧ OwnS (w'.drewN nq) w.heap.size 3 (.slice (some ⟨g, 0, none⟩) os.length c) os := fun w' nq hb' => by
                  refine ⟨below_draws (hb.trans (hb'.mono hbs)) _, OwnS.draws ?_ _⟩
                  have h1 := hown.below hb' (Nat.le_refl _)
                  have h2 := OwnS.take (xs := os ++ [l]) (by rw [List.length_append]; exact h1) os.length (by simp)
                  rwa [List.take_left] at h2
                have FIN := Lib.hid fin; clear fin
                rcases e68 with ⟨e3, e4⟩ | ⟨e3, e4⟩
                · have el8 := el6 e3
                  clear el7 el6
                  go_wp2_with (first | (go_at_call 62; refine (HO.out ▸ spec_l6Is xs[k] _ hsz).mono ?_; rintro e w' ⟨_, rfl, hb', rfl⟩; obtain ⟨hc', hf'⟩ := bcell hb'; (try (have hz' : w.heap.size < w'.heap.size := (by have := hb'.size; simp at this; omega))); (try (have hzr : wr.heap.size < w'.heap.size := (by have := hb'.size; simp at this; omega))); have hs' := hb'.size; have hbn := hown.below hb' (Nat.le_refl _); clear hf'))
                  have HB := Lib.hid hb'
                  go_quiet (fail)
                  go_wp2_with fail
                  obtain ⟨f1, f2⟩ := FIN.out _ nq HB.out
                  (first | (refine ⟨⟨k + 1, os, some ⟨g, 0, none⟩, os.length, c, by omega, by omega, by go_num, rfl, rfl, by omega, by omega, by omega, f2, f1, HS⟩, by simp [intOf] <;> omega⟩) | (go_roundw; case rel => exact ⟨k + 1, os, some ⟨g, 0, none⟩, os.length, c, by omega, by omega, by go_num, rfl, rfl, by omega, by omega, by omega, f2, f1, HS⟩; case measure => simp [intOf] <;> omega) | (go_round; case rel => exact ⟨k + 1, os, some ⟨g, 0, none⟩, os.length, c, by omega, by omega, by go_num, rfl, rfl, by omega, by omega, by omega, f2, f1, HS⟩; case measure => simp [intOf] <;> omega))
                · have el8 := el7 e4
                  clear el7 el6
                  go_wp2_with (first | (go_at_call 62; refine (HO.out ▸ spec_l6Is xs[k] _ hsz).mono ?_; rintro e w' ⟨_, rfl, hb', rfl⟩; obtain ⟨hc', hf'⟩ := bcell hb'; (try (have hz' : w.heap.size < w'.heap.size := (by have := hb'.size; simp at this; omega))); (try (have hzr : wr.heap.size < w'.heap.size := (by have := hb'.size; simp at this; omega))); have hs' := hb'.size; have hbn := hown.below hb' (Nat.le_refl _); clear hf'))
                  have HB := Lib.hid hb'
                  go_quiet (fail)
                  go_wp2_with fail
                  obtain ⟨f1, f2⟩ := FIN.out _ nq HB.out
                  (first | (refine ⟨⟨k + 1, os, some ⟨g, 0, none⟩, os.length, c, by omega, by omega, by go_num, rfl, rfl, by omega, by omega, by omega, f2, f1, HS⟩, by simp [intOf] <;> omega⟩) | (go_roundw; case rel => exact ⟨k + 1, os, some ⟨g, 0, none⟩, os.length, c, by omega, by omega, by go_num, rfl, rfl, by omega, by omega, by omega, f2, f1, HS⟩; case measure => simp [intOf] <;> omega) | (go_round; case rel => exact ⟨k + 1, os, some ⟨g, 0, none⟩, os.length, c, by omega, by omega, by go_num, rfl, rfl, by omega, by omega, by omega, f2, f1, HS⟩; case measure => simp [intOf] <;> omega))
              · have HD := Lib.hid (tv_dies hs hlt (step_miss HO.out h68 hl1))
                have el : (l != xs[k].kind - 1) = true := by simpa using hl1
                have el7 : (xs[k].kind == 8) = true → (l != 7) = true := fun h => by simp at h; rw [h] at hl1; simpa using hl1
                clear h57 h68 hl1
                rcases e68 with ⟨e3, e4⟩ | ⟨e3, e4⟩
                · clear el7
                  go_wp2_with (first | (go_at_call 62; refine (HO.out ▸ spec_l6Is xs[k] _ hsz).mono ?_; rintro e w' ⟨_, rfl, hb', rfl⟩; obtain ⟨hc', hf'⟩ := bcell hb'; (try (have hz' : w.heap.size < w'.heap.size := (by have := hb'.size; simp at this; omega))); (try (have hzr : wr.heap.size < w'.heap.size := (by have := hb'.size; simp at this; omega))); have hs' := hb'.size; have hbn := hown.below hb' (Nat.le_refl _); clear hf'))
                  go_quiet (fail)
                  go_wp2_with fail
                  go_ret
                  exact .mk (below_draws (hb.trans (hb'.mono hbs)) _) (.mk HD.out)
                · have el8 := el7 e4
                  clear el7
                  go_wp2_with (first | (go_at_call 62; refine (HO.out ▸ spec_l6Is xs[k] _ hsz).mono ?_; rintro e w' ⟨_, rfl, hb', rfl⟩; obtain ⟨hc', hf'⟩ := bcell hb'; (try (have hz' : w.heap.size < w'.heap.size := (by have := hb'.size; simp at this; omega))); (try (have hzr : wr.heap.size < w'.heap.size := (by have := hb'.size; simp at this; omega))); have hs' := hb'.size; have hbn := hown.below hb' (Nat.le_refl _); clear hf'))
                  go_quiet (fail)
                  go_wp2_with fail
                  go_ret
                  exact .mk (below_draws (hb.trans (hb'.mono hbs)) _) (.mk HD.out)
          · have HS := tv_next hs hlt (step_other HO.out h57 h68)
            have e1 : (xs[k].kind == 5) = false := by simp; omega
            have e2 : (xs[k].kind == 7) = false := by simp; omega
            have e3 : (xs[k].kind == 6) = false := by simp; omega
            have e4 : (xs[k].kind == 8) = false := by simp; omega
            clear h57 h68
            go_wp2_with (go_at_call 62; refine (HO.out ▸ spec_l6Is xs[k] _ hsz).mono ?_; rintro e w' ⟨_, rfl, hb', rfl⟩; obtain ⟨hc', hf'⟩ := bcell hb'; (try (have hz' : w.heap.size < w'.heap.size := (by have := hb'.size; simp at this; omega))); (try (have hzr : wr.heap.size < w'.heap.size := (by have := hb'.size; simp at this; omega))))
            have hbb := hb.trans (hb'.mono hbs)
            have hown' := hown.below hb' (Nat.le_refl _)
            (first | (refine ⟨⟨k + 1, op, A', n, c, by omega, by omega, by go_num, rfl, HN.out, by omega, by omega, by omega, hown', hbb, HS⟩, by simp [intOf] <;> omega⟩) | (go_roundw; case rel => exact ⟨k + 1, op, A', n, c, by omega, by omega, by go_num, rfl, HN.out, by omega, by omega, by omega, hown', hbb, HS⟩; case measure => simp [intOf] <;> omega) | (go_round; case rel => exact ⟨k + 1, op, A', n, c, by omega, by omega, by go_num, rfl, HN.out, by omega, by omega, by omega, hown', hbb, HS⟩; case measure => simp [intOf] <;> omega))
    · by_cases h200 : k < 200
      · go_wp2_with fail
        all_goals first
          | (go_ret
             refine .mk hb (.mk ?_)
             rw [tv_end hs (by omega) (by omega), ← HN.out]
             (all_goals first | rfl | (simp; done) | (rw [Bool.eq_iff_iff]; simp; done) | (rw [Bool.eq_iff_iff]; simp; omega) | omega))
          | (exfalso; go_tidy; simp only [Bool.not_eq_true', Bool.not_eq_false', decide_eq_true_eq, decide_eq_false_iff_not] at *; omega)
      · go_wp2_with fail
        all_goals first
          | (go_ret
             refine .mk hb (.mk ?_)
             rw [tokensB, decide_eq_false (by omega), Bool.false_and])
          | (exfalso; go_tidy; simp only [Bool.not_eq_true', Bool.not_eq_false', decide_eq_true_eq, decide_eq_false_iff_not] at *; omega)
end Go.Proofs.Ytpdpmcllpafjbaa

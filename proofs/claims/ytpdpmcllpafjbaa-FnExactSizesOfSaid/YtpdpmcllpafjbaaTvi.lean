/- TokensValid of the program. -/
import Derived.Test.YtpdpmcllpafjbaaTv
namespace Go.Proofs.Ytpdpmcllpafjbaa
open Go.RowKit
set_option linter.unusedVariables false
set_option linter.unusedSimpArgs false

theorem nonempty_of_text {s : ByteArray} (h : textB s = true) : ¬ s.toList = [] := by
  rw [str_emp]; simp [textB] at h; omega
/-- The program's test of a token, as it stands. -/
theorem tok_test (t : Tok) : (decide (t.kind < 1) || decide (8 < t.kind) || ((t.kind == 1) != !t.text.toList.isEmpty) || ((t.kind == 1) && !textB t.text) || decide (t.n < 0) || decide (9 < t.n) || (decide (0 < t.n) && (t.kind != 7))) = !tokOk t := by
  have he : t.text.toList.isEmpty = decide (t.text.size = 0) := by rw [Bool.eq_iff_iff]; simp [str_emp]
  rw [he]
  unfold tokOk
  by_cases h1 : t.kind = 1
  · rw [if_pos h1]
    cases hB : textB t.text with
    | true =>
      have := nonempty_of_text hB
      rw [str_emp] at this
      rw [Bool.eq_iff_iff]
      simp [h1, this]
      omega
    | false => simp [h1]
  · rw [if_neg h1]
    have h1' : (t.kind == 1) = false := by simpa using h1
    rw [h1', Bool.false_and, Bool.eq_iff_iff]
    by_cases h0 : t.text.size = 0
    all_goals
      by_cases h7 : t.kind = 7
      · rw [if_pos h7]
        simp [h7, h0]
        try omega
      · rw [if_neg h7]
        simp [h7, h0]
        try omega

set_option maxHeartbeats 40000000 in
set_option maxRecDepth 100000 in
theorem impl_TokensValid (xs : List Tok) (A : Option Addr) (cap : Nat) (w : World) (h : SlAt w (· < w.heap.size) A cap xs) (ht : ∀ t ∈ xs, t.text.size ≤ maxLen) :
    Calls Try.prog 22 #[.slice A xs.length cap] w (Post w (BoolP (tokensB xs))) := by
  have hl := h.1
  have hm := h.2.1
  unfold maxLen at hm
  by_cases h200 : xs.length < 200
  · go_enter Try.func22, Try.ntmps22
    go_wp2_with fail
    have hown0 : OwnS (w.alloc (.cells #[] 3)) w.heap.size 3 (.slice (some ⟨w.heap.size, 0, none⟩) 0 0) ([] : List Int) := OwnS.lit w 3 #[] [] (Nat.le_refl _) (by simp) rfl
    go_loopw [3, 13] (fun v i wr => ∃ (k : Nat) (op : List Int) (A' : Option Addr) (n c : Nat), k ≤ xs.length ∧ i = .int .i64 k ∧ v = .slice A' n c ∧ n = op.length ∧ n ≤ c ∧ c ≤ 9223372036854775807 ∧ n ≤ 50 ∧ OwnS wr w.heap.size 3 (.slice A' n c) op ∧ Below w.heap.size w wr ∧ Hid (tvRun [] (xs.take k) = some op)) (fun _ i _ => xs.length - (intOf i).toNat)
    case atStart => exact ⟨0, [], _, 0, 0, by omega, rfl, rfl, rfl, by omega, by omega, by omega, hown0, (by repeat' (first | exact Below.refl _ _ | assumption | (refine Below.drew ?_) | (refine below_draws ?_ _) | (refine Below.alloc ?_ ?_ _) | (refine Below.setCell ?_ ?_ _) | (refine below_and ?_ (by assumption)) | (refine Below.trans ?_ (Below.mono (by assumption) ?_)) | omega | (simp; done) | (simp; omega))), rfl⟩
    case round =>
      obtain ⟨k, op, A', n, c, hk, rfl, rfl, hn, hnc, hc, hn50, hown, hb, hs⟩ := hrel
      have HN := Lib.hid hn; clear hn hown0
      have hbs := hb.size
      by_cases hlt : k < xs.length
      · obtain ⟨b, o, rfl, hbo, c0, c1, c2⟩ := Tok.atB (h.below hb) k hlt
        have hbo2 : b < wr.heap.size := by omega
        have hsz := ht xs[k] (List.getElem_mem _)
        go_upto_region 7 with (fail)
        go_cut [64] (fun v wc => v = .bool (!tokOk xs[k]) ∧ Below w.heap.size w wc ∧ wr.heap.size < wc.heap.size ∧ Below wr.heap.size wr wc ∧ wc.cell? ⟨wr.heap.size, 0, none⟩ = some (.int .i64 xs[k].kind))
        case first =>
          cases htb : textB xs[k].text
          all_goals
            have HB := Lib.hid htb; clear htb
            go_wp2_with (first | (go_at_call 64; refine (HB.out ▸ impl_TextValid xs[k].text _ hsz).mono ?_; rintro e w' ⟨_, rfl, hb', rfl⟩; obtain ⟨hc', hf'⟩ := bcell hb'; (try (have hz' : w.heap.size < w'.heap.size := (by have := hb'.size; simp at this; omega))); (try (have hzr : wr.heap.size < w'.heap.size := (by have := hb'.size; simp at this; omega))); have hs' := hb'.size))
            all_goals
              go_meet
              case rel =>
                go_tidy
                refine ⟨congrArg Value.bool ?_, ?_, ?_, ?_, ?_⟩
                · have hB := HB.out
                  clear HB
                  rw [← tok_test, hB, Bool.eq_iff_iff]
                  go_tidy
                  clear c0 c1 c2 hs HN hown hb h hsz
                  simp_all
                  try omega
                · first
                    | (refine (Below.alloc hb ?_ _).trans (hb'.mono ?_) <;> (first | omega | (simp; done) | (simp; omega)); done)
                    | ((repeat' (first | exact Below.refl _ _ | assumption | (refine Below.drew ?_) | (refine below_draws ?_ _) | (refine Below.alloc ?_ ?_ _) | (refine Below.setCell ?_ ?_ _) | (refine below_and ?_ (by assumption)) | (refine Below.trans ?_ (Below.mono (by assumption) ?_)) | (simp; done) | omega | (simp; omega))); done)
                · first
                    | (simp; done)
                    | (simp at hs'; omega)
                · first
                    | (refine (Below.alloc (Below.refl _ _) ?_ _).trans (hb'.mono ?_) <;> (first | omega | (simp; done) | (simp; omega)); done)
                    | ((repeat' (first | exact Below.refl _ _ | assumption | (refine Below.drew ?_) | (refine below_draws ?_ _) | (refine Below.alloc ?_ ?_ _) | (refine Below.setCell ?_ ?_ _) | (refine below_and ?_ (by assumption)) | (refine Below.trans ?_ (Below.mono (by assumption) ?_)) | (simp; done) | omega | (simp; omega))); done)
                · first
                    | (refine (hb'.cell (p := ⟨wr.heap.size, 0, none⟩) ?_).trans (cell_of_row _ _ 0 _ _ (0, 0) (heap_alloc_new wr _)); simp)
                    | exact cell_of_row _ _ 0 _ _ (0, 0) (heap_alloc_new wr _)
        case rest =>
          obtain ⟨rfl, hbc, hsc, hbr, hcc⟩ := hcut
          have hown' := hown.below hbr (Nat.le_refl _)
          have hcs := hbc.size
          cases hok : tokOk xs[k] with
          | false =>
            have HD := Lib.hid (tv_dies hs hlt (tvStep_bad hok))
            go_wp2_with fail
            go_ret
            exact .mk hbc (.mk HD.out)
          | true =>
            have HO := Lib.hid hok
            have hkk := kind_of HO.out
            by_cases h57 : xs[k].kind = 5 ∨ xs[k].kind = 7
            · by_cases hfull : op.length < 50
              · have HS := tv_next hs hlt (step_push HO.out h57 hfull)
                rcases h57 with h5 | h5
                · have e3 : (xs[k].kind == 5) = true := by simp [h5]
                  clear h5
                  go_wp2_with (first | (at_builtin; refine SlT.push slInt rfl _ _ rfl rfl rfl rfl (hown') (by omega) (by unfold maxLen; omega) (by first | omega | (simp; omega)) ?_; intro v2 w2 hown2 hg2; obtain ⟨A2, c2, rfl, hle2, hcm2, -⟩ := hown2.len))
                  have hbb := hbc.trans (grown_below hown' hg2 (Nat.le_refl _) (by omega))
                  unfold maxLen at hcm2
                  rw [List.length_append] at hle2 hown2
                  (first | (refine ⟨⟨k + 1, _, A2, op.length + 1, c2, by omega, by go_num, rfl, by simp, hle2, by omega, by omega, hown2, hbb, HS⟩, by simp [intOf] <;> omega⟩) | (go_roundw; case rel => exact ⟨k + 1, _, A2, op.length + 1, c2, by omega, by go_num, rfl, by simp, hle2, by omega, by omega, hown2, hbb, HS⟩; case measure => simp [intOf] <;> omega) | (go_round; case rel => exact ⟨k + 1, _, A2, op.length + 1, c2, by omega, by go_num, rfl, by simp, hle2, by omega, by omega, hown2, hbb, HS⟩; case measure => simp [intOf] <;> omega))
                · have e3 : (xs[k].kind == 5) = false := by simp [h5]
                  have e4 : (xs[k].kind == 7) = true := by simp [h5]
                  clear h5
                  go_wp2_with (first | (at_builtin; refine SlT.push slInt rfl _ _ rfl rfl rfl rfl (hown') (by omega) (by unfold maxLen; omega) (by first | omega | (simp; omega)) ?_; intro v2 w2 hown2 hg2; obtain ⟨A2, c2, rfl, hle2, hcm2, -⟩ := hown2.len))
                  have hbb := hbc.trans (grown_below hown' hg2 (Nat.le_refl _) (by omega))
                  unfold maxLen at hcm2
                  rw [List.length_append] at hle2 hown2
                  (first | (refine ⟨⟨k + 1, _, A2, op.length + 1, c2, by omega, by go_num, rfl, by simp, hle2, by omega, by omega, hown2, hbb, HS⟩, by simp [intOf] <;> omega⟩) | (go_roundw; case rel => exact ⟨k + 1, _, A2, op.length + 1, c2, by omega, by go_num, rfl, by simp, hle2, by omega, by omega, hown2, hbb, HS⟩; case measure => simp [intOf] <;> omega) | (go_round; case rel => exact ⟨k + 1, _, A2, op.length + 1, c2, by omega, by go_num, rfl, by simp, hle2, by omega, by omega, hown2, hbb, HS⟩; case measure => simp [intOf] <;> omega))
              · have HD := Lib.hid (tv_dies hs hlt (step_full HO.out h57 hfull))
                have hfull2 : 50 ≤ op.length := by omega
                have hfull3 : op.length ≤ 50 := by have := HN.out; omega
                rcases h57 with h5 | h5
                · have e3 : (xs[k].kind == 5) = true := by simp [h5]
                  clear h5
                  go_wp2_with (first | (at_builtin; refine SlT.push slInt rfl _ _ rfl rfl rfl rfl (hown') (by omega) (by unfold maxLen; omega) (by first | omega | (simp; omega)) ?_; intro v2 w2 hown2 hg2; obtain ⟨A2, c2, rfl, hle2, hcm2, -⟩ := hown2.len))
                  have hbb := hbc.trans (grown_below hown' hg2 (Nat.le_refl _) (by omega))
                  go_ret
                  exact .mk hbb (.mk HD.out)
                · have e3 : (xs[k].kind == 5) = false := by simp [h5]
                  have e4 : (xs[k].kind == 7) = true := by simp [h5]
                  clear h5
                  go_wp2_with (first | (at_builtin; refine SlT.push slInt rfl _ _ rfl rfl rfl rfl (hown') (by omega) (by unfold maxLen; omega) (by first | omega | (simp; omega)) ?_; intro v2 w2 hown2 hg2; obtain ⟨A2, c2, rfl, hle2, hcm2, -⟩ := hown2.len))
                  have hbb := hbc.trans (grown_below hown' hg2 (Nat.le_refl _) (by omega))
                  go_ret
                  exact .mk hbb (.mk HD.out)
            · by_cases h68 : xs[k].kind = 6 ∨ xs[k].kind = 8
              · have e1 : (xs[k].kind == 5) = false := by simp; omega
                have e2 : (xs[k].kind == 7) = false := by simp; omega
                have e68 : ((xs[k].kind == 6) = true ∧ (xs[k].kind == 8) = false) ∨ ((xs[k].kind == 6) = false ∧ (xs[k].kind == 8) = true) := by
                  rcases h68 with h6 | h6 <;> simp [h6]
                rcases snoc_cases op with rfl | ⟨os, l, rfl⟩
                · have HD := Lib.hid (tv_dies hs hlt (step_none HO.out h68))
                  obtain rfl : n = 0 := by have := HN.out; simp at this; exact this
                  have ew2 : IntKind.i64.wrap (xs[k].kind - 1) = xs[k].kind - 1 := IntWalk.i64_in _ (by omega)
                  clear h57 h68
                  rcases e68 with ⟨e3, e4⟩ | ⟨e3, e4⟩
                  all_goals
                    go_wp2_with fail
                    go_quiet (fail)
                    go_wp2_with fail
                    go_ret
                    exact .mk (below_draws hbc _) (.mk HD.out)
                · obtain ⟨g, rfl, hg1, hg2, hn1, hgc⟩ := hown'.last
                  subst hn1
                  clear HN
                  have ew2 : IntKind.i64.wrap (xs[k].kind - 1) = xs[k].kind - 1 := IntWalk.i64_in _ (by omega)
                  have eg : decide ((os.length : Int) < 0) = false := by simp
                  by_cases hl1 : l = xs[k].kind - 1
                  · have HS := tv_next hs hlt (step_pop HO.out h68 hl1)
                    have el : (l != xs[k].kind - 1) = false := by simp [hl1]
                    clear h57 h68 hl1
                    have h2 := OwnS.take (xs := os ++ [l]) (by rw [List.length_append]; exact hown') os.length (by simp)
                    rw [List.take_left] at h2
                    have H2 := Lib.hid h2; clear h2
                    rcases e68 with ⟨e3, e4⟩ | ⟨e3, e4⟩
                    all_goals
                      go_wp2_with fail
                      go_quiet (fail)
                      go_wp2_with fail
                      have f1 := below_draws hbc nq
                      have f2 := OwnS.draws H2.out nq
                      (first | (refine ⟨⟨k + 1, os, some ⟨g, 0, none⟩, os.length, c, by omega, by go_num, rfl, rfl, by omega, by omega, by omega, f2, f1, HS⟩, by simp [intOf] <;> omega⟩) | (go_roundw; case rel => exact ⟨k + 1, os, some ⟨g, 0, none⟩, os.length, c, by omega, by go_num, rfl, rfl, by omega, by omega, by omega, f2, f1, HS⟩; case measure => simp [intOf] <;> omega) | (go_round; case rel => exact ⟨k + 1, os, some ⟨g, 0, none⟩, os.length, c, by omega, by go_num, rfl, rfl, by omega, by omega, by omega, f2, f1, HS⟩; case measure => simp [intOf] <;> omega))
                  · have HD := Lib.hid (tv_dies hs hlt (step_miss HO.out h68 hl1))
                    have el : (l != xs[k].kind - 1) = true := by simpa using hl1
                    clear h57 h68 hl1
                    rcases e68 with ⟨e3, e4⟩ | ⟨e3, e4⟩
                    all_goals
                      go_wp2_with fail
                      go_quiet (fail)
                      go_wp2_with fail
                      go_ret
                      exact .mk (below_draws hbc _) (.mk HD.out)
              · have HS := tv_next hs hlt (step_other HO.out h57 h68)
                have e1 : (xs[k].kind == 5) = false := by simp; omega
                have e2 : (xs[k].kind == 7) = false := by simp; omega
                have e3 : (xs[k].kind == 6) = false := by simp; omega
                have e4 : (xs[k].kind == 8) = false := by simp; omega
                clear h57 h68
                go_wp2_with fail
                (first | (refine ⟨⟨k + 1, op, A', n, c, by omega, by go_num, rfl, HN.out, by omega, by omega, by omega, hown', hbc, HS⟩, by simp [intOf] <;> omega⟩) | (go_roundw; case rel => exact ⟨k + 1, op, A', n, c, by omega, by go_num, rfl, HN.out, by omega, by omega, by omega, hown', hbc, HS⟩; case measure => simp [intOf] <;> omega) | (go_round; case rel => exact ⟨k + 1, op, A', n, c, by omega, by go_num, rfl, HN.out, by omega, by omega, by omega, hown', hbc, HS⟩; case measure => simp [intOf] <;> omega))
      · go_wp2_with fail
        go_ret
        refine .mk hb (.mk ?_)
        rw [tv_end hs hlt h200, ← HN.out]
        (all_goals first | rfl | (simp; done) | (rw [Bool.eq_iff_iff]; simp; done) | (rw [Bool.eq_iff_iff]; simp; omega) | omega)
  · go_enter Try.func22, Try.ntmps22
    go_wp2_with fail
    go_ret
    refine .mk (by repeat' (first | exact Below.refl _ _ | assumption | (refine Below.drew ?_) | (refine below_draws ?_ _) | (refine Below.alloc ?_ ?_ _) | (refine Below.setCell ?_ ?_ _) | (refine below_and ?_ (by assumption)) | (refine Below.trans ?_ (Below.mono (by assumption) ?_)) | omega | (simp; done) | (simp; omega))) (.mk ?_)
    rw [tokensB, decide_eq_false (by omega), Bool.false_and]
end Go.Proofs.Ytpdpmcllpafjbaa

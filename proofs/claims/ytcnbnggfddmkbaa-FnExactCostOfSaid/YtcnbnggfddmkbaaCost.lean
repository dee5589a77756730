/- What a layout costs in a width, by the program and by the reference. -/
import Derived.Test.YtcnbnggfddmkbaaLay
namespace Go.Proofs.Ytcnbnggfddmkbaa
open Go.RowKit
set_option linter.unusedVariables false
set_option linter.unusedSimpArgs false

def IntE (n : Int) (v : Value) (_ : World) : Prop := v = .int .i64 n
theorem IntE.mk {n m : Int} {w : World} (h : m = n) : IntE n (.int .i64 m) w := by rw [h]; rfl
def sp (n : Nat) : ByteArray := ⟨Array.replicate n 32⟩
theorem sp_size (n : Nat) : (sp n).size = n := by simp [sp, ByteArray.size]
theorem sp_succ (n : Nat) : sp n ++ ⟨#[32]⟩ = sp (n + 1) := by
  apply ByteArray.ext
  rw [ByteArray.data_append]
  simp only [sp]
  rw [Array.replicate_succ]; rfl
def lineS (r : Rw) : ByteArray := if r.text.size = 0 then ⟨#[]⟩ else sp r.indent.toNat ++ r.text
def lineLen (r : Rw) : Int := if r.text.size = 0 then 0 else r.indent + r.text.size
theorem lineS_size {r : Rw} (h : 0 ≤ r.indent) : ((lineS r).size : Int) = lineLen r := by
  unfold lineS lineLen
  split
  · rfl
  · rw [ByteArray.size_append, sp_size]; omega
def overI (xs : List Rw) (w : Int) : Int := (xs.map fun r => max 0 (lineLen r - w)).sum
theorem overI_snoc (xs : List Rw) (w : Int) (k : Nat) (h : k < xs.length) : overI (xs.take (k + 1)) w = overI (xs.take k) w + max 0 (lineLen xs[k] - w) := by
  unfold overI
  rw [List.take_succ_eq_append_getElem h, List.map_append, List.sum_append]
  simp

theorem spec_l2Spaces (n : Int) (w : World) (h0 : 0 ≤ n) (h1 : n ≤ 1000) :
    Calls Try.prog 82 #[.int .i64 n] w fun e w' => e = .returned (.string (sp n.toNat)) ∧ w' = w := by
  go_enter Try.func82, Try.ntmps82
  go_wp2_with fail
  go_loop [3, 4] (fun s i => ∃ k : Nat, k ≤ n.toNat ∧ i = .int .i64 k ∧ s = .string (sp k)) (fun _ i => n.toNat - (intOf i).toNat)
  case atStart => exact ⟨0, by omega, rfl, rfl⟩
  case round =>
    obtain ⟨k, hk, rfl, rfl⟩ := hrel
    by_cases hlt : (k : Int) < n
    · have hs := sp_succ k
      have hz := sp_size k
      have hz' : (sp k).size ≤ 1000 := by omega
      clear hz
      go_wp2_with fail
      (first | (refine ⟨⟨k + 1, by omega, by go_num, by first | rfl | rw [hs]⟩, by simp [intOf] <;> omega⟩) | (go_roundw; case rel => exact ⟨k + 1, by omega, by go_num, by first | rfl | rw [hs]⟩; case measure => simp [intOf] <;> omega) | (go_round; case rel => exact ⟨k + 1, by omega, by go_num, by first | rfl | rw [hs]⟩; case measure => simp [intOf] <;> omega))
    · go_wp2_with fail
      go_ret
      have : k = n.toNat := by omega
      rw [this]
      exact ⟨rfl, rfl⟩

theorem impl_rowLen (r : Rw) (w : World) (h0 : 0 ≤ r.indent) (h1 : r.indent ≤ 400) (h2 : r.text.size < 2000) :
    Calls Try.prog 70 #[.agg #[.int .i64 r.indent, .string r.text]] w (Post w (IntE (lineLen r))) := by
  go_enter Try.func70, Try.ntmps70
  go_wp2_with fail
  all_goals
    go_ret
    refine .mk (by repeat' (first | exact Below.refl _ _ | assumption | (refine Below.drew ?_) | (refine below_draws ?_ _) | (refine Below.alloc ?_ ?_ _) | (refine Below.setCell ?_ ?_ _) | (refine Below.trans ?_ (Below.mono (by assumption) ?_)) | omega | (simp; done) | (simp; omega))) (.mk ?_)
    have e := str_emp (s := r.text)
    go_tidy
    unfold lineLen
    simp_all

theorem spec_l2Line (r : Rw) (w : World) (h0 : 0 ≤ r.indent) (h1 : r.indent ≤ 400) (h2 : r.text.size < 2000) :
    Calls Try.prog 79 #[.agg #[.int .i64 r.indent, .string r.text]] w (Post w fun v _ => v = .string (lineS r)) := by
  by_cases he : r.text.toList = []
  · have hs : Hid (lineS r = ⟨#[]⟩) := by show _ = _; rw [lineS, if_pos (str_emp.1 he)]
    go_enter Try.func79, Try.ntmps79
    go_wp2_with fail
    go_ret
    exact .mk (by repeat' (first | exact Below.refl _ _ | assumption | (refine Below.drew ?_) | (refine below_draws ?_ _) | (refine Below.alloc ?_ ?_ _) | (refine Below.setCell ?_ ?_ _) | (refine Below.trans ?_ (Below.mono (by assumption) ?_)) | omega | (simp; done) | (simp; omega))) (by rw [hs.out]; rfl)
  · have hs : Hid (lineS r = sp r.indent.toNat ++ r.text) := by show _ = _; rw [lineS, if_neg (fun h => he (str_emp.2 h))]
    have he' : r.text.toList.isEmpty = false := by simpa using he
    have hz : (sp r.indent.toNat).size ≤ 1000 := by rw [sp_size]; omega
    go_enter Try.func79, Try.ntmps79
    go_wp2_with fail
    go_quiet ((go_at_call 82; exact Calls.quiet_of_same (spec_l2Spaces _ _ h0 (by omega))))
    go_wp2_with fail
    go_ret
    exact .mk (by repeat' (first | exact Below.refl _ _ | assumption | (refine Below.drew ?_) | (refine below_draws ?_ _) | (refine Below.alloc ?_ ?_ _) | (refine Below.setCell ?_ ?_ _) | (refine Below.trans ?_ (Below.mono (by assumption) ?_)) | omega | (simp; done) | (simp; omega))) (by rw [hs.out]; rfl)

theorem lineLen_bd {r : Rw} (h0 : 0 ≤ r.indent) (h1 : r.indent ≤ 400) (h2 : r.text.size < 2000) : 0 ≤ lineLen r ∧ lineLen r ≤ 2400 := by
  unfold lineLen; split <;> omega
theorem layB_each {xs : List Rw} (h : layB xs = true) : xs.length ≤ 200 ∧ 1 ≤ xs.length ∧ ∀ r ∈ xs, 0 ≤ r.indent ∧ r.indent ≤ 400 ∧ r.text.size < 2000 := by
  simp only [layB, Bool.and_eq_true, decide_eq_true_eq] at h
  exact ⟨h.1.2.1, h.1.1, fun r hr => by have := rowOk_true (List.all_eq_true.1 h.2 r hr); omega⟩

def overF (xs : List Rw) (wd : Int) : Int := if layB xs = true ∧ 0 ≤ wd then overI xs wd else 0
theorem overF_no {xs : List Rw} {wd : Int} (h : layB xs = false ∨ wd < 0) : 0 = overF xs wd := by
  unfold overF; rw [if_neg]; rintro ⟨h1, h2⟩; rcases h with h | h
  · rw [h] at h1; cases h1
  · omega
theorem overF_yes {xs : List Rw} {wd : Int} (h : layB xs = true) (h' : ¬ wd < 0) : overF xs wd = overI xs wd := by
  unfold overF; rw [if_pos ⟨h, by omega⟩]

set_option maxHeartbeats 1000000 in
theorem impl_Overflow (xs : List Rw) (A : Option Addr) (cap : Nat) (wd : Int) (w : World) (h : SlAt w (· < w.heap.size) A cap xs) (ht : ∀ t ∈ xs, t.text.size ≤ maxLen) (hwd : -9223372036854775808 ≤ wd ∧ wd ≤ 9223372036854775807) :
    Calls Try.prog 50 #[.slice A xs.length cap, .int .i64 wd] w (Post w (IntE (overF xs wd))) := by
  have hl := h.1
  have hm := h.2.1
  unfold maxLen at hm
  cases hv : layB xs with
  | false =>
    have HV := Lib.hid hv; clear hv
    go_enter Try.func50, Try.ntmps50
    go_wp2_with (first | (go_at_call 49; refine (HV.out ▸ impl_LayoutValid xs A cap _ h ht).mono ?_; rintro e w' ⟨_, rfl, hb', rfl⟩; obtain ⟨hc', hf'⟩ := bcell hb'; (try (have hz' : w.heap.size < w'.heap.size := (by have := hb'.size; simp at this; omega))); (try (have hzr : wr.heap.size < w'.heap.size := (by have := hb'.size; simp at this; omega))); clear hc' hf'))
    all_goals
      go_ret
      exact .mk hb' (.mk (overF_no (.inl HV.out)))
  | true =>
    by_cases h0 : wd < 0
    · have HV := Lib.hid hv; clear hv
      go_enter Try.func50, Try.ntmps50
      go_wp2_with (first | (go_at_call 49; refine (HV.out ▸ impl_LayoutValid xs A cap _ h ht).mono ?_; rintro e w' ⟨_, rfl, hb', rfl⟩; obtain ⟨hc', hf'⟩ := bcell hb'; (try (have hz' : w.heap.size < w'.heap.size := (by have := hb'.size; simp at this; omega))); (try (have hzr : wr.heap.size < w'.heap.size := (by have := hb'.size; simp at this; omega))); clear hc' hf'))
      go_ret
      exact .mk hb' (.mk (overF_no (.inr h0)))
    · obtain ⟨h200, h1, hr⟩ := layB_each hv
      have HV := Lib.hid hv; clear hv
      have HR := Lib.hid hr; clear hr
      go_enter Try.func50, Try.ntmps50
      go_wp2_with (first | (go_at_call 49; refine (HV.out ▸ impl_LayoutValid xs A cap _ h ht).mono ?_; rintro e w' ⟨_, rfl, hb', rfl⟩; obtain ⟨hc', hf'⟩ := bcell hb'; (try (have hz' : w.heap.size < w'.heap.size := (by have := hb'.size; simp at this; omega))); (try (have hzr : wr.heap.size < w'.heap.size := (by have := hb'.size; simp at this; omega))); clear hc' hf'))
      go_loopw [5, 17] (fun n i wr => ∃ (k : Nat) (x : Int), k ≤ xs.length ∧ i = .int .i64 k ∧ n = .int .i64 x ∧ 0 ≤ x ∧ x ≤ 2400 * k ∧ Below w.heap.size w wr ∧ Hid (x = overI (xs.take k) wd)) (fun _ i _ => xs.length - (intOf i).toNat)
      case atStart => exact ⟨0, 0, by omega, rfl, rfl, by omega, by omega, hb', rfl⟩
      case round =>
        clear hb'
        obtain ⟨k, x, hk, rfl, rfl, hx0, hx1, hb, hs⟩ := hrel
        have hbs := hb.size
        by_cases hlt : k < xs.length
        · obtain ⟨b, o, rfl, hbo, c0, c1⟩ := Rw.atB (h.below hb) k hlt
          obtain ⟨r0, r1, r2⟩ := HR.out xs[k] (List.getElem_mem _)
          have ⟨l0, l1⟩ := lineLen_bd r0 r1 r2
          have hs' : Hid (x + max 0 (lineLen xs[k] - wd) = overI (xs.take (k + 1)) wd) := by show _ = _; rw [overI_snoc _ _ _ hlt, hs.out]
          clear hs
          go_wp2_with (first | (go_at_call 70; refine (impl_rowLen xs[k] _ r0 r1 r2).mono ?_; rintro e w' ⟨_, rfl, hb', rfl⟩))
          all_goals first
            | (have hbb := (hb.alloc hbs (.cells #[.int .i64 xs[k].indent, .string xs[k].text] 84)).trans (hb'.mono (by simp; omega))
               (first | (refine ⟨⟨k + 1, _, by omega, by go_num, rfl, by omega, by omega, hbb, hs'⟩, by simp [intOf] <;> omega⟩) | (go_roundw; case rel => exact ⟨k + 1, _, by omega, by go_num, rfl, by omega, by omega, hbb, hs'⟩; case measure => simp [intOf] <;> omega) | (go_round; case rel => exact ⟨k + 1, _, by omega, by go_num, rfl, by omega, by omega, hbb, hs'⟩; case measure => simp [intOf] <;> omega)))
            | (go_ways; sorry)
        · go_wp2_with fail
          go_ret
          refine .mk hb (.mk ?_)
          have := hs.out
          rw [List.take_of_length_le (by omega)] at this
          rw [overF_yes HV.out (by omega), this]

set_option maxHeartbeats 1000000 in
theorem spec_l2Over (xs : List Rw) (A : Option Addr) (cap : Nat) (wd : Int) (w : World) (h : SlAt w (· < w.heap.size) A cap xs) (hr : ∀ r ∈ xs, 0 ≤ r.indent ∧ r.indent ≤ 400 ∧ r.text.size < 2000) (h200 : xs.length ≤ 200) (hwd : 0 ≤ wd ∧ wd ≤ 9223372036854775807) :
    Calls Try.prog 68 #[.slice A xs.length cap, .int .i64 wd] w (Post w (IntE (overI xs wd))) := by
  have hl := h.1
  have hm := h.2.1
  unfold maxLen at hm
  have HR := Lib.hid hr; clear hr
  go_enter Try.func68, Try.ntmps68
  go_wp2_with fail
  go_loopw [5, 6] (fun n i wr => ∃ (k : Nat) (x : Int), k ≤ xs.length ∧ i = .int .i64 k ∧ n = .int .i64 x ∧ 0 ≤ x ∧ x ≤ 2400 * k ∧ Below w.heap.size w wr ∧ Hid (x = overI (xs.take k) wd)) (fun _ i _ => xs.length - (intOf i).toNat)
  case atStart => exact ⟨0, 0, by omega, rfl, rfl, by omega, by omega, .refl _ _, rfl⟩
  case round =>
    obtain ⟨k, x, hk, rfl, rfl, hx0, hx1, hb, hs⟩ := hrel
    have hbs := hb.size
    by_cases hlt : k < xs.length
    · obtain ⟨b, o, rfl, hbo, c0, c1⟩ := Rw.atB (h.below hb) k hlt
      obtain ⟨r0, r1, r2⟩ := HR.out xs[k] (List.getElem_mem _)
      have ⟨l0, l1⟩ := lineLen_bd r0 r1 r2
      have hs' : Hid (x + max 0 (lineLen xs[k] - wd) = overI (xs.take (k + 1)) wd) := by show _ = _; rw [overI_snoc _ _ _ hlt, hs.out]
      have hsz := Lib.hid (lineS_size r0)
      have hz : (lineS xs[k]).size ≤ 2400 := by have := lineS_size r0; omega
      clear hs
      by_cases hpos : lineLen xs[k] - wd > 0
      all_goals
        go_wp2_with (first | (go_at_call 79; refine (spec_l2Line xs[k] _ r0 r1 r2).mono ?_; rintro e w' ⟨_, rfl, hb', rfl⟩))
        all_goals first
          | (exfalso; have := hsz.out; omega)
          | (have hbb := hb.trans (hb'.mono hbs)
             have hsn := hsz.out
             (first | (refine ⟨⟨k + 1, x + max 0 (lineLen xs[k] - wd), by omega, by go_num, by first | (congr 1; omega) | rfl, by omega, by omega, hbb, hs'⟩, by simp [intOf] <;> omega⟩) | (go_roundw; case rel => exact ⟨k + 1, x + max 0 (lineLen xs[k] - wd), by omega, by go_num, by first | (congr 1; omega) | rfl, by omega, by omega, hbb, hs'⟩; case measure => simp [intOf] <;> omega) | (go_round; case rel => exact ⟨k + 1, x + max 0 (lineLen xs[k] - wd), by omega, by go_num, by first | (congr 1; omega) | rfl, by omega, by omega, hbb, hs'⟩; case measure => simp [intOf] <;> omega)))
    · go_wp2_with fail
      go_ret
      refine .mk hb (.mk ?_)
      have := hs.out
      rw [List.take_of_length_le (by omega)] at this
      exact this

/-- The cost of a valid layout in a width that a page can have. -/
def costB (xs : List Rw) (wd : Int) : Bool := layB xs && decide (0 ≤ wd ∧ wd ≤ 200)
def CostE (c : Int × Int) (b : Bool) (v : Value) (_ : World) : Prop := v = .tuple #[.agg #[.int .i64 c.1, .int .i64 c.2], .bool b]
def costOf (xs : List Rw) (wd : Int) : Int × Int := if costB xs wd then (overI xs wd, xs.length) else (0, 0)
theorem costOf_no {xs : List Rw} {wd : Int} (h : costB xs wd = false) : costOf xs wd = (0, 0) := by unfold costOf; rw [h]; rfl
theorem costOf_yes {xs : List Rw} {wd : Int} (h : costB xs wd = true) : costOf xs wd = (overI xs wd, (xs.length : Int)) := by unfold costOf; rw [h]; rfl

theorem spec_l5Cost (xs : List Rw) (A : Option Addr) (cap : Nat) (wd : Int) (w : World) (h : SlAt w (· < w.heap.size) A cap xs) (hr : ∀ r ∈ xs, 0 ≤ r.indent ∧ r.indent ≤ 400 ∧ r.text.size < 2000) (h200 : xs.length ≤ 200) (hwd : 0 ≤ wd ∧ wd ≤ 9223372036854775807) :
    Calls Try.prog 47 #[.slice A xs.length cap, .int .i64 wd] w (Post w fun v _ => v = .agg #[.int .i64 (overI xs wd), .int .i64 xs.length]) := by
  go_enter Try.func47, Try.ntmps47
  go_wp2_with (first | (go_at_call 68; refine (spec_l2Over xs A cap wd _ (h.up (.alloc (.refl _ _) (Nat.le_refl _) _) (by simp)) hr h200 hwd).mono ?_; rintro e w' ⟨_, rfl, hb', rfl⟩; obtain ⟨hc', hf'⟩ := bcell hb'; (try (have hz' : w.heap.size < w'.heap.size := (by have := hb'.size; simp at this; omega))); (try (have hzr : wr.heap.size < w'.heap.size := (by have := hb'.size; simp at this; omega)))))
  exact bodyPost_ret (v := .agg #[.int .i64 (overI xs wd), .int .i64 xs.length]) (by simp [results, Try.results47, go_sem, hc', hf']) rfl (.mk (by repeat' (first | exact Below.refl _ _ | assumption | (refine Below.drew ?_) | (refine below_draws ?_ _) | (refine Below.alloc ?_ ?_ _) | (refine Below.setCell ?_ ?_ _) | (refine Below.trans ?_ (Below.mono (by assumption) ?_)) | omega | (simp; done) | (simp; omega))) rfl)

def CostV (c : Int × Int) : Value := .agg #[.int .i64 c.1, .int .i64 c.2]
theorem cost_facts {xs : List Rw} {wd : Int} (h : costB xs wd = true) : layB xs = true ∧ 0 ≤ wd ∧ wd ≤ 200 := by
  simpa [costB] using h

set_option maxHeartbeats 1000000 in
theorem spec_CostOf (xs : List Rw) (A : Option Addr) (cap : Nat) (wd : Int) (w : World) (h : SlAt w (· < w.heap.size) A cap xs) (ht : ∀ t ∈ xs, t.text.size ≤ maxLen) :
    Calls Try.prog 19 #[.slice A xs.length cap, .int .i64 wd] w (Post w fun v _ => v = .tuple #[CostV (costOf xs wd), .bool (costB xs wd)]) := by
  have hup := h.up (w' := w.alloc (.cells #[.int .i64 0, .int .i64 0] 25)) (B' := (w.alloc (.cells #[.int .i64 0, .int .i64 0] 25)).heap.size) (.alloc (.refl _ _) (Nat.le_refl _) _) (by simp)
  cases hv : costB xs wd with
  | true =>
    obtain ⟨h1, h2, h3⟩ := cost_facts hv
    obtain ⟨h200, _, hr⟩ := layB_each h1
    have hcost : Hid (CostV (costOf xs wd) = .agg #[.int .i64 (overI xs wd), .int .i64 xs.length]) := by show _ = _; rw [costOf_yes hv]; rfl
    have HV := Lib.hid h1; clear h1 hv
    go_enter Try.func19, Try.ntmps19
    go_wp2_with (first | (go_at_call 46; refine (HV.out ▸ spec_LayoutValid xs A cap _ hup ht).mono ?_; rintro e w' ⟨_, rfl, hb', rfl⟩; obtain ⟨hc', hf'⟩ := bcell hb'; (try (have hz' : w.heap.size < w'.heap.size := (by have := hb'.size; simp at this; omega))); (try (have hzr : wr.heap.size < w'.heap.size := (by have := hb'.size; simp at this; omega))); have hup2 := hup.up hb' hb'.size; have hbq := hb') | (go_at_call 47; go_must (refine (spec_l5Cost xs A cap wd _ hup2 hr h200 ⟨by omega, by omega⟩).mono ?_); rintro e w2 ⟨_, rfl, hb2, rfl⟩; obtain ⟨hc2, hf2⟩ := bcell hb2))
    exact bodyPost_ret (v := .tuple #[.agg #[.int .i64 (overI xs wd), .int .i64 xs.length], .bool true]) (by simp [results, Try.results19, go_sem, hc', hf', hc2, hf2, hz']) rfl (Post.mk (by repeat' (first | exact Below.refl _ _ | assumption | (refine Below.drew ?_) | (refine below_draws ?_ _) | (refine Below.alloc ?_ ?_ _) | (refine Below.setCell ?_ ?_ _) | (refine Below.trans ?_ (Below.mono (by assumption) ?_)) | omega | (simp; done) | (simp; omega))) (by rw [hcost.out]))
  | false =>
    have hcost : Hid (CostV (costOf xs wd) = .agg #[.int .i64 0, .int .i64 0]) := by show _ = _; rw [costOf_no hv]; rfl
    cases hl : layB xs with
    | false =>
      have HV := Lib.hid hl; clear hl hv
      go_enter Try.func19, Try.ntmps19
      go_wp2_with (first | (go_at_call 46; refine (HV.out ▸ spec_LayoutValid xs A cap _ hup ht).mono ?_; rintro e w' ⟨_, rfl, hb', rfl⟩; obtain ⟨hc', hf'⟩ := bcell hb'; (try (have hz' : w.heap.size < w'.heap.size := (by have := hb'.size; simp at this; omega))); (try (have hzr : wr.heap.size < w'.heap.size := (by have := hb'.size; simp at this; omega)))))
      all_goals exact bodyPost_ret (v := .tuple #[.agg #[.int .i64 0, .int .i64 0], .bool false]) (by simp [results, Try.results19, go_sem, hc', hf', hz']) rfl (Post.mk (by repeat' (first | exact Below.refl _ _ | assumption | (refine Below.drew ?_) | (refine below_draws ?_ _) | (refine Below.alloc ?_ ?_ _) | (refine Below.setCell ?_ ?_ _) | (refine Below.trans ?_ (Below.mono (by assumption) ?_)) | omega | (simp; done) | (simp; omega))) (by rw [hcost.out]))
    | true =>
      have hw : ¬ (0 ≤ wd ∧ wd ≤ 200) := fun h' => by rw [costB, hl, Bool.true_and, decide_eq_true h'] at hv; cases hv
      have HV := Lib.hid hl; clear hl hv
      by_cases h0 : wd < 0
      · go_enter Try.func19, Try.ntmps19
        go_wp2_with (first | (go_at_call 46; refine (HV.out ▸ spec_LayoutValid xs A cap _ hup ht).mono ?_; rintro e w' ⟨_, rfl, hb', rfl⟩; obtain ⟨hc', hf'⟩ := bcell hb'; (try (have hz' : w.heap.size < w'.heap.size := (by have := hb'.size; simp at this; omega))); (try (have hzr : wr.heap.size < w'.heap.size := (by have := hb'.size; simp at this; omega)))))
        all_goals exact bodyPost_ret (v := .tuple #[.agg #[.int .i64 0, .int .i64 0], .bool false]) (by simp [results, Try.results19, go_sem, hc', hf', hz']) rfl (Post.mk (by repeat' (first | exact Below.refl _ _ | assumption | (refine Below.drew ?_) | (refine below_draws ?_ _) | (refine Below.alloc ?_ ?_ _) | (refine Below.setCell ?_ ?_ _) | (refine Below.trans ?_ (Below.mono (by assumption) ?_)) | omega | (simp; done) | (simp; omega))) (by rw [hcost.out]))
      · have h200 : 200 < wd := by omega
        go_enter Try.func19, Try.ntmps19
        go_wp2_with (first | (go_at_call 46; refine (HV.out ▸ spec_LayoutValid xs A cap _ hup ht).mono ?_; rintro e w' ⟨_, rfl, hb', rfl⟩; obtain ⟨hc', hf'⟩ := bcell hb'; (try (have hz' : w.heap.size < w'.heap.size := (by have := hb'.size; simp at this; omega))); (try (have hzr : wr.heap.size < w'.heap.size := (by have := hb'.size; simp at this; omega)))))
        all_goals exact bodyPost_ret (v := .tuple #[.agg #[.int .i64 0, .int .i64 0], .bool false]) (by simp [results, Try.results19, go_sem, hc', hf', hz']) rfl (Post.mk (by repeat' (first | exact Below.refl _ _ | assumption | (refine Below.drew ?_) | (refine below_draws ?_ _) | (refine Below.alloc ?_ ?_ _) | (refine Below.setCell ?_ ?_ _) | (refine Below.trans ?_ (Below.mono (by assumption) ?_)) | omega | (simp; done) | (simp; omega))) (by rw [hcost.out]))
set_option maxHeartbeats 1000000 in
theorem impl_CostOf (xs : List Rw) (A : Option Addr) (cap : Nat) (wd : Int) (w : World) (h : SlAt w (· < w.heap.size) A cap xs) (ht : ∀ t ∈ xs, t.text.size ≤ maxLen) :
    Calls Try.prog 21 #[.slice A xs.length cap, .int .i64 wd] w (Post w fun v _ => v = .tuple #[CostV (costOf xs wd), .bool (costB xs wd)]) := by
  have hup := h.up (w' := w.alloc (.cells #[.int .i64 0, .int .i64 0] 25)) (B' := (w.alloc (.cells #[.int .i64 0, .int .i64 0] 25)).heap.size) (.alloc (.refl _ _) (Nat.le_refl _) _) (by simp)
  cases hv : costB xs wd with
  | true =>
    obtain ⟨h1, h2, h3⟩ := cost_facts hv
    obtain ⟨h200, _, hr⟩ := layB_each h1
    have hcost : Hid (CostV (costOf xs wd) = .agg #[.int .i64 (overI xs wd), .int .i64 xs.length]) := by show _ = _; rw [costOf_yes hv]; rfl
    have HO := Lib.hid (overF_yes h1 (show ¬ wd < 0 by omega))
    have HV := Lib.hid h1; clear h1 hv
    go_enter Try.func21, Try.ntmps21
    go_wp2_with (first | (go_at_call 49; refine (HV.out ▸ impl_LayoutValid xs A cap _ hup ht).mono ?_; rintro e w' ⟨_, rfl, hb', rfl⟩; obtain ⟨hc', hf'⟩ := bcell hb'; (try (have hz' : w.heap.size < w'.heap.size := (by have := hb'.size; simp at this; omega))); (try (have hzr : wr.heap.size < w'.heap.size := (by have := hb'.size; simp at this; omega))); have hup2 := hup.up hb' hb'.size; have hbq := hb') | (go_at_call 50; go_must (refine (HO.out ▸ impl_Overflow xs A cap wd _ hup2 ht ⟨by omega, by omega⟩).mono ?_); rintro e w2 ⟨_, rfl, hb2, rfl⟩; obtain ⟨hc2, hf2⟩ := bcell hb2))
    exact bodyPost_ret (v := .tuple #[.agg #[.int .i64 (overI xs wd), .int .i64 xs.length], .bool true]) (by simp [results, Try.results21, go_sem, hc', hf', hc2, hf2, hz']) rfl (Post.mk (by repeat' (first | exact Below.refl _ _ | assumption | (refine Below.drew ?_) | (refine below_draws ?_ _) | (refine Below.alloc ?_ ?_ _) | (refine Below.setCell ?_ ?_ _) | (refine Below.trans ?_ (Below.mono (by assumption) ?_)) | omega | (simp; done) | (simp; omega))) (by rw [hcost.out]))
  | false =>
    have hcost : Hid (CostV (costOf xs wd) = .agg #[.int .i64 0, .int .i64 0]) := by show _ = _; rw [costOf_no hv]; rfl
    cases hl : layB xs with
    | false =>
      have HV := Lib.hid hl; clear hl hv
      go_enter Try.func21, Try.ntmps21
      go_wp2_with (first | (go_at_call 49; refine (HV.out ▸ impl_LayoutValid xs A cap _ hup ht).mono ?_; rintro e w' ⟨_, rfl, hb', rfl⟩; obtain ⟨hc', hf'⟩ := bcell hb'; (try (have hz' : w.heap.size < w'.heap.size := (by have := hb'.size; simp at this; omega))); (try (have hzr : wr.heap.size < w'.heap.size := (by have := hb'.size; simp at this; omega)))))
      all_goals exact bodyPost_ret (v := .tuple #[.agg #[.int .i64 0, .int .i64 0], .bool false]) (by simp [results, Try.results21, go_sem, hc', hf', hz']) rfl (Post.mk (by repeat' (first | exact Below.refl _ _ | assumption | (refine Below.drew ?_) | (refine below_draws ?_ _) | (refine Below.alloc ?_ ?_ _) | (refine Below.setCell ?_ ?_ _) | (refine Below.trans ?_ (Below.mono (by assumption) ?_)) | omega | (simp; done) | (simp; omega))) (by rw [hcost.out]))
    | true =>
      have hw : ¬ (0 ≤ wd ∧ wd ≤ 200) := fun h' => by rw [costB, hl, Bool.true_and, decide_eq_true h'] at hv; cases hv
      have HV := Lib.hid hl; clear hl hv
      by_cases h0 : wd < 0
      · go_enter Try.func21, Try.ntmps21
        go_wp2_with (first | (go_at_call 49; refine (HV.out ▸ impl_LayoutValid xs A cap _ hup ht).mono ?_; rintro e w' ⟨_, rfl, hb', rfl⟩; obtain ⟨hc', hf'⟩ := bcell hb'; (try (have hz' : w.heap.size < w'.heap.size := (by have := hb'.size; simp at this; omega))); (try (have hzr : wr.heap.size < w'.heap.size := (by have := hb'.size; simp at this; omega)))))
        all_goals exact bodyPost_ret (v := .tuple #[.agg #[.int .i64 0, .int .i64 0], .bool false]) (by simp [results, Try.results21, go_sem, hc', hf', hz']) rfl (Post.mk (by repeat' (first | exact Below.refl _ _ | assumption | (refine Below.drew ?_) | (refine below_draws ?_ _) | (refine Below.alloc ?_ ?_ _) | (refine Below.setCell ?_ ?_ _) | (refine Below.trans ?_ (Below.mono (by assumption) ?_)) | omega | (simp; done) | (simp; omega))) (by rw [hcost.out]))
      · have h200 : 200 < wd := by omega
        go_enter Try.func21, Try.ntmps21
        go_wp2_with (first | (go_at_call 49; refine (HV.out ▸ impl_LayoutValid xs A cap _ hup ht).mono ?_; rintro e w' ⟨_, rfl, hb', rfl⟩; obtain ⟨hc', hf'⟩ := bcell hb'; (try (have hz' : w.heap.size < w'.heap.size := (by have := hb'.size; simp at this; omega))); (try (have hzr : wr.heap.size < w'.heap.size := (by have := hb'.size; simp at this; omega)))))
        all_goals exact bodyPost_ret (v := .tuple #[.agg #[.int .i64 0, .int .i64 0], .bool false]) (by simp [results, Try.results21, go_sem, hc', hf', hz']) rfl (Post.mk (by repeat' (first | exact Below.refl _ _ | assumption | (refine Below.drew ?_) | (refine below_draws ?_ _) | (refine Below.alloc ?_ ?_ _) | (refine Below.setCell ?_ ?_ _) | (refine Below.trans ?_ (Below.mono (by assumption) ?_)) | omega | (simp; done) | (simp; omega))) (by rw [hcost.out]))
end Go.Proofs.Ytcnbnggfddmkbaa

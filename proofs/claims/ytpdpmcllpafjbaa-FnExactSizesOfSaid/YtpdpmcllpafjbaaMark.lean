/- Marks of texts and tokens, by the new walk. -/
import Derived.Test.YtpdpmcllpafjbaaInts
namespace Go.Proofs.Ytpdpmcllpafjbaa
open Go.RowKit
set_option linter.unusedVariables false
set_option linter.unusedSimpArgs false

def mdig (k : Int) : ByteArray := ⟨#[UInt8.ofNat (IntKind.u8.wrap (IntKind.i64.wrap (48 + k.tmod 10))).toNat]⟩
def mloop (k : Nat) (acc : ByteArray) : ByteArray := if h : k = 0 then acc else mloop (k / 10) (mdig k ++ acc)
termination_by k
decreasing_by exact Nat.div_lt_self (by omega) (by decide)
def mtext (x : Int) : ByteArray := if x.toNat = 0 then ⟨#[109, 48]⟩ else ⟨#[109]⟩ ++ mloop x.toNat ⟨#[]⟩
theorem bytes_append_size (a b : ByteArray) : (a ++ b).size = a.size + b.size := ByteArray.size_append
theorem mloop_size : ∀ (k : Nat) (acc : ByteArray), (mloop k acc).size ≤ acc.size + k := by
  intro k
  induction k using Nat.strongRecOn with
  | _ k ih =>
    intro acc
    rw [mloop]
    split
    · omega
    · have h1 := ih (k / 10) (Nat.div_lt_self (by omega) (by decide)) (mdig k ++ acc)
      have h2 : (mdig k ++ acc).size = 1 + acc.size := by rw [bytes_append_size]; rfl
      have h3 : k / 10 ≤ k - 1 := by omega
      omega

theorem tysXMark_markTextL : type_of% (And.intro ty_tg1 (And.intro ty_tg2 (And.intro ty_sz2 (And.intro ty_in2 (And.intro ty_tg3 (And.intro ty_sz3 (And.intro ty_in3 (And.intro ty_tg4 (And.intro ty_sz4 (And.intro ty_in4 (And.intro ty_tg5 (And.intro ty_sz5 (And.intro ty_in5 (And.intro ty_tg9 (And.intro ty_sz9 (And.intro ty_in9 (And.intro ty_tg18 (And.intro ty_sz18 (And.intro ty_in18 (And.intro ty_pl18 (And.intro ty_fd18_0 (And.intro ty_tg28 (And.intro ty_sz28 (And.intro ty_in28 (And.intro ty_tg48 (And.intro ty_sz48 (And.intro ty_in48 (And.intro ty_tg50 (And.intro ty_sz50 (And.intro ty_in50 (And.intro ty_pl50 (And.intro ty_fd50_0 (And.intro ty_fd50_1 (And.intro ty_fd50_2 (And.intro ty_fd50_3 (And.intro ty_tg61 (And.intro ty_tg109 (And.intro Try.underlying1 (And.intro Try.underlying2 (And.intro Try.underlying3 (And.intro Try.underlying4 (And.intro Try.underlying5 (And.intro Try.underlying6 (And.intro Try.underlying7 (And.intro Try.underlying9 (And.intro Try.underlying12 (And.intro Try.underlying13 (And.intro Try.underlying15 (And.intro Try.underlying16 (And.intro Try.underlying17 (And.intro Try.underlying18 (And.intro Try.underlying19 (And.intro Try.underlying28 (And.intro Try.underlying48 (And.intro Try.underlying50 (And.intro Try.underlying61 (Try.underlying109))))))))))))))))))))))))))))))))))))))))))))))))))))))))) := And.intro ty_tg1 (And.intro ty_tg2 (And.intro ty_sz2 (And.intro ty_in2 (And.intro ty_tg3 (And.intro ty_sz3 (And.intro ty_in3 (And.intro ty_tg4 (And.intro ty_sz4 (And.intro ty_in4 (And.intro ty_tg5 (And.intro ty_sz5 (And.intro ty_in5 (And.intro ty_tg9 (And.intro ty_sz9 (And.intro ty_in9 (And.intro ty_tg18 (And.intro ty_sz18 (And.intro ty_in18 (And.intro ty_pl18 (And.intro ty_fd18_0 (And.intro ty_tg28 (And.intro ty_sz28 (And.intro ty_in28 (And.intro ty_tg48 (And.intro ty_sz48 (And.intro ty_in48 (And.intro ty_tg50 (And.intro ty_sz50 (And.intro ty_in50 (And.intro ty_pl50 (And.intro ty_fd50_0 (And.intro ty_fd50_1 (And.intro ty_fd50_2 (And.intro ty_fd50_3 (And.intro ty_tg61 (And.intro ty_tg109 (And.intro Try.underlying1 (And.intro Try.underlying2 (And.intro Try.underlying3 (And.intro Try.underlying4 (And.intro Try.underlying5 (And.intro Try.underlying6 (And.intro Try.underlying7 (And.intro Try.underlying9 (And.intro Try.underlying12 (And.intro Try.underlying13 (And.intro Try.underlying15 (And.intro Try.underlying16 (And.intro Try.underlying17 (And.intro Try.underlying18 (And.intro Try.underlying19 (And.intro Try.underlying28 (And.intro Try.underlying48 (And.intro Try.underlying50 (And.intro Try.underlying61 (Try.underlying109))))))))))))))))))))))))))))))))))))))))))))))))))))))))
set_option maxHeartbeats 1000000 in
theorem aL_markText (x : Int) (h0 : 0 ≤ x) (h1 : x ≤ 1000000000000) (H : Hp) : ACalls Try.prog 81 [.i .i64 x] H (fun r H' => r = .s (mtext x) ∧ H' = H) := by
  obtain ⟨k0, rfl⟩ := Int.eq_ofNat_of_zero_le h0
  refine ACalls.intro Try.func81 (by kernel_rfl) rfl (Nat.le_of_ble_eq_true rfl) fun n hn hc => ?_; have hS : ∀ k, H (n + k) = none := fun k => hn (n + k) (by omega); have hS0 : H n = none := hn n (Nat.le_refl _); have hN : ∀ k, nv H (n + k) = 0 := fun k => nv_none (hS k); (try (first | rw [ienv1] | rw [ienv2] | rw [ienv3] | rw [ienv4]))
  repeat (first
    | with_reducible refine VC.seq ?_
    | with_reducible refine VC.region ?_
    | with_reducible refine VC.opsNil ?_
    | with_reducible refine VC.block ?_
    | with_reducible refine VC.blk ?_
    | with_reducible refine VC.skip ?_
    | with_reducible refine VC.scope ?_
    | refine VC.exit rfl ?_
    | ((first | apply s_opS rfl | apply s_opN | apply s_gq rfl | apply s_iq); (focus ((simp only [vsA, vsB, aop, aev, absV, absS, upd_at, aload, rd, afieldAddr, afield, cur, abin, aarith, astr, aun, aindexAddr, aindex, aextract, alen, nv_upd, astore, anil, aconv, asrc, aappend, amake, abuildSlice, abuild, afill, aslice, abnd, Value.cells, if_true, if_false, ite_true, ite_false, eq_self, ne_eq, reduceCtorEq, ↓reduceIte, ↓reduceDIte, Nat.reduceEqDiff, Nat.reduceAdd, Nat.reduceSub, Nat.reduceMul, Nat.reduceLeDiff, Nat.reduceLT, Int.reduceEq, Int.reduceLT, Int.reduceLE, Int.reduceToNat, Int.reduceAdd, Int.reduceNeg, Int.reduceSub, Int.reduceMul, Int.reduceNe, Nat.reduceBEq, Int.reduceBEq, tysXMark_markTextL, ayield, Option.bind_some, Option.bind_none, hS, hN]) <;> exact rfl)); (with_reducible (first | refine vc_id ?_ | refine gqT ?_ | refine gqF ?_ | refine gqF' ?_ | refine gqU ?_ | refine iqT ?_ | refine iqF ?_)))
    | fail)
  (apply s_if; focus ((simp only [vsB, aev, absV, absS, upd_at, if_true, if_false, ite_true, ite_false, eq_self, ne_eq, reduceCtorEq, ↓reduceIte, ↓reduceDIte, Nat.reduceEqDiff, Nat.reduceAdd, Nat.reduceSub, Nat.reduceMul, Nat.reduceLeDiff, Nat.reduceLT, Int.reduceEq, Int.reduceLT, Int.reduceLE, Int.reduceToNat, Int.reduceAdd, Int.reduceNeg, Int.reduceSub, Int.reduceMul, Int.reduceNe, Nat.reduceBEq, Int.reduceBEq, hS, hN]) <;> exact rfl))
  · intro hz
    repeat (first
      | with_reducible refine VC.seq ?_
      | with_reducible refine VC.region ?_
      | with_reducible refine VC.opsNil ?_
      | with_reducible refine VC.block ?_
      | with_reducible refine VC.blk ?_
      | with_reducible refine VC.skip ?_
      | with_reducible refine VC.scope ?_
      | refine VC.exit rfl ?_
      | ((first | apply s_opS rfl | apply s_opN | apply s_gq rfl | apply s_iq); (focus ((simp only [vsA, vsB, aop, aev, absV, absS, upd_at, aload, rd, afieldAddr, afield, cur, abin, aarith, astr, aun, aindexAddr, aindex, aextract, alen, nv_upd, astore, anil, aconv, asrc, aappend, amake, abuildSlice, abuild, afill, aslice, abnd, Value.cells, if_true, if_false, ite_true, ite_false, eq_self, ne_eq, reduceCtorEq, ↓reduceIte, ↓reduceDIte, Nat.reduceEqDiff, Nat.reduceAdd, Nat.reduceSub, Nat.reduceMul, Nat.reduceLeDiff, Nat.reduceLT, Int.reduceEq, Int.reduceLT, Int.reduceLE, Int.reduceToNat, Int.reduceAdd, Int.reduceNeg, Int.reduceSub, Int.reduceMul, Int.reduceNe, Nat.reduceBEq, Int.reduceBEq, tysXMark_markTextL, ayield, Option.bind_some, Option.bind_none, hS, hN]) <;> exact rfl)); (with_reducible (first | refine vc_id ?_ | refine gqT ?_ | refine gqF ?_ | refine gqF' ?_ | refine gqU ?_ | refine iqT ?_ | refine iqF ?_)))
      | fail)
    (first | apply VC.nil | apply VC.ret); (apply fin_flat (H0 := H); (focus ((simp only [vsA, vsB, aop, aev, absV, absS, upd_at, aload, rd, afieldAddr, afield, cur, abin, aarith, astr, aun, aindexAddr, aindex, aextract, alen, nv_upd, astore, anil, aconv, asrc, aappend, amake, abuildSlice, abuild, afill, aslice, abnd, Value.cells, if_true, if_false, ite_true, ite_false, eq_self, ne_eq, reduceCtorEq, ↓reduceIte, ↓reduceDIte, Nat.reduceEqDiff, Nat.reduceAdd, Nat.reduceSub, Nat.reduceMul, Nat.reduceLeDiff, Nat.reduceLT, Int.reduceEq, Int.reduceLT, Int.reduceLE, Int.reduceToNat, Int.reduceAdd, Int.reduceNeg, Int.reduceSub, Int.reduceMul, Int.reduceNe, Nat.reduceBEq, Int.reduceBEq, tysXMark_markTextL, ares, aresL, ares1, Try.results81, if_true]) <;> exact rfl)); (focus rfl); (focus ((try simp only [cutN_upd, cutN_upd0]); exact cutN_self hn)); (focus (first | exact hc | ((repeat (apply CloH_upd)); exact hc))))
    exact ⟨by rw [mtext, Int.toNat_natCast, if_pos (by omega)], rfl⟩
  · intro hz
    repeat (first
      | with_reducible refine VC.seq ?_
      | with_reducible refine VC.region ?_
      | with_reducible refine VC.opsNil ?_
      | with_reducible refine VC.block ?_
      | with_reducible refine VC.blk ?_
      | with_reducible refine VC.skip ?_
      | with_reducible refine VC.scope ?_
      | refine VC.exit rfl ?_
      | ((first | apply s_opS rfl | apply s_opN | apply s_gq rfl | apply s_iq); (focus ((simp only [vsA, vsB, aop, aev, absV, absS, upd_at, aload, rd, afieldAddr, afield, cur, abin, aarith, astr, aun, aindexAddr, aindex, aextract, alen, nv_upd, astore, anil, aconv, asrc, aappend, amake, abuildSlice, abuild, afill, aslice, abnd, Value.cells, if_true, if_false, ite_true, ite_false, eq_self, ne_eq, reduceCtorEq, ↓reduceIte, ↓reduceDIte, Nat.reduceEqDiff, Nat.reduceAdd, Nat.reduceSub, Nat.reduceMul, Nat.reduceLeDiff, Nat.reduceLT, Int.reduceEq, Int.reduceLT, Int.reduceLE, Int.reduceToNat, Int.reduceAdd, Int.reduceNeg, Int.reduceSub, Int.reduceMul, Int.reduceNe, Nat.reduceBEq, Int.reduceBEq, tysXMark_markTextL, ayield, Option.bind_some, Option.bind_none, hS, hN]) <;> exact rfl)); (with_reducible (first | refine vc_id ?_ | refine gqT ?_ | refine gqF ?_ | refine gqF' ?_ | refine gqU ?_ | refine iqT ?_ | refine iqF ?_)))
      | fail)
    refine VC.loop (fun ta H' => ∃ (k : Nat) (acc : ByteArray), mloop k acc = mloop k0 ⟨#[]⟩ ∧ acc.size + k ≤ 1000000000000 ∧ ta 0 = .i .i64 k ∧ ta 3 = .s acc ∧ Low n H H') (fun ta _ => (aint (ta 0)).toNat) ?_ ?_
    · refine ⟨k0, ⟨#[]⟩, rfl, ?_, ?_⟩
      · show 0 + k0 ≤ _; omega
      · (repeat' apply And.intro) <;> (first | rfl | assumption | omega | (simp only [upd_at, Nat.reduceEqDiff, if_true, if_false, and_self, ↓reduceIte, and_true, true_and, Nat.add_left_cancel_iff, Nat.add_eq_left, aint, if_true]; done) | ((simp only [upd_at, Nat.reduceEqDiff, if_true, if_false, and_self, ↓reduceIte, and_true, true_and, Nat.add_left_cancel_iff, Nat.add_eq_left, aint, if_true]) <;> (first | rfl | assumption | omega)) | (focus (repeat (first | exact Low.refl _ _ | assumption | apply low_upd | apply low_upd0)); done))
    · rintro ta H1 ⟨k, acc, hE, hsz, t0, t3, low⟩
      repeat (first
        | with_reducible refine VC.seq ?_
        | with_reducible refine VC.region ?_
        | with_reducible refine VC.opsNil ?_
        | with_reducible refine VC.block ?_
        | with_reducible refine VC.blk ?_
        | with_reducible refine VC.skip ?_
        | with_reducible refine VC.scope ?_
        | refine VC.exit rfl ?_
        | ((first | apply s_opS rfl | apply s_opN | apply s_gq rfl | apply s_iq); (focus ((simp only [vsA, vsB, aop, aev, absV, absS, upd_at, aload, rd, afieldAddr, afield, cur, abin, aarith, astr, aun, aindexAddr, aindex, aextract, alen, nv_upd, astore, anil, aconv, asrc, aappend, amake, abuildSlice, abuild, afill, aslice, abnd, Value.cells, if_true, if_false, ite_true, ite_false, eq_self, ne_eq, reduceCtorEq, ↓reduceIte, ↓reduceDIte, Nat.reduceEqDiff, Nat.reduceAdd, Nat.reduceSub, Nat.reduceMul, Nat.reduceLeDiff, Nat.reduceLT, Int.reduceEq, Int.reduceLT, Int.reduceLE, Int.reduceToNat, Int.reduceAdd, Int.reduceNeg, Int.reduceSub, Int.reduceMul, Int.reduceNe, Nat.reduceBEq, Int.reduceBEq, tysXMark_markTextL, ayield, Option.bind_some, Option.bind_none, t0, t3]) <;> exact rfl)); (with_reducible (first | refine vc_id ?_ | refine gqT ?_ | refine gqF ?_ | refine gqF' ?_ | refine gqU ?_ | refine iqT ?_ | refine iqF ?_)))
        | fail)
      (apply s_if; focus ((simp only [vsB, aev, absV, absS, upd_at, if_true, if_false, ite_true, ite_false, eq_self, ne_eq, reduceCtorEq, ↓reduceIte, ↓reduceDIte, Nat.reduceEqDiff, Nat.reduceAdd, Nat.reduceSub, Nat.reduceMul, Nat.reduceLeDiff, Nat.reduceLT, Int.reduceEq, Int.reduceLT, Int.reduceLE, Int.reduceToNat, Int.reduceAdd, Int.reduceNeg, Int.reduceSub, Int.reduceMul, Int.reduceNe, Nat.reduceBEq, Int.reduceBEq, t0, t3]) <;> exact rfl))
      · intro hp
        have hk : k ≠ 0 := by omega
        have hq : IntKind.i64.wrap ((k : Int).tdiv 10) = ((k / 10 : Nat) : Int) := by
          rw [Int.tdiv_eq_ediv_of_nonneg (by omega), wrap_in (by omega) (by omega)]; omega
        have hd : (⟨#[UInt8.ofNat (IntKind.u8.wrap (IntKind.i64.wrap (48 + (k : Int).tmod 10))).toNat]⟩ : ByteArray) = mdig k := rfl
        have hds : (mdig k).size = 1 := rfl
        have hle : 1 + acc.size ≤ 4611686018427387904 := by omega
        have hm : k / 10 < k := Nat.div_lt_self (by omega) (by decide)
        rw [mloop, dif_neg hk] at hE
        repeat (first
          | with_reducible refine VC.seq ?_
          | with_reducible refine VC.region ?_
          | with_reducible refine VC.opsNil ?_
          | with_reducible refine VC.block ?_
          | with_reducible refine VC.blk ?_
          | with_reducible refine VC.skip ?_
          | with_reducible refine VC.scope ?_
          | refine VC.exit rfl ?_
          | ((first | apply s_opS rfl | apply s_opN | apply s_gq rfl | apply s_iq); (focus ((simp only [vsA, vsB, aop, aev, absV, absS, upd_at, aload, rd, afieldAddr, afield, cur, abin, aarith, astr, aun, aindexAddr, aindex, aextract, alen, nv_upd, astore, anil, aconv, asrc, aappend, amake, abuildSlice, abuild, afill, aslice, abnd, Value.cells, if_true, if_false, ite_true, ite_false, eq_self, ne_eq, reduceCtorEq, ↓reduceIte, ↓reduceDIte, Nat.reduceEqDiff, Nat.reduceAdd, Nat.reduceSub, Nat.reduceMul, Nat.reduceLeDiff, Nat.reduceLT, Int.reduceEq, Int.reduceLT, Int.reduceLE, Int.reduceToNat, Int.reduceAdd, Int.reduceNeg, Int.reduceSub, Int.reduceMul, Int.reduceNe, Nat.reduceBEq, Int.reduceBEq, tysXMark_markTextL, ayield, Option.bind_some, Option.bind_none, t0, t3, hq, hd, hds, hle]) <;> exact rfl)); (with_reducible (first | refine vc_id ?_ | refine gqT ?_ | refine gqF ?_ | refine gqF' ?_ | refine gqU ?_ | refine iqT ?_ | refine iqF ?_)))
          | fail)
        refine VC.back ?_
        refine ⟨⟨_, _, hE, ?_, ?_⟩, ?_⟩
        · rw [bytes_append_size, hds]; omega
        · (repeat' apply And.intro) <;> (first | rfl | assumption | omega | (simp only [upd_at, Nat.reduceEqDiff, if_true, if_false, and_self, ↓reduceIte, and_true, true_and, Nat.add_left_cancel_iff, Nat.add_eq_left, aint, t0, t3]; done) | ((simp only [upd_at, Nat.reduceEqDiff, if_true, if_false, and_self, ↓reduceIte, and_true, true_and, Nat.add_left_cancel_iff, Nat.add_eq_left, aint, t0, t3]) <;> (first | rfl | assumption | omega)) | (focus (repeat (first | exact Low.refl _ _ | assumption | apply low_upd | apply low_upd0)); done))
        · (repeat' apply And.intro) <;> (first | rfl | assumption | omega | (simp only [upd_at, Nat.reduceEqDiff, if_true, if_false, and_self, ↓reduceIte, and_true, true_and, Nat.add_left_cancel_iff, Nat.add_eq_left, aint, t0, Int.toNat_natCast]; done) | ((simp only [upd_at, Nat.reduceEqDiff, if_true, if_false, and_self, ↓reduceIte, and_true, true_and, Nat.add_left_cancel_iff, Nat.add_eq_left, aint, t0, Int.toNat_natCast]) <;> (first | rfl | assumption | omega)) | (focus (repeat (first | exact Low.refl _ _ | assumption | apply low_upd | apply low_upd0)); done))
      · intro hp
        have hk : k = 0 := by omega
        subst hk
        rw [mloop, dif_pos rfl] at hE
        have hle : 1 + acc.size ≤ 4611686018427387904 := by omega
        have hm1 : (⟨#[109]⟩ : ByteArray).size = 1 := rfl
        repeat (first
          | with_reducible refine VC.seq ?_
          | with_reducible refine VC.region ?_
          | with_reducible refine VC.opsNil ?_
          | with_reducible refine VC.block ?_
          | with_reducible refine VC.blk ?_
          | with_reducible refine VC.skip ?_
          | with_reducible refine VC.scope ?_
          | refine VC.exit rfl ?_
          | ((first | apply s_opS rfl | apply s_opN | apply s_gq rfl | apply s_iq); (focus ((simp only [vsA, vsB, aop, aev, absV, absS, upd_at, aload, rd, afieldAddr, afield, cur, abin, aarith, astr, aun, aindexAddr, aindex, aextract, alen, nv_upd, astore, anil, aconv, asrc, aappend, amake, abuildSlice, abuild, afill, aslice, abnd, Value.cells, if_true, if_false, ite_true, ite_false, eq_self, ne_eq, reduceCtorEq, ↓reduceIte, ↓reduceDIte, Nat.reduceEqDiff, Nat.reduceAdd, Nat.reduceSub, Nat.reduceMul, Nat.reduceLeDiff, Nat.reduceLT, Int.reduceEq, Int.reduceLT, Int.reduceLE, Int.reduceToNat, Int.reduceAdd, Int.reduceNeg, Int.reduceSub, Int.reduceMul, Int.reduceNe, Nat.reduceBEq, Int.reduceBEq, tysXMark_markTextL, ayield, Option.bind_some, Option.bind_none, t0, t3, hm1, hle]) <;> exact rfl)); (with_reducible (first | refine vc_id ?_ | refine gqT ?_ | refine gqF ?_ | refine gqF' ?_ | refine gqU ?_ | refine iqT ?_ | refine iqF ?_)))
          | fail)
        (first | apply VC.nil | apply VC.ret); (apply fin_low (H0 := H); (focus ((simp only [vsA, vsB, aop, aev, absV, absS, upd_at, aload, rd, afieldAddr, afield, cur, abin, aarith, astr, aun, aindexAddr, aindex, aextract, alen, nv_upd, astore, anil, aconv, asrc, aappend, amake, abuildSlice, abuild, afill, aslice, abnd, Value.cells, if_true, if_false, ite_true, ite_false, eq_self, ne_eq, reduceCtorEq, ↓reduceIte, ↓reduceDIte, Nat.reduceEqDiff, Nat.reduceAdd, Nat.reduceSub, Nat.reduceMul, Nat.reduceLeDiff, Nat.reduceLT, Int.reduceEq, Int.reduceLT, Int.reduceLE, Int.reduceToNat, Int.reduceAdd, Int.reduceNeg, Int.reduceSub, Int.reduceMul, Int.reduceNe, Nat.reduceBEq, Int.reduceBEq, tysXMark_markTextL, ares, aresL, ares1, Try.results81, t3]) <;> exact rfl)); (focus (repeat (first | exact Low.refl _ _ | assumption | apply low_upd | apply low_upd0))); (focus (exact hn)); (focus (exact hc)))
        · exact .flat rfl
        · refine ⟨?_, rfl⟩
          rw [mtext, Int.toNat_natCast, if_neg (by omega), ← hE]

/-- Tokens that were marked. -/
def mtok (s : Int) (j : Nat) : Tok := ⟨s + 3 * j, s + 3 * j + 1, mtext (s + 3 * j + 2)⟩
def mtoks (s : Int) (len : Nat) : List Tok := (List.range len).map (mtok s)
theorem mtoks_len (s : Int) (len : Nat) : (mtoks s len).length = len := by simp [mtoks]
theorem mtoks_succ (s : Int) (k : Nat) : mtoks s (k + 1) = mtoks s k ++ [mtok s k] := by simp [mtoks, List.range_succ]
theorem Tok.flat_snoc (xs : List Tok) (t : Tok) : Tok.flat (xs ++ [t]) = Tok.flat xs ++ t.cs := by simp [Tok.flat]
theorem put1 {P Q : List AV} {x a : AV} {m : Nat} (h : P.length = m) : (P ++ x :: Q).take m ++ [a] ++ (P ++ x :: Q).drop (m + 1) = P ++ a :: Q := by
  subst h
  rw [List.take_left' rfl, List.append_assoc, show P.length + 1 = P.length + 1 from rfl, List.drop_append]
  simp
theorem put_len {l l' : List AV} {a : AV} {m : Nat} (h : l.take m ++ [a] ++ l.drop (m + 1) = l') (hm : m < l.length) : l'.length = l.length := by
  rw [← h]; simp; omega
theorem drop3 (l : List AV) (m : Nat) (h : m + 3 ≤ l.length) : ∃ x y z, l.drop m = x :: y :: z :: l.drop (m + 3) := by
  refine ⟨l[m], l[m + 1], l[m + 2], ?_⟩
  rw [List.drop_eq_getElem_cons (by omega), List.drop_eq_getElem_cons (by omega), List.drop_eq_getElem_cons (by omega)]
theorem mark3_step (s : Int) (cells : List AV) (k : Nat) (h : k * 3 + 3 ≤ cells.length) {c1 c2 c3 : List AV}
    (h1 : (Tok.flat (mtoks s k) ++ cells.drop (k * 3)).take (k * 3) ++ [.i .i64 (s + 3 * k)] ++ (Tok.flat (mtoks s k) ++ cells.drop (k * 3)).drop (k * 3 + 1) = c1)
    (h2 : c1.take (k * 3 + 1) ++ [.i .i64 (s + 3 * k + 1)] ++ c1.drop (k * 3 + 1 + 1) = c2)
    (h3 : c2.take (k * 3 + 2) ++ [.s (mtext (s + 3 * k + 2))] ++ c2.drop (k * 3 + 2 + 1) = c3) : c3 = Tok.flat (mtoks s (k + 1)) ++ cells.drop ((k + 1) * 3) := by
  have hl : (Tok.flat (mtoks s k)).length = k * 3 := by rw [Tok.flat_len, mtoks_len]
  obtain ⟨x, y, z, hd⟩ := drop3 cells (k * 3) h
  rw [hd, put1 hl] at h1
  subst h1
  have e2 : ∀ (a b c : AV) Q, Tok.flat (mtoks s k) ++ a :: b :: c :: Q = (Tok.flat (mtoks s k) ++ [a]) ++ b :: c :: Q := fun a b c Q => by simp
  rw [e2, put1 (by simp [hl])] at h2
  subst h2
  have e3 : ∀ (a b c : AV) Q, Tok.flat (mtoks s k) ++ [a] ++ b :: c :: Q = (Tok.flat (mtoks s k) ++ [a, b]) ++ c :: Q := fun a b c Q => by simp
  rw [e3, put1 (by simp [hl])] at h3
  subst h3
  rw [mtoks_succ, Tok.flat_snoc, show (k + 1) * 3 = k * 3 + 3 by omega]
  simp [Tok.cs, mtok]

theorem tysXMark_markTokenSL : type_of% (And.intro ty_tg1 (And.intro ty_tg2 (And.intro ty_sz2 (And.intro ty_in2 (And.intro ty_tg3 (And.intro ty_sz3 (And.intro ty_in3 (And.intro ty_tg4 (And.intro ty_sz4 (And.intro ty_in4 (And.intro ty_tg5 (And.intro ty_sz5 (And.intro ty_in5 (And.intro ty_tg9 (And.intro ty_sz9 (And.intro ty_in9 (And.intro ty_tg18 (And.intro ty_sz18 (And.intro ty_in18 (And.intro ty_pl18 (And.intro ty_fd18_0 (And.intro ty_tg21 (And.intro ty_sz21 (And.intro ty_in21 (And.intro ty_tg22 (And.intro ty_sz22 (And.intro ty_in22 (And.intro ty_pl22 (And.intro ty_fd22_0 (And.intro ty_fd22_1 (And.intro ty_tg23 (And.intro ty_sz23 (And.intro ty_in23 (And.intro ty_pl23 (And.intro ty_fd23_0 (And.intro ty_fd23_1 (And.intro ty_tg24 (And.intro ty_tg25 (And.intro ty_sz25 (And.intro ty_in25 (And.intro ty_pl25 (And.intro ty_fd25_0 (And.intro ty_fd25_1 (And.intro ty_tg26 (And.intro ty_tg27 (And.intro ty_tg28 (And.intro ty_sz28 (And.intro ty_in28 (And.intro ty_tg30 (And.intro ty_tg31 (And.intro ty_tg32 (And.intro ty_sz32 (And.intro ty_in32 (And.intro ty_tg33 (And.intro ty_tg34 (And.intro ty_tg35 (And.intro ty_sz35 (And.intro ty_in35 (And.intro ty_tg78 (And.intro ty_sz78 (And.intro ty_in78 (And.intro ty_pl78 (And.intro ty_fd78_0 (And.intro ty_fd78_1 (And.intro ty_fd78_2 (And.intro ty_tg81 (And.intro ty_tg87 (And.intro ty_sz87 (And.intro ty_in87 (And.intro ty_pl87 (And.intro ty_fd87_0 (And.intro ty_fd87_1 (And.intro ty_fd87_2 (And.intro Try.underlying1 (And.intro Try.underlying2 (And.intro Try.underlying3 (And.intro Try.underlying4 (And.intro Try.underlying5 (And.intro Try.underlying6 (And.intro Try.underlying7 (And.intro Try.underlying9 (And.intro Try.underlying12 (And.intro Try.underlying13 (And.intro Try.underlying15 (And.intro Try.underlying16 (And.intro Try.underlying17 (And.intro Try.underlying18 (And.intro Try.underlying19 (And.intro Try.underlying21 (And.intro Try.underlying22 (And.intro Try.underlying23 (And.intro Try.underlying24 (And.intro Try.underlying25 (And.intro Try.underlying26 (And.intro Try.underlying27 (And.intro Try.underlying28 (And.intro Try.underlying30 (And.intro Try.underlying31 (And.intro Try.underlying32 (And.intro Try.underlying33 (And.intro Try.underlying34 (And.intro Try.underlying35 (And.intro Try.underlying78 (And.intro Try.underlying81 (Try.underlying87))))))))))))))))))))))))))))))))))))))))))))))))))))))))))))))))))))))))))))))))))))))))))))))))))))))))) := And.intro ty_tg1 (And.intro ty_tg2 (And.intro ty_sz2 (And.intro ty_in2 (And.intro ty_tg3 (And.intro ty_sz3 (And.intro ty_in3 (And.intro ty_tg4 (And.intro ty_sz4 (And.intro ty_in4 (And.intro ty_tg5 (And.intro ty_sz5 (And.intro ty_in5 (And.intro ty_tg9 (And.intro ty_sz9 (And.intro ty_in9 (And.intro ty_tg18 (And.intro ty_sz18 (And.intro ty_in18 (And.intro ty_pl18 (And.intro ty_fd18_0 (And.intro ty_tg21 (And.intro ty_sz21 (And.intro ty_in21 (And.intro ty_tg22 (And.intro ty_sz22 (And.intro ty_in22 (And.intro ty_pl22 (And.intro ty_fd22_0 (And.intro ty_fd22_1 (And.intro ty_tg23 (And.intro ty_sz23 (And.intro ty_in23 (And.intro ty_pl23 (And.intro ty_fd23_0 (And.intro ty_fd23_1 (And.intro ty_tg24 (And.intro ty_tg25 (And.intro ty_sz25 (And.intro ty_in25 (And.intro ty_pl25 (And.intro ty_fd25_0 (And.intro ty_fd25_1 (And.intro ty_tg26 (And.intro ty_tg27 (And.intro ty_tg28 (And.intro ty_sz28 (And.intro ty_in28 (And.intro ty_tg30 (And.intro ty_tg31 (And.intro ty_tg32 (And.intro ty_sz32 (And.intro ty_in32 (And.intro ty_tg33 (And.intro ty_tg34 (And.intro ty_tg35 (And.intro ty_sz35 (And.intro ty_in35 (And.intro ty_tg78 (And.intro ty_sz78 (And.intro ty_in78 (And.intro ty_pl78 (And.intro ty_fd78_0 (And.intro ty_fd78_1 (And.intro ty_fd78_2 (And.intro ty_tg81 (And.intro ty_tg87 (And.intro ty_sz87 (And.intro ty_in87 (And.intro ty_pl87 (And.intro ty_fd87_0 (And.intro ty_fd87_1 (And.intro ty_fd87_2 (And.intro Try.underlying1 (And.intro Try.underlying2 (And.intro Try.underlying3 (And.intro Try.underlying4 (And.intro Try.underlying5 (And.intro Try.underlying6 (And.intro Try.underlying7 (And.intro Try.underlying9 (And.intro Try.underlying12 (And.intro Try.underlying13 (And.intro Try.underlying15 (And.intro Try.underlying16 (And.intro Try.underlying17 (And.intro Try.underlying18 (And.intro Try.underlying19 (And.intro Try.underlying21 (And.intro Try.underlying22 (And.intro Try.underlying23 (And.intro Try.underlying24 (And.intro Try.underlying25 (And.intro Try.underlying26 (And.intro Try.underlying27 (And.intro Try.underlying28 (And.intro Try.underlying30 (And.intro Try.underlying31 (And.intro Try.underlying32 (And.intro Try.underlying33 (And.intro Try.underlying34 (And.intro Try.underlying35 (And.intro Try.underlying78 (And.intro Try.underlying81 (Try.underlying87))))))))))))))))))))))))))))))))))))))))))))))))))))))))))))))))))))))))))))))))))))))))))))))))))))))))
set_option maxHeartbeats 2000000 in
theorem aL_markTokenS (s : Int) (len : Nat) (hl : len ≤ 1000000000) (hs0 : 0 ≤ s) (hs1 : s ≤ 100000000000) (H : Hp) (b ver : Nat) (e : TypeId) (cells : List AV) (hc : cells.length = len * 3) (hb : H b = some ⟨ver, e, 3, cells⟩) :
    ACalls Try.prog 36 [.os b ver len, .i .i64 s] H (fun r H' => r = .i .i64 (s + 3 * len) ∧ H' = upd H b (some ⟨ver, e, 3, Tok.flat (mtoks s len)⟩)) := by
  refine ACalls.intro Try.func36 (by kernel_rfl) rfl (Nat.le_of_ble_eq_true rfl) fun n hn hc => ?_; have hS : ∀ k, H (n + k) = none := fun k => hn (n + k) (by omega); have hS0 : H n = none := hn n (Nat.le_refl _); have hN : ∀ k, nv H (n + k) = 0 := fun k => nv_none (hS k); (try (first | rw [ienv1] | rw [ienv2] | rw [ienv3] | rw [ienv4]))
  repeat (first
    | with_reducible refine VC.seq ?_
    | with_reducible refine VC.region ?_
    | with_reducible refine VC.opsNil ?_
    | with_reducible refine VC.block ?_
    | with_reducible refine VC.blk ?_
    | with_reducible refine VC.skip ?_
    | with_reducible refine VC.scope ?_
    | refine VC.exit rfl ?_
    | ((first | apply s_opS rfl | apply s_opN | apply s_gq rfl | apply s_iq); (focus ((simp only [vsA, vsB, aop, aev, absV, absS, upd_at, aload, rd, afieldAddr, afield, cur, abin, aarith, astr, aun, aindexAddr, aindex, aextract, alen, nv_upd, astore, anil, aconv, asrc, aappend, amake, abuildSlice, abuild, afill, aslice, abnd, Value.cells, if_true, if_false, ite_true, ite_false, eq_self, ne_eq, reduceCtorEq, ↓reduceIte, ↓reduceDIte, Nat.reduceEqDiff, Nat.reduceAdd, Nat.reduceSub, Nat.reduceMul, Nat.reduceLeDiff, Nat.reduceLT, Int.reduceEq, Int.reduceLT, Int.reduceLE, Int.reduceToNat, Int.reduceAdd, Int.reduceNeg, Int.reduceSub, Int.reduceMul, Int.reduceNe, Nat.reduceBEq, Int.reduceBEq, tysXMark_markTokenSL, ayield, Option.bind_some, Option.bind_none, hS, hN]) <;> exact rfl)); (with_reducible (first | refine vc_id ?_ | refine gqT ?_ | refine gqF ?_ | refine gqF' ?_ | refine gqU ?_ | refine iqT ?_ | refine iqF ?_)))
    | fail)
  refine VC.loop (fun ta H' => ∃ (k : Nat), k ≤ len ∧ ta 0 = .os b ver len ∧ ta 1 = .i .i64 (s + 3 * k) ∧ ta 5 = .i .i64 k ∧ H' b = some ⟨ver, e, 3, Tok.flat (mtoks s k) ++ cells.drop (k * 3)⟩ ∧ H' = upd H b (some ⟨ver, e, 3, Tok.flat (mtoks s k) ++ cells.drop (k * 3)⟩)) (fun ta _ => len - (aint (ta 5)).toNat) ?_ ?_
  · refine ⟨0, by omega, ?_⟩
    have e0 : s = s + 3 * (0 : Nat) := by omega
    have e1 : Tok.flat (mtoks s 0) ++ cells.drop (0 * 3) = cells := by simp [mtoks, Tok.flat]
    rw [e1]
    have e2 := (upd_id H b _ hb).symm
    (repeat' apply And.intro) <;> (first | rfl | assumption | omega | (simp only [upd_at, Nat.reduceEqDiff, if_true, if_false, and_self, ↓reduceIte, and_true, true_and, Nat.add_left_cancel_iff, Nat.add_eq_left, aint, ← e0]; done) | ((simp only [upd_at, Nat.reduceEqDiff, if_true, if_false, and_self, ↓reduceIte, and_true, true_and, Nat.add_left_cancel_iff, Nat.add_eq_left, aint, ← e0]) <;> (first | rfl | assumption | omega)) | (focus (repeat (first | exact Low.refl _ _ | assumption | apply low_upd | apply low_upd0)); done))
  · rintro ta H1 ⟨k, hk, t0, t1, t5, b0, hH⟩
    repeat (first
      | with_reducible refine VC.seq ?_
      | with_reducible refine VC.region ?_
      | with_reducible refine VC.opsNil ?_
      | with_reducible refine VC.block ?_
      | with_reducible refine VC.blk ?_
      | with_reducible refine VC.skip ?_
      | with_reducible refine VC.scope ?_
      | refine VC.exit rfl ?_
      | ((first | apply s_opS rfl | apply s_opN | apply s_gq rfl | apply s_iq); (focus ((simp only [vsA, vsB, aop, aev, absV, absS, upd_at, aload, rd, afieldAddr, afield, cur, abin, aarith, astr, aun, aindexAddr, aindex, aextract, alen, nv_upd, astore, anil, aconv, asrc, aappend, amake, abuildSlice, abuild, afill, aslice, abnd, Value.cells, if_true, if_false, ite_true, ite_false, eq_self, ne_eq, reduceCtorEq, ↓reduceIte, ↓reduceDIte, Nat.reduceEqDiff, Nat.reduceAdd, Nat.reduceSub, Nat.reduceMul, Nat.reduceLeDiff, Nat.reduceLT, Int.reduceEq, Int.reduceLT, Int.reduceLE, Int.reduceToNat, Int.reduceAdd, Int.reduceNeg, Int.reduceSub, Int.reduceMul, Int.reduceNe, Nat.reduceBEq, Int.reduceBEq, tysXMark_markTokenSL, ayield, Option.bind_some, Option.bind_none, t0, t1, t5, b0]) <;> exact rfl)); (with_reducible (first | refine vc_id ?_ | refine gqT ?_ | refine gqF ?_ | refine gqF' ?_ | refine gqU ?_ | refine iqT ?_ | refine iqF ?_)))
      | fail)
    (apply s_if; focus ((simp only [vsB, aev, absV, absS, upd_at, if_true, if_false, ite_true, ite_false, eq_self, ne_eq, reduceCtorEq, ↓reduceIte, ↓reduceDIte, Nat.reduceEqDiff, Nat.reduceAdd, Nat.reduceSub, Nat.reduceMul, Nat.reduceLeDiff, Nat.reduceLT, Int.reduceEq, Int.reduceLT, Int.reduceLE, Int.reduceToNat, Int.reduceAdd, Int.reduceNeg, Int.reduceSub, Int.reduceMul, Int.reduceNe, Nat.reduceBEq, Int.reduceBEq, t0, t1, t5, b0]) <;> exact rfl))
    · intro hlt
      have hk1 : k < len := by omega
      have hw2 := wrapN (k := k) (by omega)
      have hw3 : IntKind.i64.wrap (s + 3 * (k : Int) + 1) = s + 3 * k + 1 := wrap_in (by omega) (by omega)
      have hw4 : IntKind.i64.wrap (s + 3 * (k : Int) + 1 + 1) = s + 3 * k + 2 := by rw [wrap_in (by omega) (by omega)]; omega
      have hw5 : IntKind.i64.wrap (s + 3 * (k : Int) + 2 + 1) = s + 3 * ((k + 1 : Nat) : Int) := by rw [wrap_in (by omega) (by omega)]; omega
      have hm : len - (k + 1) < len - k := by omega
      have hmt := aL_markText (s + 3 * k + 2) (by omega) (by omega)
      have hst := fun c1 c2 c3 => @mark3_step s cells k (by omega) c1 c2 c3
      have hl0 : (Tok.flat (mtoks s k) ++ cells.drop (k * 3)).length = len * 3 := by rw [List.length_append, Tok.flat_len, mtoks_len, List.length_drop]; omega
      generalize Tok.flat (mtoks s k) ++ cells.drop (k * 3) = c0 at *
      obtain ⟨c1, h1⟩ : ∃ c1, c0.take (k * 3) ++ [.i .i64 (s + 3 * k)] ++ c0.drop (k * 3 + 1) = c1 := ⟨_, rfl⟩
      have hl1 := put_len h1 (by omega)
      obtain ⟨c2, h2⟩ : ∃ c2, c1.take (k * 3 + 1) ++ [.i .i64 (s + 3 * k + 1)] ++ c1.drop (k * 3 + 1 + 1) = c2 := ⟨_, rfl⟩
      have hl2 := put_len h2 (by omega)
      obtain ⟨c3, h3⟩ : ∃ c3, c2.take (k * 3 + 2) ++ [.s (mtext (s + 3 * k + 2))] ++ c2.drop (k * 3 + 2 + 1) = c3 := ⟨_, rfl⟩
      have hl3 := put_len h3 (by omega)
      have hst := hst c1 c2 c3 h1 h2 h3
      rw [hl0] at hl1
      rw [hl1] at hl2
      rw [hl2] at hl3
      have q1 : k * 3 + 1 ≤ len * 3 := by omega
      have q2 : k * 3 + 1 + 1 ≤ len * 3 := by omega
      have q3 : k * 3 + 2 + 1 ≤ len * 3 := by omega
      repeat (first
        | with_reducible refine VC.seq ?_
        | with_reducible refine VC.region ?_
        | with_reducible refine VC.opsNil ?_
        | with_reducible refine VC.block ?_
        | with_reducible refine VC.blk ?_
        | with_reducible refine VC.skip ?_
        | with_reducible refine VC.scope ?_
        | refine VC.exit rfl ?_
        | ((first | apply s_opS rfl | apply s_opN | apply s_gq rfl | apply s_iq); (focus ((simp only [vsA, vsB, aop, aev, absV, absS, upd_at, aload, rd, afieldAddr, afield, cur, abin, aarith, astr, aun, aindexAddr, aindex, aextract, alen, nv_upd, astore, anil, aconv, asrc, aappend, amake, abuildSlice, abuild, afill, aslice, abnd, Value.cells, if_true, if_false, ite_true, ite_false, eq_self, ne_eq, reduceCtorEq, ↓reduceIte, ↓reduceDIte, Nat.reduceEqDiff, Nat.reduceAdd, Nat.reduceSub, Nat.reduceMul, Nat.reduceLeDiff, Nat.reduceLT, Int.reduceEq, Int.reduceLT, Int.reduceLE, Int.reduceToNat, Int.reduceAdd, Int.reduceNeg, Int.reduceSub, Int.reduceMul, Int.reduceNe, Nat.reduceBEq, Int.reduceBEq, tysXMark_markTokenSL, ayield, Option.bind_some, Option.bind_none, t0, t1, t5, b0, hk1, hl0, hl1, hl2, hl3, q1, q2, q3, h1, h2, h3, hw2, hw3, hw4, hw5]) <;> exact rfl)); (with_reducible (first | refine vc_id ?_ | refine gqT ?_ | refine gqF ?_ | refine gqF' ?_ | refine gqU ?_ | refine iqT ?_ | refine iqF ?_)))
        | (apply s_callI rfl; (focus (exact rfl)); (focus ((simp only [vsB, aev, absV, absS, upd_at, if_true, if_false, ite_true, ite_false, eq_self, ne_eq, reduceCtorEq, ↓reduceIte, ↓reduceDIte, Nat.reduceEqDiff, Nat.reduceAdd, Nat.reduceSub, Nat.reduceMul, Nat.reduceLeDiff, Nat.reduceLT, Int.reduceEq, Int.reduceLT, Int.reduceLE, Int.reduceToNat, Int.reduceAdd, Int.reduceNeg, Int.reduceSub, Int.reduceMul, Int.reduceNe, Nat.reduceBEq, Int.reduceBEq, t0, t1, t5, b0, hk1, hl0, hl1, hl2, hl3, q1, q2, q3, h1, h2, h3, hw2, hw3, hw4, hw5]) <;> exact rfl)); (focus (exact hmt _)))
        | fail)
      refine VC.back ?_
      subst hst
      rw [hH]
      simp only [upd_upd]
      refine ⟨⟨k + 1, hk1, ?_⟩, ?_⟩
      · (repeat' apply And.intro) <;> (first | rfl | assumption | omega | (simp only [upd_at, Nat.reduceEqDiff, if_true, if_false, and_self, ↓reduceIte, and_true, true_and, Nat.add_left_cancel_iff, Nat.add_eq_left, aint, t0, t1]; done) | ((simp only [upd_at, Nat.reduceEqDiff, if_true, if_false, and_self, ↓reduceIte, and_true, true_and, Nat.add_left_cancel_iff, Nat.add_eq_left, aint, t0, t1]) <;> (first | rfl | assumption | omega)) | (focus (repeat (first | exact Low.refl _ _ | assumption | apply low_upd | apply low_upd0)); done))
      · (repeat' apply And.intro) <;> (first | rfl | assumption | omega | (simp only [upd_at, Nat.reduceEqDiff, if_true, if_false, and_self, ↓reduceIte, and_true, true_and, Nat.add_left_cancel_iff, Nat.add_eq_left, aint, t5, Int.toNat_natCast]; done) | ((simp only [upd_at, Nat.reduceEqDiff, if_true, if_false, and_self, ↓reduceIte, and_true, true_and, Nat.add_left_cancel_iff, Nat.add_eq_left, aint, t5, Int.toNat_natCast]) <;> (first | rfl | assumption | omega)) | (focus (repeat (first | exact Low.refl _ _ | assumption | apply low_upd | apply low_upd0)); done))
    · intro hlt
      have hkl : k = len := by omega
      subst hkl
      have e1 : Tok.flat (mtoks s k) ++ cells.drop (k * 3) = Tok.flat (mtoks s k) := by rw [List.drop_of_length_le (by omega), List.append_nil]
      rw [e1] at hH
      repeat (first
        | with_reducible refine VC.seq ?_
        | with_reducible refine VC.region ?_
        | with_reducible refine VC.opsNil ?_
        | with_reducible refine VC.block ?_
        | with_reducible refine VC.blk ?_
        | with_reducible refine VC.skip ?_
        | with_reducible refine VC.scope ?_
        | refine VC.exit rfl ?_
        | ((first | apply s_opS rfl | apply s_opN | apply s_gq rfl | apply s_iq); (focus ((simp only [vsA, vsB, aop, aev, absV, absS, upd_at, aload, rd, afieldAddr, afield, cur, abin, aarith, astr, aun, aindexAddr, aindex, aextract, alen, nv_upd, astore, anil, aconv, asrc, aappend, amake, abuildSlice, abuild, afill, aslice, abnd, Value.cells, if_true, if_false, ite_true, ite_false, eq_self, ne_eq, reduceCtorEq, ↓reduceIte, ↓reduceDIte, Nat.reduceEqDiff, Nat.reduceAdd, Nat.reduceSub, Nat.reduceMul, Nat.reduceLeDiff, Nat.reduceLT, Int.reduceEq, Int.reduceLT, Int.reduceLE, Int.reduceToNat, Int.reduceAdd, Int.reduceNeg, Int.reduceSub, Int.reduceMul, Int.reduceNe, Nat.reduceBEq, Int.reduceBEq, tysXMark_markTokenSL, ayield, Option.bind_some, Option.bind_none, t0, t1, t5, b0]) <;> exact rfl)); (with_reducible (first | refine vc_id ?_ | refine gqT ?_ | refine gqF ?_ | refine gqF' ?_ | refine gqU ?_ | refine iqT ?_ | refine iqF ?_)))
        | fail)
      (first | apply VC.nil | apply VC.ret); (apply fin_keep; (focus ((simp only [vsA, vsB, aop, aev, absV, absS, upd_at, aload, rd, afieldAddr, afield, cur, abin, aarith, astr, aun, aindexAddr, aindex, aextract, alen, nv_upd, astore, anil, aconv, asrc, aappend, amake, abuildSlice, abuild, afill, aslice, abnd, Value.cells, if_true, if_false, ite_true, ite_false, eq_self, ne_eq, reduceCtorEq, ↓reduceIte, ↓reduceDIte, Nat.reduceEqDiff, Nat.reduceAdd, Nat.reduceSub, Nat.reduceMul, Nat.reduceLeDiff, Nat.reduceLT, Int.reduceEq, Int.reduceLT, Int.reduceLE, Int.reduceToNat, Int.reduceAdd, Int.reduceNeg, Int.reduceSub, Int.reduceMul, Int.reduceNe, Nat.reduceBEq, Int.reduceBEq, tysXMark_markTokenSL, ares, aresL, ares1, Try.results36, if_true]) <;> exact rfl)))
      exact ⟨rfl, hH⟩
end Go.Proofs.Ytpdpmcllpafjbaa

/- Tokens by the new walk: newlines, widths, ends of groups. -/
import Derived.Test.YtpdpmcllpafjbaaDr3
import Derived.Test.YtpdpmcllpafjbaaTy
namespace Go.Proofs.Ytpdpmcllpafjbaa
open Go.RowKit
set_option linter.unusedVariables false
set_option linter.unusedSimpArgs false

def Tok.cs (t : Tok) : List AV := [.i .i64 t.kind, .i .i64 t.n, .s t.text]
theorem Tok.c_take (t : Tok) : t.cs.take 3 = t.cs := rfl
theorem Tok.c_len (t : Tok) : t.cs.length = 3 := rfl
theorem Tok.c_all (t : Tok) : t.cs.all AV.one = true := rfl
theorem Tok.c_head (t : Tok) : t.cs.head? = some (.i .i64 t.kind) := rfl
theorem Tok.c_d1 (t : Tok) : (t.cs.drop 1).head? = some (.i .i64 t.n) := rfl
theorem Tok.c_d2 (t : Tok) : (t.cs.drop 2).head? = some (.s t.text) := rfl

def nlB (k : Int) : Bool := decide (2 ≤ k) && decide (k ≤ 4)

theorem tysXTokA_isNewlineI : type_of% (And.intro ty_tg1 (And.intro ty_tg2 (And.intro ty_sz2 (And.intro ty_in2 (And.intro ty_tg3 (And.intro ty_sz3 (And.intro ty_in3 (And.intro ty_tg4 (And.intro ty_sz4 (And.intro ty_in4 (And.intro ty_tg5 (And.intro ty_sz5 (And.intro ty_in5 (And.intro ty_tg9 (And.intro ty_sz9 (And.intro ty_in9 (And.intro ty_tg78 (And.intro ty_sz78 (And.intro ty_in78 (And.intro ty_pl78 (And.intro ty_fd78_0 (And.intro ty_fd78_1 (And.intro ty_fd78_2 (And.intro ty_tg180 (And.intro ty_sz180 (And.intro ty_in180 (And.intro Try.underlying1 (And.intro Try.underlying2 (And.intro Try.underlying3 (And.intro Try.underlying4 (And.intro Try.underlying5 (And.intro Try.underlying6 (And.intro Try.underlying7 (And.intro Try.underlying9 (And.intro Try.underlying16 (And.intro Try.underlying78 (Try.underlying180))))))))))))))))))))))))))))))))))))) := And.intro ty_tg1 (And.intro ty_tg2 (And.intro ty_sz2 (And.intro ty_in2 (And.intro ty_tg3 (And.intro ty_sz3 (And.intro ty_in3 (And.intro ty_tg4 (And.intro ty_sz4 (And.intro ty_in4 (And.intro ty_tg5 (And.intro ty_sz5 (And.intro ty_in5 (And.intro ty_tg9 (And.intro ty_sz9 (And.intro ty_in9 (And.intro ty_tg78 (And.intro ty_sz78 (And.intro ty_in78 (And.intro ty_pl78 (And.intro ty_fd78_0 (And.intro ty_fd78_1 (And.intro ty_fd78_2 (And.intro ty_tg180 (And.intro ty_sz180 (And.intro ty_in180 (And.intro Try.underlying1 (And.intro Try.underlying2 (And.intro Try.underlying3 (And.intro Try.underlying4 (And.intro Try.underlying5 (And.intro Try.underlying6 (And.intro Try.underlying7 (And.intro Try.underlying9 (And.intro Try.underlying16 (And.intro Try.underlying78 (Try.underlying180))))))))))))))))))))))))))))))))))))
set_option maxHeartbeats 1000000 in
theorem aI_isNewline (t : Tok) (H : Hp) : ACalls Try.prog 121 [.agg t.cs] H (fun r H' => r = .b (nlB t.kind) ∧ H' = H) := by
  refine ACalls.intro Try.func121 (by kernel_rfl) rfl (Nat.le_of_ble_eq_true rfl) fun n hn hc => ?_; have hS : ∀ k, H (n + k) = none := fun k => hn (n + k) (by omega); have hS0 : H n = none := hn n (Nat.le_refl _); have hN : ∀ k, nv H (n + k) = 0 := fun k => nv_none (hS k); (try (first | rw [ienv1] | rw [ienv2] | rw [ienv3] | rw [ienv4]))
  repeat (first
    | with_reducible refine VC.seq ?_
    | with_reducible refine VC.region ?_
    | with_reducible refine VC.opsNil ?_
    | with_reducible refine VC.block ?_
    | with_reducible refine VC.blk ?_
    | with_reducible refine VC.skip ?_
    | with_reducible refine VC.scope ?_
    | refine VC.exit rfl ?_
    | ((first | apply s_opS rfl | apply s_opN | apply s_gq rfl | apply s_iq); (focus ((simp only [vsA, vsB, aop, aev, absV, absS, upd_at, aload, rd, afieldAddr, afield, cur, abin, aarith, astr, aun, aindexAddr, aindex, aextract, alen, nv_upd, astore, anil, aconv, asrc, aappend, amake, abuildSlice, abuild, afill, aslice, abnd, Value.cells, if_true, if_false, ite_true, ite_false, eq_self, ne_eq, reduceCtorEq, ↓reduceIte, ↓reduceDIte, Nat.reduceEqDiff, Nat.reduceAdd, Nat.reduceSub, Nat.reduceMul, Nat.reduceLeDiff, Nat.reduceLT, Int.reduceEq, Int.reduceLT, Int.reduceLE, Int.reduceToNat, Int.reduceAdd, Int.reduceNeg, Int.reduceSub, Int.reduceMul, Int.reduceNe, Nat.reduceBEq, Int.reduceBEq, tysXTokA_isNewlineI, ayield, Option.bind_some, Option.bind_none, hS, hN, Tok.c_take, Tok.c_len, Tok.c_all, Tok.c_head, Tok.c_d1, Tok.c_d2]) <;> exact rfl)); (with_reducible (first | refine vc_id ?_ | refine gqT ?_ | refine gqF ?_ | refine gqF' ?_ | refine gqU ?_ | refine iqT ?_ | refine iqF ?_)))
    | fail)
  (apply s_gd rfl; focus ((simp only [vsB, aev, absV, absS, upd_at, if_true, if_false, ite_true, ite_false, eq_self, ne_eq, reduceCtorEq, ↓reduceIte, ↓reduceDIte, Nat.reduceEqDiff, Nat.reduceAdd, Nat.reduceSub, Nat.reduceMul, Nat.reduceLeDiff, Nat.reduceLT, Int.reduceEq, Int.reduceLT, Int.reduceLE, Int.reduceToNat, Int.reduceAdd, Int.reduceNeg, Int.reduceSub, Int.reduceMul, Int.reduceNe, Nat.reduceBEq, Int.reduceBEq, ayield, hS, hN, Tok.c_take, Tok.c_len, Tok.c_all, Tok.c_head, Tok.c_d1, Tok.c_d2]) <;> exact rfl))
  · intro h
    repeat (first
      | with_reducible refine VC.seq ?_
      | with_reducible refine VC.region ?_
      | with_reducible refine VC.opsNil ?_
      | with_reducible refine VC.block ?_
      | with_reducible refine VC.blk ?_
      | with_reducible refine VC.skip ?_
      | with_reducible refine VC.scope ?_
      | refine VC.exit rfl ?_
      | ((first | apply s_opS rfl | apply s_opN | apply s_gq rfl | apply s_iq); (focus ((simp only [vsA, vsB, aop, aev, absV, absS, upd_at, aload, rd, afieldAddr, afield, cur, abin, aarith, astr, aun, aindexAddr, aindex, aextract, alen, nv_upd, astore, anil, aconv, asrc, aappend, amake, abuildSlice, abuild, afill, aslice, abnd, Value.cells, if_true, if_false, ite_true, ite_false, eq_self, ne_eq, reduceCtorEq, ↓reduceIte, ↓reduceDIte, Nat.reduceEqDiff, Nat.reduceAdd, Nat.reduceSub, Nat.reduceMul, Nat.reduceLeDiff, Nat.reduceLT, Int.reduceEq, Int.reduceLT, Int.reduceLE, Int.reduceToNat, Int.reduceAdd, Int.reduceNeg, Int.reduceSub, Int.reduceMul, Int.reduceNe, Nat.reduceBEq, Int.reduceBEq, tysXTokA_isNewlineI, ayield, Option.bind_some, Option.bind_none, hS, hN, Tok.c_take, Tok.c_len, Tok.c_all, Tok.c_head, Tok.c_d1, Tok.c_d2, h]) <;> exact rfl)); (with_reducible (first | refine vc_id ?_ | refine gqT ?_ | refine gqF ?_ | refine gqF' ?_ | refine gqU ?_ | refine iqT ?_ | refine iqF ?_)))
      | fail)
    (first | apply VC.nil | apply VC.ret); (apply fin_flat (H0 := H); (focus ((simp only [vsA, vsB, aop, aev, absV, absS, upd_at, aload, rd, afieldAddr, afield, cur, abin, aarith, astr, aun, aindexAddr, aindex, aextract, alen, nv_upd, astore, anil, aconv, asrc, aappend, amake, abuildSlice, abuild, afill, aslice, abnd, Value.cells, if_true, if_false, ite_true, ite_false, eq_self, ne_eq, reduceCtorEq, ↓reduceIte, ↓reduceDIte, Nat.reduceEqDiff, Nat.reduceAdd, Nat.reduceSub, Nat.reduceMul, Nat.reduceLeDiff, Nat.reduceLT, Int.reduceEq, Int.reduceLT, Int.reduceLE, Int.reduceToNat, Int.reduceAdd, Int.reduceNeg, Int.reduceSub, Int.reduceMul, Int.reduceNe, Nat.reduceBEq, Int.reduceBEq, tysXTokA_isNewlineI, ares, aresL, ares1, Try.results121, if_true]) <;> exact rfl)); (focus rfl); (focus ((try simp only [cutN_upd, cutN_upd0]); exact cutN_self hn)); (focus (first | exact hc | ((repeat (apply CloH_upd)); exact hc))))
    exact ⟨by rw [nlB, h, Bool.true_and], rfl⟩
  · intro h
    have h' : decide (2 ≤ t.kind) = false := by simpa using h
    repeat (first
      | with_reducible refine VC.seq ?_
      | with_reducible refine VC.region ?_
      | with_reducible refine VC.opsNil ?_
      | with_reducible refine VC.block ?_
      | with_reducible refine VC.blk ?_
      | with_reducible refine VC.skip ?_
      | with_reducible refine VC.scope ?_
      | refine VC.exit rfl ?_
      | ((first | apply s_opS rfl | apply s_opN | apply s_gq rfl | apply s_iq); (focus ((simp only [vsA, vsB, aop, aev, absV, absS, upd_at, aload, rd, afieldAddr, afield, cur, abin, aarith, astr, aun, aindexAddr, aindex, aextract, alen, nv_upd, astore, anil, aconv, asrc, aappend, amake, abuildSlice, abuild, afill, aslice, abnd, Value.cells, if_true, if_false, ite_true, ite_false, eq_self, ne_eq, reduceCtorEq, ↓reduceIte, ↓reduceDIte, Nat.reduceEqDiff, Nat.reduceAdd, Nat.reduceSub, Nat.reduceMul, Nat.reduceLeDiff, Nat.reduceLT, Int.reduceEq, Int.reduceLT, Int.reduceLE, Int.reduceToNat, Int.reduceAdd, Int.reduceNeg, Int.reduceSub, Int.reduceMul, Int.reduceNe, Nat.reduceBEq, Int.reduceBEq, tysXTokA_isNewlineI, ayield, Option.bind_some, Option.bind_none, hS, hN, Tok.c_take, Tok.c_len, Tok.c_all, Tok.c_head, Tok.c_d1, Tok.c_d2, h']) <;> exact rfl)); (with_reducible (first | refine vc_id ?_ | refine gqT ?_ | refine gqF ?_ | refine gqF' ?_ | refine gqU ?_ | refine iqT ?_ | refine iqF ?_)))
      | fail)
    (first | apply VC.nil | apply VC.ret); (apply fin_flat (H0 := H); (focus ((simp only [vsA, vsB, aop, aev, absV, absS, upd_at, aload, rd, afieldAddr, afield, cur, abin, aarith, astr, aun, aindexAddr, aindex, aextract, alen, nv_upd, astore, anil, aconv, asrc, aappend, amake, abuildSlice, abuild, afill, aslice, abnd, Value.cells, if_true, if_false, ite_true, ite_false, eq_self, ne_eq, reduceCtorEq, ↓reduceIte, ↓reduceDIte, Nat.reduceEqDiff, Nat.reduceAdd, Nat.reduceSub, Nat.reduceMul, Nat.reduceLeDiff, Nat.reduceLT, Int.reduceEq, Int.reduceLT, Int.reduceLE, Int.reduceToNat, Int.reduceAdd, Int.reduceNeg, Int.reduceSub, Int.reduceMul, Int.reduceNe, Nat.reduceBEq, Int.reduceBEq, tysXTokA_isNewlineI, ares, aresL, ares1, Try.results121, if_true]) <;> exact rfl)); (focus rfl); (focus ((try simp only [cutN_upd, cutN_upd0]); exact cutN_self hn)); (focus (first | exact hc | ((repeat (apply CloH_upd)); exact hc))))
    exact ⟨by rw [nlB, h', Bool.false_and], rfl⟩

theorem tysXTokA_l6NewS : type_of% (And.intro ty_tg1 (And.intro ty_tg2 (And.intro ty_sz2 (And.intro ty_in2 (And.intro ty_tg3 (And.intro ty_sz3 (And.intro ty_in3 (And.intro ty_tg4 (And.intro ty_sz4 (And.intro ty_in4 (And.intro ty_tg5 (And.intro ty_sz5 (And.intro ty_in5 (And.intro ty_tg9 (And.intro ty_sz9 (And.intro ty_in9 (And.intro ty_tg120 (And.intro Try.underlying1 (And.intro Try.underlying2 (And.intro Try.underlying3 (And.intro Try.underlying4 (And.intro Try.underlying5 (And.intro Try.underlying6 (And.intro Try.underlying7 (And.intro Try.underlying9 (Try.underlying120)))))))))))))))))))))))))) := And.intro ty_tg1 (And.intro ty_tg2 (And.intro ty_sz2 (And.intro ty_in2 (And.intro ty_tg3 (And.intro ty_sz3 (And.intro ty_in3 (And.intro ty_tg4 (And.intro ty_sz4 (And.intro ty_in4 (And.intro ty_tg5 (And.intro ty_sz5 (And.intro ty_in5 (And.intro ty_tg9 (And.intro ty_sz9 (And.intro ty_in9 (And.intro ty_tg120 (And.intro Try.underlying1 (And.intro Try.underlying2 (And.intro Try.underlying3 (And.intro Try.underlying4 (And.intro Try.underlying5 (And.intro Try.underlying6 (And.intro Try.underlying7 (And.intro Try.underlying9 (Try.underlying120)))))))))))))))))))))))))
set_option maxHeartbeats 1000000 in
theorem aS_l6New (k : Int) (H : Hp) : ACalls Try.prog 119 [.i .i64 k] H (fun r H' => r = .b (nlB k) ∧ H' = H) := by
  refine ACalls.intro Try.func119 (by kernel_rfl) rfl (Nat.le_of_ble_eq_true rfl) fun n hn hc => ?_; have hS : ∀ k, H (n + k) = none := fun k => hn (n + k) (by omega); have hS0 : H n = none := hn n (Nat.le_refl _); have hN : ∀ k, nv H (n + k) = 0 := fun k => nv_none (hS k); (try (first | rw [ienv1] | rw [ienv2] | rw [ienv3] | rw [ienv4]))
  repeat (first
    | with_reducible refine VC.seq ?_
    | with_reducible refine VC.region ?_
    | with_reducible refine VC.opsNil ?_
    | with_reducible refine VC.block ?_
    | with_reducible refine VC.blk ?_
    | with_reducible refine VC.skip ?_
    | with_reducible refine VC.scope ?_
    | refine VC.exit rfl ?_
    | ((first | apply s_opS rfl | apply s_opN | apply s_gq rfl | apply s_iq); (focus ((simp only [vsA, vsB, aop, aev, absV, absS, upd_at, aload, rd, afieldAddr, afield, cur, abin, aarith, astr, aun, aindexAddr, aindex, aextract, alen, nv_upd, astore, anil, aconv, asrc, aappend, amake, abuildSlice, abuild, afill, aslice, abnd, Value.cells, if_true, if_false, ite_true, ite_false, eq_self, ne_eq, reduceCtorEq, ↓reduceIte, ↓reduceDIte, Nat.reduceEqDiff, Nat.reduceAdd, Nat.reduceSub, Nat.reduceMul, Nat.reduceLeDiff, Nat.reduceLT, Int.reduceEq, Int.reduceLT, Int.reduceLE, Int.reduceToNat, Int.reduceAdd, Int.reduceNeg, Int.reduceSub, Int.reduceMul, Int.reduceNe, Nat.reduceBEq, Int.reduceBEq, tysXTokA_l6NewS, ayield, Option.bind_some, Option.bind_none, hS, hN]) <;> exact rfl)); (with_reducible (first | refine vc_id ?_ | refine gqT ?_ | refine gqF ?_ | refine gqF' ?_ | refine gqU ?_ | refine iqT ?_ | refine iqF ?_)))
    | fail)
  (apply s_gd rfl; focus ((simp only [vsB, aev, absV, absS, upd_at, if_true, if_false, ite_true, ite_false, eq_self, ne_eq, reduceCtorEq, ↓reduceIte, ↓reduceDIte, Nat.reduceEqDiff, Nat.reduceAdd, Nat.reduceSub, Nat.reduceMul, Nat.reduceLeDiff, Nat.reduceLT, Int.reduceEq, Int.reduceLT, Int.reduceLE, Int.reduceToNat, Int.reduceAdd, Int.reduceNeg, Int.reduceSub, Int.reduceMul, Int.reduceNe, Nat.reduceBEq, Int.reduceBEq, ayield, hS, hN]) <;> exact rfl))
  · intro h
    repeat (first
      | with_reducible refine VC.seq ?_
      | with_reducible refine VC.region ?_
      | with_reducible refine VC.opsNil ?_
      | with_reducible refine VC.block ?_
      | with_reducible refine VC.blk ?_
      | with_reducible refine VC.skip ?_
      | with_reducible refine VC.scope ?_
      | refine VC.exit rfl ?_
      | ((first | apply s_opS rfl | apply s_opN | apply s_gq rfl | apply s_iq); (focus ((simp only [vsA, vsB, aop, aev, absV, absS, upd_at, aload, rd, afieldAddr, afield, cur, abin, aarith, astr, aun, aindexAddr, aindex, aextract, alen, nv_upd, astore, anil, aconv, asrc, aappend, amake, abuildSlice, abuild, afill, aslice, abnd, Value.cells, if_true, if_false, ite_true, ite_false, eq_self, ne_eq, reduceCtorEq, ↓reduceIte, ↓reduceDIte, Nat.reduceEqDiff, Nat.reduceAdd, Nat.reduceSub, Nat.reduceMul, Nat.reduceLeDiff, Nat.reduceLT, Int.reduceEq, Int.reduceLT, Int.reduceLE, Int.reduceToNat, Int.reduceAdd, Int.reduceNeg, Int.reduceSub, Int.reduceMul, Int.reduceNe, Nat.reduceBEq, Int.reduceBEq, tysXTokA_l6NewS, ayield, Option.bind_some, Option.bind_none, hS, hN, h]) <;> exact rfl)); (with_reducible (first | refine vc_id ?_ | refine gqT ?_ | refine gqF ?_ | refine gqF' ?_ | refine gqU ?_ | refine iqT ?_ | refine iqF ?_)))
      | fail)
    (first | apply VC.nil | apply VC.ret); (apply fin_flat (H0 := H); (focus ((simp only [vsA, vsB, aop, aev, absV, absS, upd_at, aload, rd, afieldAddr, afield, cur, abin, aarith, astr, aun, aindexAddr, aindex, aextract, alen, nv_upd, astore, anil, aconv, asrc, aappend, amake, abuildSlice, abuild, afill, aslice, abnd, Value.cells, if_true, if_false, ite_true, ite_false, eq_self, ne_eq, reduceCtorEq, ↓reduceIte, ↓reduceDIte, Nat.reduceEqDiff, Nat.reduceAdd, Nat.reduceSub, Nat.reduceMul, Nat.reduceLeDiff, Nat.reduceLT, Int.reduceEq, Int.reduceLT, Int.reduceLE, Int.reduceToNat, Int.reduceAdd, Int.reduceNeg, Int.reduceSub, Int.reduceMul, Int.reduceNe, Nat.reduceBEq, Int.reduceBEq, tysXTokA_l6NewS, ares, aresL, ares1, Try.results119, if_true]) <;> exact rfl)); (focus rfl); (focus ((try simp only [cutN_upd, cutN_upd0]); exact cutN_self hn)); (focus (first | exact hc | ((repeat (apply CloH_upd)); exact hc))))
    exact ⟨by rw [nlB, h, Bool.true_and], rfl⟩
  · intro h
    have h' : decide (2 ≤ k) = false := by simpa using h
    repeat (first
      | with_reducible refine VC.seq ?_
      | with_reducible refine VC.region ?_
      | with_reducible refine VC.opsNil ?_
      | with_reducible refine VC.block ?_
      | with_reducible refine VC.blk ?_
      | with_reducible refine VC.skip ?_
      | with_reducible refine VC.scope ?_
      | refine VC.exit rfl ?_
      | ((first | apply s_opS rfl | apply s_opN | apply s_gq rfl | apply s_iq); (focus ((simp only [vsA, vsB, aop, aev, absV, absS, upd_at, aload, rd, afieldAddr, afield, cur, abin, aarith, astr, aun, aindexAddr, aindex, aextract, alen, nv_upd, astore, anil, aconv, asrc, aappend, amake, abuildSlice, abuild, afill, aslice, abnd, Value.cells, if_true, if_false, ite_true, ite_false, eq_self, ne_eq, reduceCtorEq, ↓reduceIte, ↓reduceDIte, Nat.reduceEqDiff, Nat.reduceAdd, Nat.reduceSub, Nat.reduceMul, Nat.reduceLeDiff, Nat.reduceLT, Int.reduceEq, Int.reduceLT, Int.reduceLE, Int.reduceToNat, Int.reduceAdd, Int.reduceNeg, Int.reduceSub, Int.reduceMul, Int.reduceNe, Nat.reduceBEq, Int.reduceBEq, tysXTokA_l6NewS, ayield, Option.bind_some, Option.bind_none, hS, hN, h']) <;> exact rfl)); (with_reducible (first | refine vc_id ?_ | refine gqT ?_ | refine gqF ?_ | refine gqF' ?_ | refine gqU ?_ | refine iqT ?_ | refine iqF ?_)))
      | fail)
    (first | apply VC.nil | apply VC.ret); (apply fin_flat (H0 := H); (focus ((simp only [vsA, vsB, aop, aev, absV, absS, upd_at, aload, rd, afieldAddr, afield, cur, abin, aarith, astr, aun, aindexAddr, aindex, aextract, alen, nv_upd, astore, anil, aconv, asrc, aappend, amake, abuildSlice, abuild, afill, aslice, abnd, Value.cells, if_true, if_false, ite_true, ite_false, eq_self, ne_eq, reduceCtorEq, ↓reduceIte, ↓reduceDIte, Nat.reduceEqDiff, Nat.reduceAdd, Nat.reduceSub, Nat.reduceMul, Nat.reduceLeDiff, Nat.reduceLT, Int.reduceEq, Int.reduceLT, Int.reduceLE, Int.reduceToNat, Int.reduceAdd, Int.reduceNeg, Int.reduceSub, Int.reduceMul, Int.reduceNe, Nat.reduceBEq, Int.reduceBEq, tysXTokA_l6NewS, ares, aresL, ares1, Try.results119, if_true]) <;> exact rfl)); (focus rfl); (focus ((try simp only [cutN_upd, cutN_upd0]); exact cutN_self hn)); (focus (first | exact hc | ((repeat (apply CloH_upd)); exact hc))))
    exact ⟨by rw [nlB, h', Bool.false_and], rfl⟩

def flatN (t : Tok) : Int := if t.kind = 2 then 1 else t.text.size

theorem tysXTokA_l6FlatS : type_of% (And.intro ty_tg1 (And.intro ty_tg2 (And.intro ty_sz2 (And.intro ty_in2 (And.intro ty_tg3 (And.intro ty_sz3 (And.intro ty_in3 (And.intro ty_tg4 (And.intro ty_sz4 (And.intro ty_in4 (And.intro ty_tg5 (And.intro ty_sz5 (And.intro ty_in5 (And.intro ty_tg9 (And.intro ty_sz9 (And.intro ty_in9 (And.intro ty_tg78 (And.intro ty_sz78 (And.intro ty_in78 (And.intro ty_pl78 (And.intro ty_fd78_0 (And.intro ty_fd78_1 (And.intro ty_fd78_2 (And.intro ty_tg128 (And.intro Try.underlying1 (And.intro Try.underlying2 (And.intro Try.underlying3 (And.intro Try.underlying4 (And.intro Try.underlying5 (And.intro Try.underlying6 (And.intro Try.underlying7 (And.intro Try.underlying9 (And.intro Try.underlying78 (Try.underlying128)))))))))))))))))))))))))))))))))) := And.intro ty_tg1 (And.intro ty_tg2 (And.intro ty_sz2 (And.intro ty_in2 (And.intro ty_tg3 (And.intro ty_sz3 (And.intro ty_in3 (And.intro ty_tg4 (And.intro ty_sz4 (And.intro ty_in4 (And.intro ty_tg5 (And.intro ty_sz5 (And.intro ty_in5 (And.intro ty_tg9 (And.intro ty_sz9 (And.intro ty_in9 (And.intro ty_tg78 (And.intro ty_sz78 (And.intro ty_in78 (And.intro ty_pl78 (And.intro ty_fd78_0 (And.intro ty_fd78_1 (And.intro ty_fd78_2 (And.intro ty_tg128 (And.intro Try.underlying1 (And.intro Try.underlying2 (And.intro Try.underlying3 (And.intro Try.underlying4 (And.intro Try.underlying5 (And.intro Try.underlying6 (And.intro Try.underlying7 (And.intro Try.underlying9 (And.intro Try.underlying78 (Try.underlying128)))))))))))))))))))))))))))))))))
set_option maxHeartbeats 1000000 in
theorem aS_l6Flat (t : Tok) (H : Hp) : ACalls Try.prog 87 [.agg t.cs] H (fun r H' => r = .i .i64 (flatN t) ∧ H' = H) := by
  refine ACalls.intro Try.func87 (by kernel_rfl) rfl (Nat.le_of_ble_eq_true rfl) fun n hn hc => ?_; have hS : ∀ k, H (n + k) = none := fun k => hn (n + k) (by omega); have hS0 : H n = none := hn n (Nat.le_refl _); have hN : ∀ k, nv H (n + k) = 0 := fun k => nv_none (hS k); (try (first | rw [ienv1] | rw [ienv2] | rw [ienv3] | rw [ienv4]))
  repeat (first
    | with_reducible refine VC.seq ?_
    | with_reducible refine VC.region ?_
    | with_reducible refine VC.opsNil ?_
    | with_reducible refine VC.block ?_
    | with_reducible refine VC.blk ?_
    | with_reducible refine VC.skip ?_
    | with_reducible refine VC.scope ?_
    | refine VC.exit rfl ?_
    | ((first | apply s_opS rfl | apply s_opN | apply s_gq rfl | apply s_iq); (focus ((simp only [vsA, vsB, aop, aev, absV, absS, upd_at, aload, rd, afieldAddr, afield, cur, abin, aarith, astr, aun, aindexAddr, aindex, aextract, alen, nv_upd, astore, anil, aconv, asrc, aappend, amake, abuildSlice, abuild, afill, aslice, abnd, Value.cells, if_true, if_false, ite_true, ite_false, eq_self, ne_eq, reduceCtorEq, ↓reduceIte, ↓reduceDIte, Nat.reduceEqDiff, Nat.reduceAdd, Nat.reduceSub, Nat.reduceMul, Nat.reduceLeDiff, Nat.reduceLT, Int.reduceEq, Int.reduceLT, Int.reduceLE, Int.reduceToNat, Int.reduceAdd, Int.reduceNeg, Int.reduceSub, Int.reduceMul, Int.reduceNe, Nat.reduceBEq, Int.reduceBEq, tysXTokA_l6FlatS, ayield, Option.bind_some, Option.bind_none, hS, hN, Tok.c_take, Tok.c_len, Tok.c_all, Tok.c_head, Tok.c_d1, Tok.c_d2]) <;> exact rfl)); (with_reducible (first | refine vc_id ?_ | refine gqT ?_ | refine gqF ?_ | refine gqF' ?_ | refine gqU ?_ | refine iqT ?_ | refine iqF ?_)))
    | fail)
  (apply s_if; focus ((simp only [vsB, aev, absV, absS, upd_at, if_true, if_false, ite_true, ite_false, eq_self, ne_eq, reduceCtorEq, ↓reduceIte, ↓reduceDIte, Nat.reduceEqDiff, Nat.reduceAdd, Nat.reduceSub, Nat.reduceMul, Nat.reduceLeDiff, Nat.reduceLT, Int.reduceEq, Int.reduceLT, Int.reduceLE, Int.reduceToNat, Int.reduceAdd, Int.reduceNeg, Int.reduceSub, Int.reduceMul, Int.reduceNe, Nat.reduceBEq, Int.reduceBEq, hS, hN, Tok.c_take, Tok.c_len, Tok.c_all, Tok.c_head, Tok.c_d1, Tok.c_d2]) <;> exact rfl))
  · intro h
    repeat (first
      | with_reducible refine VC.seq ?_
      | with_reducible refine VC.region ?_
      | with_reducible refine VC.opsNil ?_
      | with_reducible refine VC.block ?_
      | with_reducible refine VC.blk ?_
      | with_reducible refine VC.skip ?_
      | with_reducible refine VC.scope ?_
      | refine VC.exit rfl ?_
      | ((first | apply s_opS rfl | apply s_opN | apply s_gq rfl | apply s_iq); (focus ((simp only [vsA, vsB, aop, aev, absV, absS, upd_at, aload, rd, afieldAddr, afield, cur, abin, aarith, astr, aun, aindexAddr, aindex, aextract, alen, nv_upd, astore, anil, aconv, asrc, aappend, amake, abuildSlice, abuild, afill, aslice, abnd, Value.cells, if_true, if_false, ite_true, ite_false, eq_self, ne_eq, reduceCtorEq, ↓reduceIte, ↓reduceDIte, Nat.reduceEqDiff, Nat.reduceAdd, Nat.reduceSub, Nat.reduceMul, Nat.reduceLeDiff, Nat.reduceLT, Int.reduceEq, Int.reduceLT, Int.reduceLE, Int.reduceToNat, Int.reduceAdd, Int.reduceNeg, Int.reduceSub, Int.reduceMul, Int.reduceNe, Nat.reduceBEq, Int.reduceBEq, tysXTokA_l6FlatS, ayield, Option.bind_some, Option.bind_none, hS, hN, Tok.c_take, Tok.c_len, Tok.c_all, Tok.c_head, Tok.c_d1, Tok.c_d2]) <;> exact rfl)); (with_reducible (first | refine vc_id ?_ | refine gqT ?_ | refine gqF ?_ | refine gqF' ?_ | refine gqU ?_ | refine iqT ?_ | refine iqF ?_)))
      | fail)
    (first | apply VC.nil | apply VC.ret); (apply fin_flat (H0 := H); (focus ((simp only [vsA, vsB, aop, aev, absV, absS, upd_at, aload, rd, afieldAddr, afield, cur, abin, aarith, astr, aun, aindexAddr, aindex, aextract, alen, nv_upd, astore, anil, aconv, asrc, aappend, amake, abuildSlice, abuild, afill, aslice, abnd, Value.cells, if_true, if_false, ite_true, ite_false, eq_self, ne_eq, reduceCtorEq, ↓reduceIte, ↓reduceDIte, Nat.reduceEqDiff, Nat.reduceAdd, Nat.reduceSub, Nat.reduceMul, Nat.reduceLeDiff, Nat.reduceLT, Int.reduceEq, Int.reduceLT, Int.reduceLE, Int.reduceToNat, Int.reduceAdd, Int.reduceNeg, Int.reduceSub, Int.reduceMul, Int.reduceNe, Nat.reduceBEq, Int.reduceBEq, tysXTokA_l6FlatS, ares, aresL, ares1, Try.results87, if_true]) <;> exact rfl)); (focus rfl); (focus ((try simp only [cutN_upd, cutN_upd0]); exact cutN_self hn)); (focus (first | exact hc | ((repeat (apply CloH_upd)); exact hc))))
    exact ⟨by rw [flatN, if_pos h], rfl⟩
  · intro h
    repeat (first
      | with_reducible refine VC.seq ?_
      | with_reducible refine VC.region ?_
      | with_reducible refine VC.opsNil ?_
      | with_reducible refine VC.block ?_
      | with_reducible refine VC.blk ?_
      | with_reducible refine VC.skip ?_
      | with_reducible refine VC.scope ?_
      | refine VC.exit rfl ?_
      | ((first | apply s_opS rfl | apply s_opN | apply s_gq rfl | apply s_iq); (focus ((simp only [vsA, vsB, aop, aev, absV, absS, upd_at, aload, rd, afieldAddr, afield, cur, abin, aarith, astr, aun, aindexAddr, aindex, aextract, alen, nv_upd, astore, anil, aconv, asrc, aappend, amake, abuildSlice, abuild, afill, aslice, abnd, Value.cells, if_true, if_false, ite_true, ite_false, eq_self, ne_eq, reduceCtorEq, ↓reduceIte, ↓reduceDIte, Nat.reduceEqDiff, Nat.reduceAdd, Nat.reduceSub, Nat.reduceMul, Nat.reduceLeDiff, Nat.reduceLT, Int.reduceEq, Int.reduceLT, Int.reduceLE, Int.reduceToNat, Int.reduceAdd, Int.reduceNeg, Int.reduceSub, Int.reduceMul, Int.reduceNe, Nat.reduceBEq, Int.reduceBEq, tysXTokA_l6FlatS, ayield, Option.bind_some, Option.bind_none, hS, hN, Tok.c_take, Tok.c_len, Tok.c_all, Tok.c_head, Tok.c_d1, Tok.c_d2]) <;> exact rfl)); (with_reducible (first | refine vc_id ?_ | refine gqT ?_ | refine gqF ?_ | refine gqF' ?_ | refine gqU ?_ | refine iqT ?_ | refine iqF ?_)))
      | fail)
    (first | apply VC.nil | apply VC.ret); (apply fin_flat (H0 := H); (focus ((simp only [vsA, vsB, aop, aev, absV, absS, upd_at, aload, rd, afieldAddr, afield, cur, abin, aarith, astr, aun, aindexAddr, aindex, aextract, alen, nv_upd, astore, anil, aconv, asrc, aappend, amake, abuildSlice, abuild, afill, aslice, abnd, Value.cells, if_true, if_false, ite_true, ite_false, eq_self, ne_eq, reduceCtorEq, ↓reduceIte, ↓reduceDIte, Nat.reduceEqDiff, Nat.reduceAdd, Nat.reduceSub, Nat.reduceMul, Nat.reduceLeDiff, Nat.reduceLT, Int.reduceEq, Int.reduceLT, Int.reduceLE, Int.reduceToNat, Int.reduceAdd, Int.reduceNeg, Int.reduceSub, Int.reduceMul, Int.reduceNe, Nat.reduceBEq, Int.reduceBEq, tysXTokA_l6FlatS, ares, aresL, ares1, Try.results87, if_true]) <;> exact rfl)); (focus rfl); (focus ((try simp only [cutN_upd, cutN_upd0]); exact cutN_self hn)); (focus (first | exact hc | ((repeat (apply CloH_upd)); exact hc))))
    exact ⟨by rw [flatN, if_neg h], rfl⟩

/-- How a token changes what is open. -/
def opn (t : Tok) (o : Int) : Int := if t.kind = 5 ∨ t.kind = 7 then o + 1 else if t.kind = 6 ∨ t.kind = 8 then o - 1 else o
/-- Where what a token opens is closed. -/
def endF : List Tok → Int → Nat → Option Nat
  | [], _, _ => none
  | t :: ts, o, i => if opn t o = 0 then some i else endF ts (opn t o) (i + 1)
def closF : List Tok → Int → Nat → Nat
  | [], _, i => i
  | t :: ts, o, i => if t.kind = 5 then closF ts (o + 1) (i + 1) else if t.kind = 6 then (if o - 1 = 0 then i else closF ts (o - 1) (i + 1)) else closF ts o (i + 1)

theorem endF_lt : ∀ (ts : List Tok) (o : Int) (i e : Nat), endF ts o i = some e → i ≤ e ∧ e < i + ts.length := by
  intro ts
  induction ts with
  | nil => intro o i e h; cases h
  | cons t ts ih =>
    intro o i e h
    rw [endF] at h
    split at h
    · cases h; simp
    · have := ih _ _ _ h; simp; omega
theorem closF_le : ∀ (ts : List Tok) (o : Int) (i : Nat), i ≤ closF ts o i ∧ closF ts o i ≤ i + ts.length := by
  intro ts
  induction ts with
  | nil => intro o i; simp [closF]
  | cons t ts ih =>
    intro o i
    rw [closF]
    simp only [List.length_cons]
    split
    · have := ih (o + 1) (i + 1); omega
    · split
      · split
        · omega
        · have := ih (o - 1) (i + 1); omega
      · have := ih o (i + 1); omega
theorem drop_at {α : Type} (xs : List α) (k : Nat) (h : k < xs.length) : xs.drop k = xs[k] :: xs.drop (k + 1) := List.drop_eq_getElem_cons h

theorem tysXTokA_endOfI : type_of% (And.intro ty_tg1 (And.intro ty_tg2 (And.intro ty_sz2 (And.intro ty_in2 (And.intro ty_tg3 (And.intro ty_sz3 (And.intro ty_in3 (And.intro ty_tg4 (And.intro ty_sz4 (And.intro ty_in4 (And.intro ty_tg5 (And.intro ty_sz5 (And.intro ty_in5 (And.intro ty_tg9 (And.intro ty_sz9 (And.intro ty_in9 (And.intro ty_tg18 (And.intro ty_sz18 (And.intro ty_in18 (And.intro ty_pl18 (And.intro ty_fd18_0 (And.intro ty_tg21 (And.intro ty_sz21 (And.intro ty_in21 (And.intro ty_tg22 (And.intro ty_sz22 (And.intro ty_in22 (And.intro ty_pl22 (And.intro ty_fd22_0 (And.intro ty_fd22_1 (And.intro ty_tg23 (And.intro ty_sz23 (And.intro ty_in23 (And.intro ty_pl23 (And.intro ty_fd23_0 (And.intro ty_fd23_1 (And.intro ty_tg24 (And.intro ty_tg25 (And.intro ty_sz25 (And.intro ty_in25 (And.intro ty_pl25 (And.intro ty_fd25_0 (And.intro ty_fd25_1 (And.intro ty_tg26 (And.intro ty_tg27 (And.intro ty_tg28 (And.intro ty_sz28 (And.intro ty_in28 (And.intro ty_tg35 (And.intro ty_sz35 (And.intro ty_in35 (And.intro ty_tg78 (And.intro ty_sz78 (And.intro ty_in78 (And.intro ty_pl78 (And.intro ty_fd78_0 (And.intro ty_fd78_1 (And.intro ty_fd78_2 (And.intro ty_tg138 (And.intro ty_sz138 (And.intro ty_in138 (And.intro ty_pl138 (And.intro ty_fd138_0 (And.intro ty_fd138_1 (And.intro Try.underlying1 (And.intro Try.underlying2 (And.intro Try.underlying3 (And.intro Try.underlying4 (And.intro Try.underlying5 (And.intro Try.underlying6 (And.intro Try.underlying7 (And.intro Try.underlying9 (And.intro Try.underlying12 (And.intro Try.underlying13 (And.intro Try.underlying15 (And.intro Try.underlying16 (And.intro Try.underlying17 (And.intro Try.underlying18 (And.intro Try.underlying19 (And.intro Try.underlying21 (And.intro Try.underlying22 (And.intro Try.underlying23 (And.intro Try.underlying24 (And.intro Try.underlying25 (And.intro Try.underlying26 (And.intro Try.underlying27 (And.intro Try.underlying28 (And.intro Try.underlying35 (And.intro Try.underlying78 (Try.underlying138)))))))))))))))))))))))))))))))))))))))))))))))))))))))))))))))))))))))))))))))))))))))))) := And.intro ty_tg1 (And.intro ty_tg2 (And.intro ty_sz2 (And.intro ty_in2 (And.intro ty_tg3 (And.intro ty_sz3 (And.intro ty_in3 (And.intro ty_tg4 (And.intro ty_sz4 (And.intro ty_in4 (And.intro ty_tg5 (And.intro ty_sz5 (And.intro ty_in5 (And.intro ty_tg9 (And.intro ty_sz9 (And.intro ty_in9 (And.intro ty_tg18 (And.intro ty_sz18 (And.intro ty_in18 (And.intro ty_pl18 (And.intro ty_fd18_0 (And.intro ty_tg21 (And.intro ty_sz21 (And.intro ty_in21 (And.intro ty_tg22 (And.intro ty_sz22 (And.intro ty_in22 (And.intro ty_pl22 (And.intro ty_fd22_0 (And.intro ty_fd22_1 (And.intro ty_tg23 (And.intro ty_sz23 (And.intro ty_in23 (And.intro ty_pl23 (And.intro ty_fd23_0 (And.intro ty_fd23_1 (And.intro ty_tg24 (And.intro ty_tg25 (And.intro ty_sz25 (And.intro ty_in25 (And.intro ty_pl25 (And.intro ty_fd25_0 (And.intro ty_fd25_1 (And.intro ty_tg26 (And.intro ty_tg27 (And.intro ty_tg28 (And.intro ty_sz28 (And.intro ty_in28 (And.intro ty_tg35 (And.intro ty_sz35 (And.intro ty_in35 (And.intro ty_tg78 (And.intro ty_sz78 (And.intro ty_in78 (And.intro ty_pl78 (And.intro ty_fd78_0 (And.intro ty_fd78_1 (And.intro ty_fd78_2 (And.intro ty_tg138 (And.intro ty_sz138 (And.intro ty_in138 (And.intro ty_pl138 (And.intro ty_fd138_0 (And.intro ty_fd138_1 (And.intro Try.underlying1 (And.intro Try.underlying2 (And.intro Try.underlying3 (And.intro Try.underlying4 (And.intro Try.underlying5 (And.intro Try.underlying6 (And.intro Try.underlying7 (And.intro Try.underlying9 (And.intro Try.underlying12 (And.intro Try.underlying13 (And.intro Try.underlying15 (And.intro Try.underlying16 (And.intro Try.underlying17 (And.intro Try.underlying18 (And.intro Try.underlying19 (And.intro Try.underlying21 (And.intro Try.underlying22 (And.intro Try.underlying23 (And.intro Try.underlying24 (And.intro Try.underlying25 (And.intro Try.underlying26 (And.intro Try.underlying27 (And.intro Try.underlying28 (And.intro Try.underlying35 (And.intro Try.underlying78 (Try.underlying138)))))))))))))))))))))))))))))))))))))))))))))))))))))))))))))))))))))))))))))))))))))))))
set_option maxHeartbeats 4000000 in
theorem aI_endOf (xs : List Tok) (hb : xs.length ≤ 1000) (at_ e : Nat) (he : endF (xs.drop at_) 0 at_ = some e) (H : Hp) :
    ACalls Try.prog 120 [.is 3 (xs.map Tok.cs), .i .i64 at_] H (fun r H' => r = .i .i64 e ∧ H' = H) := by
  refine ACalls.intro Try.func120 (by kernel_rfl) rfl (Nat.le_of_ble_eq_true rfl) fun n hn hc => ?_; have hS : ∀ k, H (n + k) = none := fun k => hn (n + k) (by omega); have hS0 : H n = none := hn n (Nat.le_refl _); have hN : ∀ k, nv H (n + k) = 0 := fun k => nv_none (hS k); (try (first | rw [ienv1] | rw [ienv2] | rw [ienv3] | rw [ienv4]))
  repeat (first
    | with_reducible refine VC.seq ?_
    | with_reducible refine VC.region ?_
    | with_reducible refine VC.opsNil ?_
    | with_reducible refine VC.block ?_
    | with_reducible refine VC.blk ?_
    | with_reducible refine VC.skip ?_
    | with_reducible refine VC.scope ?_
    | refine VC.exit rfl ?_
    | ((first | apply s_opS rfl | apply s_opN | apply s_gq rfl | apply s_iq); (focus ((simp only [vsA, vsB, aop, aev, absV, absS, upd_at, aload, rd, afieldAddr, afield, cur, abin, aarith, astr, aun, aindexAddr, aindex, aextract, alen, nv_upd, astore, anil, aconv, asrc, aappend, amake, abuildSlice, abuild, afill, aslice, abnd, Value.cells, if_true, if_false, ite_true, ite_false, eq_self, ne_eq, reduceCtorEq, ↓reduceIte, ↓reduceDIte, Nat.reduceEqDiff, Nat.reduceAdd, Nat.reduceSub, Nat.reduceMul, Nat.reduceLeDiff, Nat.reduceLT, Int.reduceEq, Int.reduceLT, Int.reduceLE, Int.reduceToNat, Int.reduceAdd, Int.reduceNeg, Int.reduceSub, Int.reduceMul, Int.reduceNe, Nat.reduceBEq, Int.reduceBEq, tysXTokA_endOfI, ayield, Option.bind_some, Option.bind_none, hS, hN]) <;> exact rfl)); (with_reducible (first | refine vc_id ?_ | refine gqT ?_ | refine gqF ?_ | refine gqF' ?_ | refine gqU ?_ | refine iqT ?_ | refine iqF ?_)))
    | fail)
  refine VC.loop (fun ta H' => ∃ (k : Nat) (o : Int), k < xs.length ∧ -(k : Int) ≤ o ∧ o ≤ k ∧ endF (xs.drop k) o k = some e ∧ ta 0 = .is 3 (xs.map Tok.cs) ∧ ta 5 = .i .i64 o ∧ ta 6 = .i .i64 k ∧ H' = H)
    (fun ta _ => xs.length - (aint (ta 6)).toNat) ?_ ?_
  · have hlt := endF_lt _ _ _ _ he
    rw [List.length_drop] at hlt
    refine ⟨at_, 0, by omega, by omega, by omega, he, ?_⟩
    (repeat' apply And.intro) <;> (first | rfl | assumption | omega | (simp only [upd_at, Nat.reduceEqDiff, if_true, if_false, and_self, ↓reduceIte, and_true, true_and, Nat.add_left_cancel_iff, Nat.add_eq_left, aint, if_true]; done) | ((simp only [upd_at, Nat.reduceEqDiff, if_true, if_false, and_self, ↓reduceIte, and_true, true_and, Nat.add_left_cancel_iff, Nat.add_eq_left, aint, if_true]) <;> (first | rfl | assumption | omega)) | (focus (repeat (first | exact Low.refl _ _ | assumption | apply low_upd | apply low_upd0)); done))
  · rintro ta H1 ⟨k, o, hk, ho0, ho1, hE, t0, t5, t6, hH⟩
    obtain rfl := hH.symm
    have hkid := List.getElem?_eq_getElem hk
    have hw2 := wrapN (k := k) (by omega)
    have hwp : IntKind.i64.wrap (o + 1) = o + 1 := wrap_in (by omega) (by omega)
    have hwm : IntKind.i64.wrap (o - 1) = o - 1 := wrap_in (by omega) (by omega)
    rw [drop_at xs k hk, endF] at hE
    have hm : xs.length - (k + 1) < xs.length - k := by omega
    have kinds : xs[k].kind = 5 ∨ xs[k].kind = 7 ∨ xs[k].kind = 6 ∨ xs[k].kind = 8 ∨ (decide (xs[k].kind = 5) = false ∧ decide (xs[k].kind = 7) = false ∧ decide (xs[k].kind = 6) = false ∧ decide (xs[k].kind = 8) = false) := by
      simp only [decide_eq_false_iff_not]; omega
    have next : ∀ o', opn xs[k] o = o' → o' ≠ 0 → -((k + 1 : Nat) : Int) ≤ o' → o' ≤ (k + 1 : Nat) → k + 1 < xs.length ∧ endF (xs.drop (k + 1)) o' (k + 1) = some e := fun o' h1 h2 _ _ => by
      rw [h1, if_neg h2] at hE
      have := endF_lt _ _ _ _ hE
      rw [List.length_drop] at this
      exact ⟨by omega, hE⟩
    have last : opn xs[k] o = 0 → k = e := fun h1 => by rw [if_pos h1] at hE; cases hE; rfl
    rcases kinds with h | h | h | h | ⟨h1, h2, h3, h4⟩
    · have ho : opn xs[k] o = o + 1 := by rw [opn, if_pos (.inl h)]
      repeat (first
        | with_reducible refine VC.seq ?_
        | with_reducible refine VC.region ?_
        | with_reducible refine VC.opsNil ?_
        | with_reducible refine VC.block ?_
        | with_reducible refine VC.blk ?_
        | with_reducible refine VC.skip ?_
        | with_reducible refine VC.scope ?_
        | refine VC.exit rfl ?_
        | ((first | apply s_opS rfl | apply s_opN | apply s_gq rfl | apply s_iq); (focus ((simp only [vsA, vsB, aop, aev, absV, absS, upd_at, aload, rd, afieldAddr, afield, cur, abin, aarith, astr, aun, aindexAddr, aindex, aextract, alen, nv_upd, astore, anil, aconv, asrc, aappend, amake, abuildSlice, abuild, afill, aslice, abnd, Value.cells, if_true, if_false, ite_true, ite_false, eq_self, ne_eq, reduceCtorEq, ↓reduceIte, ↓reduceDIte, Nat.reduceEqDiff, Nat.reduceAdd, Nat.reduceSub, Nat.reduceMul, Nat.reduceLeDiff, Nat.reduceLT, Int.reduceEq, Int.reduceLT, Int.reduceLE, Int.reduceToNat, Int.reduceAdd, Int.reduceNeg, Int.reduceSub, Int.reduceMul, Int.reduceNe, Nat.reduceBEq, Int.reduceBEq, tysXTokA_endOfI, ayield, Option.bind_some, Option.bind_none, t0, t5, t6, hkid, h, hwp, hw2, Tok.c_take, Tok.c_len, Tok.c_all, Tok.c_head, Tok.c_d1, Tok.c_d2]) <;> exact rfl)); (with_reducible (first | refine vc_id ?_ | refine gqT ?_ | refine gqF ?_ | refine gqF' ?_ | refine gqU ?_ | refine iqT ?_ | refine iqF ?_)))
        | fail)
      (apply s_if; focus ((simp only [vsB, aev, absV, absS, upd_at, if_true, if_false, ite_true, ite_false, eq_self, ne_eq, reduceCtorEq, ↓reduceIte, ↓reduceDIte, Nat.reduceEqDiff, Nat.reduceAdd, Nat.reduceSub, Nat.reduceMul, Nat.reduceLeDiff, Nat.reduceLT, Int.reduceEq, Int.reduceLT, Int.reduceLE, Int.reduceToNat, Int.reduceAdd, Int.reduceNeg, Int.reduceSub, Int.reduceMul, Int.reduceNe, Nat.reduceBEq, Int.reduceBEq, t0, t5, t6]) <;> exact rfl))
      · intro h0
        repeat (first
          | with_reducible refine VC.seq ?_
          | with_reducible refine VC.region ?_
          | with_reducible refine VC.opsNil ?_
          | with_reducible refine VC.block ?_
          | with_reducible refine VC.blk ?_
          | with_reducible refine VC.skip ?_
          | with_reducible refine VC.scope ?_
          | refine VC.exit rfl ?_
          | ((first | apply s_opS rfl | apply s_opN | apply s_gq rfl | apply s_iq); (focus ((simp only [vsA, vsB, aop, aev, absV, absS, upd_at, aload, rd, afieldAddr, afield, cur, abin, aarith, astr, aun, aindexAddr, aindex, aextract, alen, nv_upd, astore, anil, aconv, asrc, aappend, amake, abuildSlice, abuild, afill, aslice, abnd, Value.cells, if_true, if_false, ite_true, ite_false, eq_self, ne_eq, reduceCtorEq, ↓reduceIte, ↓reduceDIte, Nat.reduceEqDiff, Nat.reduceAdd, Nat.reduceSub, Nat.reduceMul, Nat.reduceLeDiff, Nat.reduceLT, Int.reduceEq, Int.reduceLT, Int.reduceLE, Int.reduceToNat, Int.reduceAdd, Int.reduceNeg, Int.reduceSub, Int.reduceMul, Int.reduceNe, Nat.reduceBEq, Int.reduceBEq, tysXTokA_endOfI, ayield, Option.bind_some, Option.bind_none, t0, t5, t6, hkid, h, hwp, hw2, Tok.c_take, Tok.c_len, Tok.c_all, Tok.c_head, Tok.c_d1, Tok.c_d2]) <;> exact rfl)); (with_reducible (first | refine vc_id ?_ | refine gqT ?_ | refine gqF ?_ | refine gqF' ?_ | refine gqU ?_ | refine iqT ?_ | refine iqF ?_)))
          | fail)
        (first | apply VC.nil | apply VC.ret); (apply fin_flat (H0 := H); (focus ((simp only [vsA, vsB, aop, aev, absV, absS, upd_at, aload, rd, afieldAddr, afield, cur, abin, aarith, astr, aun, aindexAddr, aindex, aextract, alen, nv_upd, astore, anil, aconv, asrc, aappend, amake, abuildSlice, abuild, afill, aslice, abnd, Value.cells, if_true, if_false, ite_true, ite_false, eq_self, ne_eq, reduceCtorEq, ↓reduceIte, ↓reduceDIte, Nat.reduceEqDiff, Nat.reduceAdd, Nat.reduceSub, Nat.reduceMul, Nat.reduceLeDiff, Nat.reduceLT, Int.reduceEq, Int.reduceLT, Int.reduceLE, Int.reduceToNat, Int.reduceAdd, Int.reduceNeg, Int.reduceSub, Int.reduceMul, Int.reduceNe, Nat.reduceBEq, Int.reduceBEq, tysXTokA_endOfI, ares, aresL, ares1, Try.results120, t6]) <;> exact rfl)); (focus rfl); (focus ((try simp only [cutN_upd, cutN_upd0]); exact cutN_self hn)); (focus (first | exact hc | ((repeat (apply CloH_upd)); exact hc))))
        exact ⟨by rw [last (by omega)], rfl⟩
      · intro h0
        repeat (first
          | with_reducible refine VC.seq ?_
          | with_reducible refine VC.region ?_
          | with_reducible refine VC.opsNil ?_
          | with_reducible refine VC.block ?_
          | with_reducible refine VC.blk ?_
          | with_reducible refine VC.skip ?_
          | with_reducible refine VC.scope ?_
          | refine VC.exit rfl ?_
          | ((first | apply s_opS rfl | apply s_opN | apply s_gq rfl | apply s_iq); (focus ((simp only [vsA, vsB, aop, aev, absV, absS, upd_at, aload, rd, afieldAddr, afield, cur, abin, aarith, astr, aun, aindexAddr, aindex, aextract, alen, nv_upd, astore, anil, aconv, asrc, aappend, amake, abuildSlice, abuild, afill, aslice, abnd, Value.cells, if_true, if_false, ite_true, ite_false, eq_self, ne_eq, reduceCtorEq, ↓reduceIte, ↓reduceDIte, Nat.reduceEqDiff, Nat.reduceAdd, Nat.reduceSub, Nat.reduceMul, Nat.reduceLeDiff, Nat.reduceLT, Int.reduceEq, Int.reduceLT, Int.reduceLE, Int.reduceToNat, Int.reduceAdd, Int.reduceNeg, Int.reduceSub, Int.reduceMul, Int.reduceNe, Nat.reduceBEq, Int.reduceBEq, tysXTokA_endOfI, ayield, Option.bind_some, Option.bind_none, t0, t5, t6, hkid, h, hwp, hw2, Tok.c_take, Tok.c_len, Tok.c_all, Tok.c_head, Tok.c_d1, Tok.c_d2]) <;> exact rfl)); (with_reducible (first | refine vc_id ?_ | refine gqT ?_ | refine gqF ?_ | refine gqF' ?_ | refine gqU ?_ | refine iqT ?_ | refine iqF ?_)))
          | fail)
        obtain ⟨q1, q2⟩ := next _ ho h0 (by omega) (by omega)
        refine VC.back ?_
        refine ⟨⟨k + 1, _, q1, ?_, ?_, q2, ?_⟩, ?_⟩
        · omega
        · omega
        · (repeat' apply And.intro) <;> (first | rfl | assumption | omega | (simp only [upd_at, Nat.reduceEqDiff, if_true, if_false, and_self, ↓reduceIte, and_true, true_and, Nat.add_left_cancel_iff, Nat.add_eq_left, aint, t0]; done) | ((simp only [upd_at, Nat.reduceEqDiff, if_true, if_false, and_self, ↓reduceIte, and_true, true_and, Nat.add_left_cancel_iff, Nat.add_eq_left, aint, t0]) <;> (first | rfl | assumption | omega)) | (focus (repeat (first | exact Low.refl _ _ | assumption | apply low_upd | apply low_upd0)); done))
        · (repeat' apply And.intro) <;> (first | rfl | assumption | omega | (simp only [upd_at, Nat.reduceEqDiff, if_true, if_false, and_self, ↓reduceIte, and_true, true_and, Nat.add_left_cancel_iff, Nat.add_eq_left, aint, t6, Int.toNat_natCast]; done) | ((simp only [upd_at, Nat.reduceEqDiff, if_true, if_false, and_self, ↓reduceIte, and_true, true_and, Nat.add_left_cancel_iff, Nat.add_eq_left, aint, t6, Int.toNat_natCast]) <;> (first | rfl | assumption | omega)) | (focus (repeat (first | exact Low.refl _ _ | assumption | apply low_upd | apply low_upd0)); done))
    · have ho : opn xs[k] o = o + 1 := by rw [opn, if_pos (.inr h)]
      repeat (first
        | with_reducible refine VC.seq ?_
        | with_reducible refine VC.region ?_
        | with_reducible refine VC.opsNil ?_
        | with_reducible refine VC.block ?_
        | with_reducible refine VC.blk ?_
        | with_reducible refine VC.skip ?_
        | with_reducible refine VC.scope ?_
        | refine VC.exit rfl ?_
        | ((first | apply s_opS rfl | apply s_opN | apply s_gq rfl | apply s_iq); (focus ((simp only [vsA, vsB, aop, aev, absV, absS, upd_at, aload, rd, afieldAddr, afield, cur, abin, aarith, astr, aun, aindexAddr, aindex, aextract, alen, nv_upd, astore, anil, aconv, asrc, aappend, amake, abuildSlice, abuild, afill, aslice, abnd, Value.cells, if_true, if_false, ite_true, ite_false, eq_self, ne_eq, reduceCtorEq, ↓reduceIte, ↓reduceDIte, Nat.reduceEqDiff, Nat.reduceAdd, Nat.reduceSub, Nat.reduceMul, Nat.reduceLeDiff, Nat.reduceLT, Int.reduceEq, Int.reduceLT, Int.reduceLE, Int.reduceToNat, Int.reduceAdd, Int.reduceNeg, Int.reduceSub, Int.reduceMul, Int.reduceNe, Nat.reduceBEq, Int.reduceBEq, tysXTokA_endOfI, ayield, Option.bind_some, Option.bind_none, t0, t5, t6, hkid, h, hwp, hw2, Tok.c_take, Tok.c_len, Tok.c_all, Tok.c_head, Tok.c_d1, Tok.c_d2]) <;> exact rfl)); (with_reducible (first | refine vc_id ?_ | refine gqT ?_ | refine gqF ?_ | refine gqF' ?_ | refine gqU ?_ | refine iqT ?_ | refine iqF ?_)))
        | fail)
      (apply s_if; focus ((simp only [vsB, aev, absV, absS, upd_at, if_true, if_false, ite_true, ite_false, eq_self, ne_eq, reduceCtorEq, ↓reduceIte, ↓reduceDIte, Nat.reduceEqDiff, Nat.reduceAdd, Nat.reduceSub, Nat.reduceMul, Nat.reduceLeDiff, Nat.reduceLT, Int.reduceEq, Int.reduceLT, Int.reduceLE, Int.reduceToNat, Int.reduceAdd, Int.reduceNeg, Int.reduceSub, Int.reduceMul, Int.reduceNe, Nat.reduceBEq, Int.reduceBEq, t0, t5, t6]) <;> exact rfl))
      · intro h0
        repeat (first
          | with_reducible refine VC.seq ?_
          | with_reducible refine VC.region ?_
          | with_reducible refine VC.opsNil ?_
          | with_reducible refine VC.block ?_
          | with_reducible refine VC.blk ?_
          | with_reducible refine VC.skip ?_
          | with_reducible refine VC.scope ?_
          | refine VC.exit rfl ?_
          | ((first | apply s_opS rfl | apply s_opN | apply s_gq rfl | apply s_iq); (focus ((simp only [vsA, vsB, aop, aev, absV, absS, upd_at, aload, rd, afieldAddr, afield, cur, abin, aarith, astr, aun, aindexAddr, aindex, aextract, alen, nv_upd, astore, anil, aconv, asrc, aappend, amake, abuildSlice, abuild, afill, aslice, abnd, Value.cells, if_true, if_false, ite_true, ite_false, eq_self, ne_eq, reduceCtorEq, ↓reduceIte, ↓reduceDIte, Nat.reduceEqDiff, Nat.reduceAdd, Nat.reduceSub, Nat.reduceMul, Nat.reduceLeDiff, Nat.reduceLT, Int.reduceEq, Int.reduceLT, Int.reduceLE, Int.reduceToNat, Int.reduceAdd, Int.reduceNeg, Int.reduceSub, Int.reduceMul, Int.reduceNe, Nat.reduceBEq, Int.reduceBEq, tysXTokA_endOfI, ayield, Option.bind_some, Option.bind_none, t0, t5, t6, hkid, h, hwp, hw2, Tok.c_take, Tok.c_len, Tok.c_all, Tok.c_head, Tok.c_d1, Tok.c_d2]) <;> exact rfl)); (with_reducible (first | refine vc_id ?_ | refine gqT ?_ | refine gqF ?_ | refine gqF' ?_ | refine gqU ?_ | refine iqT ?_ | refine iqF ?_)))
          | fail)
        (first | apply VC.nil | apply VC.ret); (apply fin_flat (H0 := H); (focus ((simp only [vsA, vsB, aop, aev, absV, absS, upd_at, aload, rd, afieldAddr, afield, cur, abin, aarith, astr, aun, aindexAddr, aindex, aextract, alen, nv_upd, astore, anil, aconv, asrc, aappend, amake, abuildSlice, abuild, afill, aslice, abnd, Value.cells, if_true, if_false, ite_true, ite_false, eq_self, ne_eq, reduceCtorEq, ↓reduceIte, ↓reduceDIte, Nat.reduceEqDiff, Nat.reduceAdd, Nat.reduceSub, Nat.reduceMul, Nat.reduceLeDiff, Nat.reduceLT, Int.reduceEq, Int.reduceLT, Int.reduceLE, Int.reduceToNat, Int.reduceAdd, Int.reduceNeg, Int.reduceSub, Int.reduceMul, Int.reduceNe, Nat.reduceBEq, Int.reduceBEq, tysXTokA_endOfI, ares, aresL, ares1, Try.results120, t6]) <;> exact rfl)); (focus rfl); (focus ((try simp only [cutN_upd, cutN_upd0]); exact cutN_self hn)); (focus (first | exact hc | ((repeat (apply CloH_upd)); exact hc))))
        exact ⟨by rw [last (by omega)], rfl⟩
      · intro h0
        repeat (first
          | with_reducible refine VC.seq ?_
          | with_reducible refine VC.region ?_
          | with_reducible refine VC.opsNil ?_
          | with_reducible refine VC.block ?_
          | with_reducible refine VC.blk ?_
          | with_reducible refine VC.skip ?_
          | with_reducible refine VC.scope ?_
          | refine VC.exit rfl ?_
          | ((first | apply s_opS rfl | apply s_opN | apply s_gq rfl | apply s_iq); (focus ((simp only [vsA, vsB, aop, aev, absV, absS, upd_at, aload, rd, afieldAddr, afield, cur, abin, aarith, astr, aun, aindexAddr, aindex, aextract, alen, nv_upd, astore, anil, aconv, asrc, aappend, amake, abuildSlice, abuild, afill, aslice, abnd, Value.cells, if_true, if_false, ite_true, ite_false, eq_self, ne_eq, reduceCtorEq, ↓reduceIte, ↓reduceDIte, Nat.reduceEqDiff, Nat.reduceAdd, Nat.reduceSub, Nat.reduceMul, Nat.reduceLeDiff, Nat.reduceLT, Int.reduceEq, Int.reduceLT, Int.reduceLE, Int.reduceToNat, Int.reduceAdd, Int.reduceNeg, Int.reduceSub, Int.reduceMul, Int.reduceNe, Nat.reduceBEq, Int.reduceBEq, tysXTokA_endOfI, ayield, Option.bind_some, Option.bind_none, t0, t5, t6, hkid, h, hwp, hw2, Tok.c_take, Tok.c_len, Tok.c_all, Tok.c_head, Tok.c_d1, Tok.c_d2]) <;> exact rfl)); (with_reducible (first | refine vc_id ?_ | refine gqT ?_ | refine gqF ?_ | refine gqF' ?_ | refine gqU ?_ | refine iqT ?_ | refine iqF ?_)))
          | fail)
        obtain ⟨q1, q2⟩ := next _ ho h0 (by omega) (by omega)
        refine VC.back ?_
        refine ⟨⟨k + 1, _, q1, ?_, ?_, q2, ?_⟩, ?_⟩
        · omega
        · omega
        · (repeat' apply And.intro) <;> (first | rfl | assumption | omega | (simp only [upd_at, Nat.reduceEqDiff, if_true, if_false, and_self, ↓reduceIte, and_true, true_and, Nat.add_left_cancel_iff, Nat.add_eq_left, aint, t0]; done) | ((simp only [upd_at, Nat.reduceEqDiff, if_true, if_false, and_self, ↓reduceIte, and_true, true_and, Nat.add_left_cancel_iff, Nat.add_eq_left, aint, t0]) <;> (first | rfl | assumption | omega)) | (focus (repeat (first | exact Low.refl _ _ | assumption | apply low_upd | apply low_upd0)); done))
        · (repeat' apply And.intro) <;> (first | rfl | assumption | omega | (simp only [upd_at, Nat.reduceEqDiff, if_true, if_false, and_self, ↓reduceIte, and_true, true_and, Nat.add_left_cancel_iff, Nat.add_eq_left, aint, t6, Int.toNat_natCast]; done) | ((simp only [upd_at, Nat.reduceEqDiff, if_true, if_false, and_self, ↓reduceIte, and_true, true_and, Nat.add_left_cancel_iff, Nat.add_eq_left, aint, t6, Int.toNat_natCast]) <;> (first | rfl | assumption | omega)) | (focus (repeat (first | exact Low.refl _ _ | assumption | apply low_upd | apply low_upd0)); done))
    · have ho : opn xs[k] o = o - 1 := by rw [opn, if_neg (by omega), if_pos (.inl h)]
      repeat (first
        | with_reducible refine VC.seq ?_
        | with_reducible refine VC.region ?_
        | with_reducible refine VC.opsNil ?_
        | with_reducible refine VC.block ?_
        | with_reducible refine VC.blk ?_
        | with_reducible refine VC.skip ?_
        | with_reducible refine VC.scope ?_
        | refine VC.exit rfl ?_
        | ((first | apply s_opS rfl | apply s_opN | apply s_gq rfl | apply s_iq); (focus ((simp only [vsA, vsB, aop, aev, absV, absS, upd_at, aload, rd, afieldAddr, afield, cur, abin, aarith, astr, aun, aindexAddr, aindex, aextract, alen, nv_upd, astore, anil, aconv, asrc, aappend, amake, abuildSlice, abuild, afill, aslice, abnd, Value.cells, if_true, if_false, ite_true, ite_false, eq_self, ne_eq, reduceCtorEq, ↓reduceIte, ↓reduceDIte, Nat.reduceEqDiff, Nat.reduceAdd, Nat.reduceSub, Nat.reduceMul, Nat.reduceLeDiff, Nat.reduceLT, Int.reduceEq, Int.reduceLT, Int.reduceLE, Int.reduceToNat, Int.reduceAdd, Int.reduceNeg, Int.reduceSub, Int.reduceMul, Int.reduceNe, Nat.reduceBEq, Int.reduceBEq, tysXTokA_endOfI, ayield, Option.bind_some, Option.bind_none, t0, t5, t6, hkid, h, hwm, hw2, Tok.c_take, Tok.c_len, Tok.c_all, Tok.c_head, Tok.c_d1, Tok.c_d2]) <;> exact rfl)); (with_reducible (first | refine vc_id ?_ | refine gqT ?_ | refine gqF ?_ | refine gqF' ?_ | refine gqU ?_ | refine iqT ?_ | refine iqF ?_)))
        | fail)
      (apply s_if; focus ((simp only [vsB, aev, absV, absS, upd_at, if_true, if_false, ite_true, ite_false, eq_self, ne_eq, reduceCtorEq, ↓reduceIte, ↓reduceDIte, Nat.reduceEqDiff, Nat.reduceAdd, Nat.reduceSub, Nat.reduceMul, Nat.reduceLeDiff, Nat.reduceLT, Int.reduceEq, Int.reduceLT, Int.reduceLE, Int.reduceToNat, Int.reduceAdd, Int.reduceNeg, Int.reduceSub, Int.reduceMul, Int.reduceNe, Nat.reduceBEq, Int.reduceBEq, t0, t5, t6]) <;> exact rfl))
      · intro h0
        repeat (first
          | with_reducible refine VC.seq ?_
          | with_reducible refine VC.region ?_
          | with_reducible refine VC.opsNil ?_
          | with_reducible refine VC.block ?_
          | with_reducible refine VC.blk ?_
          | with_reducible refine VC.skip ?_
          | with_reducible refine VC.scope ?_
          | refine VC.exit rfl ?_
          | ((first | apply s_opS rfl | apply s_opN | apply s_gq rfl | apply s_iq); (focus ((simp only [vsA, vsB, aop, aev, absV, absS, upd_at, aload, rd, afieldAddr, afield, cur, abin, aarith, astr, aun, aindexAddr, aindex, aextract, alen, nv_upd, astore, anil, aconv, asrc, aappend, amake, abuildSlice, abuild, afill, aslice, abnd, Value.cells, if_true, if_false, ite_true, ite_false, eq_self, ne_eq, reduceCtorEq, ↓reduceIte, ↓reduceDIte, Nat.reduceEqDiff, Nat.reduceAdd, Nat.reduceSub, Nat.reduceMul, Nat.reduceLeDiff, Nat.reduceLT, Int.reduceEq, Int.reduceLT, Int.reduceLE, Int.reduceToNat, Int.reduceAdd, Int.reduceNeg, Int.reduceSub, Int.reduceMul, Int.reduceNe, Nat.reduceBEq, Int.reduceBEq, tysXTokA_endOfI, ayield, Option.bind_some, Option.bind_none, t0, t5, t6, hkid, h, hwm, hw2, Tok.c_take, Tok.c_len, Tok.c_all, Tok.c_head, Tok.c_d1, Tok.c_d2]) <;> exact rfl)); (with_reducible (first | refine vc_id ?_ | refine gqT ?_ | refine gqF ?_ | refine gqF' ?_ | refine gqU ?_ | refine iqT ?_ | refine iqF ?_)))
          | fail)
        (first | apply VC.nil | apply VC.ret); (apply fin_flat (H0 := H); (focus ((simp only [vsA, vsB, aop, aev, absV, absS, upd_at, aload, rd, afieldAddr, afield, cur, abin, aarith, astr, aun, aindexAddr, aindex, aextract, alen, nv_upd, astore, anil, aconv, asrc, aappend, amake, abuildSlice, abuild, afill, aslice, abnd, Value.cells, if_true, if_false, ite_true, ite_false, eq_self, ne_eq, reduceCtorEq, ↓reduceIte, ↓reduceDIte, Nat.reduceEqDiff, Nat.reduceAdd, Nat.reduceSub, Nat.reduceMul, Nat.reduceLeDiff, Nat.reduceLT, Int.reduceEq, Int.reduceLT, Int.reduceLE, Int.reduceToNat, Int.reduceAdd, Int.reduceNeg, Int.reduceSub, Int.reduceMul, Int.reduceNe, Nat.reduceBEq, Int.reduceBEq, tysXTokA_endOfI, ares, aresL, ares1, Try.results120, t6]) <;> exact rfl)); (focus rfl); (focus ((try simp only [cutN_upd, cutN_upd0]); exact cutN_self hn)); (focus (first | exact hc | ((repeat (apply CloH_upd)); exact hc))))
        exact ⟨by rw [last (by omega)], rfl⟩
      · intro h0
        repeat (first
          | with_reducible refine VC.seq ?_
          | with_reducible refine VC.region ?_
          | with_reducible refine VC.opsNil ?_
          | with_reducible refine VC.block ?_
          | with_reducible refine VC.blk ?_
          | with_reducible refine VC.skip ?_
          | with_reducible refine VC.scope ?_
          | refine VC.exit rfl ?_
          | ((first | apply s_opS rfl | apply s_opN | apply s_gq rfl | apply s_iq); (focus ((simp only [vsA, vsB, aop, aev, absV, absS, upd_at, aload, rd, afieldAddr, afield, cur, abin, aarith, astr, aun, aindexAddr, aindex, aextract, alen, nv_upd, astore, anil, aconv, asrc, aappend, amake, abuildSlice, abuild, afill, aslice, abnd, Value.cells, if_true, if_false, ite_true, ite_false, eq_self, ne_eq, reduceCtorEq, ↓reduceIte, ↓reduceDIte, Nat.reduceEqDiff, Nat.reduceAdd, Nat.reduceSub, Nat.reduceMul, Nat.reduceLeDiff, Nat.reduceLT, Int.reduceEq, Int.reduceLT, Int.reduceLE, Int.reduceToNat, Int.reduceAdd, Int.reduceNeg, Int.reduceSub, Int.reduceMul, Int.reduceNe, Nat.reduceBEq, Int.reduceBEq, tysXTokA_endOfI, ayield, Option.bind_some, Option.bind_none, t0, t5, t6, hkid, h, hwm, hw2, Tok.c_take, Tok.c_len, Tok.c_all, Tok.c_head, Tok.c_d1, Tok.c_d2]) <;> exact rfl)); (with_reducible (first | refine vc_id ?_ | refine gqT ?_ | refine gqF ?_ | refine gqF' ?_ | refine gqU ?_ | refine iqT ?_ | refine iqF ?_)))
          | fail)
        obtain ⟨q1, q2⟩ := next _ ho h0 (by omega) (by omega)
        refine VC.back ?_
        refine ⟨⟨k + 1, _, q1, ?_, ?_, q2, ?_⟩, ?_⟩
        · omega
        · omega
        · (repeat' apply And.intro) <;> (first | rfl | assumption | omega | (simp only [upd_at, Nat.reduceEqDiff, if_true, if_false, and_self, ↓reduceIte, and_true, true_and, Nat.add_left_cancel_iff, Nat.add_eq_left, aint, t0]; done) | ((simp only [upd_at, Nat.reduceEqDiff, if_true, if_false, and_self, ↓reduceIte, and_true, true_and, Nat.add_left_cancel_iff, Nat.add_eq_left, aint, t0]) <;> (first | rfl | assumption | omega)) | (focus (repeat (first | exact Low.refl _ _ | assumption | apply low_upd | apply low_upd0)); done))
        · (repeat' apply And.intro) <;> (first | rfl | assumption | omega | (simp only [upd_at, Nat.reduceEqDiff, if_true, if_false, and_self, ↓reduceIte, and_true, true_and, Nat.add_left_cancel_iff, Nat.add_eq_left, aint, t6, Int.toNat_natCast]; done) | ((simp only [upd_at, Nat.reduceEqDiff, if_true, if_false, and_self, ↓reduceIte, and_true, true_and, Nat.add_left_cancel_iff, Nat.add_eq_left, aint, t6, Int.toNat_natCast]) <;> (first | rfl | assumption | omega)) | (focus (repeat (first | exact Low.refl _ _ | assumption | apply low_upd | apply low_upd0)); done))
    · have ho : opn xs[k] o = o - 1 := by rw [opn, if_neg (by omega), if_pos (.inr h)]
      repeat (first
        | with_reducible refine VC.seq ?_
        | with_reducible refine VC.region ?_
        | with_reducible refine VC.opsNil ?_
        | with_reducible refine VC.block ?_
        | with_reducible refine VC.blk ?_
        | with_reducible refine VC.skip ?_
        | with_reducible refine VC.scope ?_
        | refine VC.exit rfl ?_
        | ((first | apply s_opS rfl | apply s_opN | apply s_gq rfl | apply s_iq); (focus ((simp only [vsA, vsB, aop, aev, absV, absS, upd_at, aload, rd, afieldAddr, afield, cur, abin, aarith, astr, aun, aindexAddr, aindex, aextract, alen, nv_upd, astore, anil, aconv, asrc, aappend, amake, abuildSlice, abuild, afill, aslice, abnd, Value.cells, if_true, if_false, ite_true, ite_false, eq_self, ne_eq, reduceCtorEq, ↓reduceIte, ↓reduceDIte, Nat.reduceEqDiff, Nat.reduceAdd, Nat.reduceSub, Nat.reduceMul, Nat.reduceLeDiff, Nat.reduceLT, Int.reduceEq, Int.reduceLT, Int.reduceLE, Int.reduceToNat, Int.reduceAdd, Int.reduceNeg, Int.reduceSub, Int.reduceMul, Int.reduceNe, Nat.reduceBEq, Int.reduceBEq, tysXTokA_endOfI, ayield, Option.bind_some, Option.bind_none, t0, t5, t6, hkid, h, hwm, hw2, Tok.c_take, Tok.c_len, Tok.c_all, Tok.c_head, Tok.c_d1, Tok.c_d2]) <;> exact rfl)); (with_reducible (first | refine vc_id ?_ | refine gqT ?_ | refine gqF ?_ | refine gqF' ?_ | refine gqU ?_ | refine iqT ?_ | refine iqF ?_)))
        | fail)
      (apply s_if; focus ((simp only [vsB, aev, absV, absS, upd_at, if_true, if_false, ite_true, ite_false, eq_self, ne_eq, reduceCtorEq, ↓reduceIte, ↓reduceDIte, Nat.reduceEqDiff, Nat.reduceAdd, Nat.reduceSub, Nat.reduceMul, Nat.reduceLeDiff, Nat.reduceLT, Int.reduceEq, Int.reduceLT, Int.reduceLE, Int.reduceToNat, Int.reduceAdd, Int.reduceNeg, Int.reduceSub, Int.reduceMul, Int.reduceNe, Nat.reduceBEq, Int.reduceBEq, t0, t5, t6]) <;> exact rfl))
      · intro h0
        repeat (first
          | with_reducible refine VC.seq ?_
          | with_reducible refine VC.region ?_
          | with_reducible refine VC.opsNil ?_
          | with_reducible refine VC.block ?_
          | with_reducible refine VC.blk ?_
          | with_reducible refine VC.skip ?_
          | with_reducible refine VC.scope ?_
          | refine VC.exit rfl ?_
          | ((first | apply s_opS rfl | apply s_opN | apply s_gq rfl | apply s_iq); (focus ((simp only [vsA, vsB, aop, aev, absV, absS, upd_at, aload, rd, afieldAddr, afield, cur, abin, aarith, astr, aun, aindexAddr, aindex, aextract, alen, nv_upd, astore, anil, aconv, asrc, aappend, amake, abuildSlice, abuild, afill, aslice, abnd, Value.cells, if_true, if_false, ite_true, ite_false, eq_self, ne_eq, reduceCtorEq, ↓reduceIte, ↓reduceDIte, Nat.reduceEqDiff, Nat.reduceAdd, Nat.reduceSub, Nat.reduceMul, Nat.reduceLeDiff, Nat.reduceLT, Int.reduceEq, Int.reduceLT, Int.reduceLE, Int.reduceToNat, Int.reduceAdd, Int.reduceNeg, Int.reduceSub, Int.reduceMul, Int.reduceNe, Nat.reduceBEq, Int.reduceBEq, tysXTokA_endOfI, ayield, Option.bind_some, Option.bind_none, t0, t5, t6, hkid, h, hwm, hw2, Tok.c_take, Tok.c_len, Tok.c_all, Tok.c_head, Tok.c_d1, Tok.c_d2]) <;> exact rfl)); (with_reducible (first | refine vc_id ?_ | refine gqT ?_ | refine gqF ?_ | refine gqF' ?_ | refine gqU ?_ | refine iqT ?_ | refine iqF ?_)))
          | fail)
        (first | apply VC.nil | apply VC.ret); (apply fin_flat (H0 := H); (focus ((simp only [vsA, vsB, aop, aev, absV, absS, upd_at, aload, rd, afieldAddr, afield, cur, abin, aarith, astr, aun, aindexAddr, aindex, aextract, alen, nv_upd, astore, anil, aconv, asrc, aappend, amake, abuildSlice, abuild, afill, aslice, abnd, Value.cells, if_true, if_false, ite_true, ite_false, eq_self, ne_eq, reduceCtorEq, ↓reduceIte, ↓reduceDIte, Nat.reduceEqDiff, Nat.reduceAdd, Nat.reduceSub, Nat.reduceMul, Nat.reduceLeDiff, Nat.reduceLT, Int.reduceEq, Int.reduceLT, Int.reduceLE, Int.reduceToNat, Int.reduceAdd, Int.reduceNeg, Int.reduceSub, Int.reduceMul, Int.reduceNe, Nat.reduceBEq, Int.reduceBEq, tysXTokA_endOfI, ares, aresL, ares1, Try.results120, t6]) <;> exact rfl)); (focus rfl); (focus ((try simp only [cutN_upd, cutN_upd0]); exact cutN_self hn)); (focus (first | exact hc | ((repeat (apply CloH_upd)); exact hc))))
        exact ⟨by rw [last (by omega)], rfl⟩
      · intro h0
        repeat (first
          | with_reducible refine VC.seq ?_
          | with_reducible refine VC.region ?_
          | with_reducible refine VC.opsNil ?_
          | with_reducible refine VC.block ?_
          | with_reducible refine VC.blk ?_
          | with_reducible refine VC.skip ?_
          | with_reducible refine VC.scope ?_
          | refine VC.exit rfl ?_
          | ((first | apply s_opS rfl | apply s_opN | apply s_gq rfl | apply s_iq); (focus ((simp only [vsA, vsB, aop, aev, absV, absS, upd_at, aload, rd, afieldAddr, afield, cur, abin, aarith, astr, aun, aindexAddr, aindex, aextract, alen, nv_upd, astore, anil, aconv, asrc, aappend, amake, abuildSlice, abuild, afill, aslice, abnd, Value.cells, if_true, if_false, ite_true, ite_false, eq_self, ne_eq, reduceCtorEq, ↓reduceIte, ↓reduceDIte, Nat.reduceEqDiff, Nat.reduceAdd, Nat.reduceSub, Nat.reduceMul, Nat.reduceLeDiff, Nat.reduceLT, Int.reduceEq, Int.reduceLT, Int.reduceLE, Int.reduceToNat, Int.reduceAdd, Int.reduceNeg, Int.reduceSub, Int.reduceMul, Int.reduceNe, Nat.reduceBEq, Int.reduceBEq, tysXTokA_endOfI, ayield, Option.bind_some, Option.bind_none, t0, t5, t6, hkid, h, hwm, hw2, Tok.c_take, Tok.c_len, Tok.c_all, Tok.c_head, Tok.c_d1, Tok.c_d2]) <;> exact rfl)); (with_reducible (first | refine vc_id ?_ | refine gqT ?_ | refine gqF ?_ | refine gqF' ?_ | refine gqU ?_ | refine iqT ?_ | refine iqF ?_)))
          | fail)
        obtain ⟨q1, q2⟩ := next _ ho h0 (by omega) (by omega)
        refine VC.back ?_
        refine ⟨⟨k + 1, _, q1, ?_, ?_, q2, ?_⟩, ?_⟩
        · omega
        · omega
        · (repeat' apply And.intro) <;> (first | rfl | assumption | omega | (simp only [upd_at, Nat.reduceEqDiff, if_true, if_false, and_self, ↓reduceIte, and_true, true_and, Nat.add_left_cancel_iff, Nat.add_eq_left, aint, t0]; done) | ((simp only [upd_at, Nat.reduceEqDiff, if_true, if_false, and_self, ↓reduceIte, and_true, true_and, Nat.add_left_cancel_iff, Nat.add_eq_left, aint, t0]) <;> (first | rfl | assumption | omega)) | (focus (repeat (first | exact Low.refl _ _ | assumption | apply low_upd | apply low_upd0)); done))
        · (repeat' apply And.intro) <;> (first | rfl | assumption | omega | (simp only [upd_at, Nat.reduceEqDiff, if_true, if_false, and_self, ↓reduceIte, and_true, true_and, Nat.add_left_cancel_iff, Nat.add_eq_left, aint, t6, Int.toNat_natCast]; done) | ((simp only [upd_at, Nat.reduceEqDiff, if_true, if_false, and_self, ↓reduceIte, and_true, true_and, Nat.add_left_cancel_iff, Nat.add_eq_left, aint, t6, Int.toNat_natCast]) <;> (first | rfl | assumption | omega)) | (focus (repeat (first | exact Low.refl _ _ | assumption | apply low_upd | apply low_upd0)); done))
    · have ho : opn xs[k] o = o := by
        simp only [decide_eq_false_iff_not] at h1 h2 h3 h4
        rw [opn, if_neg (by omega), if_neg (by omega)]
      repeat (first
        | with_reducible refine VC.seq ?_
        | with_reducible refine VC.region ?_
        | with_reducible refine VC.opsNil ?_
        | with_reducible refine VC.block ?_
        | with_reducible refine VC.blk ?_
        | with_reducible refine VC.skip ?_
        | with_reducible refine VC.scope ?_
        | refine VC.exit rfl ?_
        | ((first | apply s_opS rfl | apply s_opN | apply s_gq rfl | apply s_iq); (focus ((simp only [vsA, vsB, aop, aev, absV, absS, upd_at, aload, rd, afieldAddr, afield, cur, abin, aarith, astr, aun, aindexAddr, aindex, aextract, alen, nv_upd, astore, anil, aconv, asrc, aappend, amake, abuildSlice, abuild, afill, aslice, abnd, Value.cells, if_true, if_false, ite_true, ite_false, eq_self, ne_eq, reduceCtorEq, ↓reduceIte, ↓reduceDIte, Nat.reduceEqDiff, Nat.reduceAdd, Nat.reduceSub, Nat.reduceMul, Nat.reduceLeDiff, Nat.reduceLT, Int.reduceEq, Int.reduceLT, Int.reduceLE, Int.reduceToNat, Int.reduceAdd, Int.reduceNeg, Int.reduceSub, Int.reduceMul, Int.reduceNe, Nat.reduceBEq, Int.reduceBEq, tysXTokA_endOfI, ayield, Option.bind_some, Option.bind_none, t0, t5, t6, hkid, h1, h2, h3, h4, hw2, Tok.c_take, Tok.c_len, Tok.c_all, Tok.c_head, Tok.c_d1, Tok.c_d2]) <;> exact rfl)); (with_reducible (first | refine vc_id ?_ | refine gqT ?_ | refine gqF ?_ | refine gqF' ?_ | refine gqU ?_ | refine iqT ?_ | refine iqF ?_)))
        | fail)
      (apply s_if; focus ((simp only [vsB, aev, absV, absS, upd_at, if_true, if_false, ite_true, ite_false, eq_self, ne_eq, reduceCtorEq, ↓reduceIte, ↓reduceDIte, Nat.reduceEqDiff, Nat.reduceAdd, Nat.reduceSub, Nat.reduceMul, Nat.reduceLeDiff, Nat.reduceLT, Int.reduceEq, Int.reduceLT, Int.reduceLE, Int.reduceToNat, Int.reduceAdd, Int.reduceNeg, Int.reduceSub, Int.reduceMul, Int.reduceNe, Nat.reduceBEq, Int.reduceBEq, t0, t5, t6]) <;> exact rfl))
      · intro h0
        repeat (first
          | with_reducible refine VC.seq ?_
          | with_reducible refine VC.region ?_
          | with_reducible refine VC.opsNil ?_
          | with_reducible refine VC.block ?_
          | with_reducible refine VC.blk ?_
          | with_reducible refine VC.skip ?_
          | with_reducible refine VC.scope ?_
          | refine VC.exit rfl ?_
          | ((first | apply s_opS rfl | apply s_opN | apply s_gq rfl | apply s_iq); (focus ((simp only [vsA, vsB, aop, aev, absV, absS, upd_at, aload, rd, afieldAddr, afield, cur, abin, aarith, astr, aun, aindexAddr, aindex, aextract, alen, nv_upd, astore, anil, aconv, asrc, aappend, amake, abuildSlice, abuild, afill, aslice, abnd, Value.cells, if_true, if_false, ite_true, ite_false, eq_self, ne_eq, reduceCtorEq, ↓reduceIte, ↓reduceDIte, Nat.reduceEqDiff, Nat.reduceAdd, Nat.reduceSub, Nat.reduceMul, Nat.reduceLeDiff, Nat.reduceLT, Int.reduceEq, Int.reduceLT, Int.reduceLE, Int.reduceToNat, Int.reduceAdd, Int.reduceNeg, Int.reduceSub, Int.reduceMul, Int.reduceNe, Nat.reduceBEq, Int.reduceBEq, tysXTokA_endOfI, ayield, Option.bind_some, Option.bind_none, t0, t5, t6, hkid, hw2, Tok.c_take, Tok.c_len, Tok.c_all, Tok.c_head, Tok.c_d1, Tok.c_d2]) <;> exact rfl)); (with_reducible (first | refine vc_id ?_ | refine gqT ?_ | refine gqF ?_ | refine gqF' ?_ | refine gqU ?_ | refine iqT ?_ | refine iqF ?_)))
          | fail)
        (first | apply VC.nil | apply VC.ret); (apply fin_flat (H0 := H); (focus ((simp only [vsA, vsB, aop, aev, absV, absS, upd_at, aload, rd, afieldAddr, afield, cur, abin, aarith, astr, aun, aindexAddr, aindex, aextract, alen, nv_upd, astore, anil, aconv, asrc, aappend, amake, abuildSlice, abuild, afill, aslice, abnd, Value.cells, if_true, if_false, ite_true, ite_false, eq_self, ne_eq, reduceCtorEq, ↓reduceIte, ↓reduceDIte, Nat.reduceEqDiff, Nat.reduceAdd, Nat.reduceSub, Nat.reduceMul, Nat.reduceLeDiff, Nat.reduceLT, Int.reduceEq, Int.reduceLT, Int.reduceLE, Int.reduceToNat, Int.reduceAdd, Int.reduceNeg, Int.reduceSub, Int.reduceMul, Int.reduceNe, Nat.reduceBEq, Int.reduceBEq, tysXTokA_endOfI, ares, aresL, ares1, Try.results120, t6]) <;> exact rfl)); (focus rfl); (focus ((try simp only [cutN_upd, cutN_upd0]); exact cutN_self hn)); (focus (first | exact hc | ((repeat (apply CloH_upd)); exact hc))))
        exact ⟨by rw [last (by omega)], rfl⟩
      · intro h0
        repeat (first
          | with_reducible refine VC.seq ?_
          | with_reducible refine VC.region ?_
          | with_reducible refine VC.opsNil ?_
          | with_reducible refine VC.block ?_
          | with_reducible refine VC.blk ?_
          | with_reducible refine VC.skip ?_
          | with_reducible refine VC.scope ?_
          | refine VC.exit rfl ?_
          | ((first | apply s_opS rfl | apply s_opN | apply s_gq rfl | apply s_iq); (focus ((simp only [vsA, vsB, aop, aev, absV, absS, upd_at, aload, rd, afieldAddr, afield, cur, abin, aarith, astr, aun, aindexAddr, aindex, aextract, alen, nv_upd, astore, anil, aconv, asrc, aappend, amake, abuildSlice, abuild, afill, aslice, abnd, Value.cells, if_true, if_false, ite_true, ite_false, eq_self, ne_eq, reduceCtorEq, ↓reduceIte, ↓reduceDIte, Nat.reduceEqDiff, Nat.reduceAdd, Nat.reduceSub, Nat.reduceMul, Nat.reduceLeDiff, Nat.reduceLT, Int.reduceEq, Int.reduceLT, Int.reduceLE, Int.reduceToNat, Int.reduceAdd, Int.reduceNeg, Int.reduceSub, Int.reduceMul, Int.reduceNe, Nat.reduceBEq, Int.reduceBEq, tysXTokA_endOfI, ayield, Option.bind_some, Option.bind_none, t0, t5, t6, hkid, hw2, Tok.c_take, Tok.c_len, Tok.c_all, Tok.c_head, Tok.c_d1, Tok.c_d2]) <;> exact rfl)); (with_reducible (first | refine vc_id ?_ | refine gqT ?_ | refine gqF ?_ | refine gqF' ?_ | refine gqU ?_ | refine iqT ?_ | refine iqF ?_)))
          | fail)
        obtain ⟨q1, q2⟩ := next _ ho h0 (by omega) (by omega)
        refine VC.back ?_
        refine ⟨⟨k + 1, _, q1, ?_, ?_, q2, ?_⟩, ?_⟩
        · omega
        · omega
        · (repeat' apply And.intro) <;> (first | rfl | assumption | omega | (simp only [upd_at, Nat.reduceEqDiff, if_true, if_false, and_self, ↓reduceIte, and_true, true_and, Nat.add_left_cancel_iff, Nat.add_eq_left, aint, t0, t5]; done) | ((simp only [upd_at, Nat.reduceEqDiff, if_true, if_false, and_self, ↓reduceIte, and_true, true_and, Nat.add_left_cancel_iff, Nat.add_eq_left, aint, t0, t5]) <;> (first | rfl | assumption | omega)) | (focus (repeat (first | exact Low.refl _ _ | assumption | apply low_upd | apply low_upd0)); done))
        · (repeat' apply And.intro) <;> (first | rfl | assumption | omega | (simp only [upd_at, Nat.reduceEqDiff, if_true, if_false, and_self, ↓reduceIte, and_true, true_and, Nat.add_left_cancel_iff, Nat.add_eq_left, aint, t6, Int.toNat_natCast]; done) | ((simp only [upd_at, Nat.reduceEqDiff, if_true, if_false, and_self, ↓reduceIte, and_true, true_and, Nat.add_left_cancel_iff, Nat.add_eq_left, aint, t6, Int.toNat_natCast]) <;> (first | rfl | assumption | omega)) | (focus (repeat (first | exact Low.refl _ _ | assumption | apply low_upd | apply low_upd0)); done))

theorem tysXTokA_l6CloseS : type_of% (And.intro ty_tg1 (And.intro ty_tg2 (And.intro ty_sz2 (And.intro ty_in2 (And.intro ty_tg3 (And.intro ty_sz3 (And.intro ty_in3 (And.intro ty_tg4 (And.intro ty_sz4 (And.intro ty_in4 (And.intro ty_tg5 (And.intro ty_sz5 (And.intro ty_in5 (And.intro ty_tg9 (And.intro ty_sz9 (And.intro ty_in9 (And.intro ty_tg18 (And.intro ty_sz18 (And.intro ty_in18 (And.intro ty_pl18 (And.intro ty_fd18_0 (And.intro ty_tg21 (And.intro ty_sz21 (And.intro ty_in21 (And.intro ty_tg22 (And.intro ty_sz22 (And.intro ty_in22 (And.intro ty_pl22 (And.intro ty_fd22_0 (And.intro ty_fd22_1 (And.intro ty_tg23 (And.intro ty_sz23 (And.intro ty_in23 (And.intro ty_pl23 (And.intro ty_fd23_0 (And.intro ty_fd23_1 (And.intro ty_tg24 (And.intro ty_tg25 (And.intro ty_sz25 (And.intro ty_in25 (And.intro ty_pl25 (And.intro ty_fd25_0 (And.intro ty_fd25_1 (And.intro ty_tg26 (And.intro ty_tg27 (And.intro ty_tg28 (And.intro ty_sz28 (And.intro ty_in28 (And.intro ty_tg30 (And.intro ty_tg31 (And.intro ty_tg32 (And.intro ty_sz32 (And.intro ty_in32 (And.intro ty_tg33 (And.intro ty_tg34 (And.intro ty_tg35 (And.intro ty_sz35 (And.intro ty_in35 (And.intro ty_tg78 (And.intro ty_sz78 (And.intro ty_in78 (And.intro ty_pl78 (And.intro ty_fd78_0 (And.intro ty_fd78_1 (And.intro ty_fd78_2 (And.intro ty_tg87 (And.intro ty_sz87 (And.intro ty_in87 (And.intro ty_pl87 (And.intro ty_fd87_0 (And.intro ty_fd87_1 (And.intro ty_fd87_2 (And.intro ty_tg145 (And.intro Try.underlying1 (And.intro Try.underlying2 (And.intro Try.underlying3 (And.intro Try.underlying4 (And.intro Try.underlying5 (And.intro Try.underlying6 (And.intro Try.underlying7 (And.intro Try.underlying9 (And.intro Try.underlying12 (And.intro Try.underlying13 (And.intro Try.underlying15 (And.intro Try.underlying16 (And.intro Try.underlying17 (And.intro Try.underlying18 (And.intro Try.underlying19 (And.intro Try.underlying21 (And.intro Try.underlying22 (And.intro Try.underlying23 (And.intro Try.underlying24 (And.intro Try.underlying25 (And.intro Try.underlying26 (And.intro Try.underlying27 (And.intro Try.underlying28 (And.intro Try.underlying30 (And.intro Try.underlying31 (And.intro Try.underlying32 (And.intro Try.underlying33 (And.intro Try.underlying34 (And.intro Try.underlying35 (And.intro Try.underlying78 (And.intro Try.underlying87 (Try.underlying145))))))))))))))))))))))))))))))))))))))))))))))))))))))))))))))))))))))))))))))))))))))))))))))))))))))))) := And.intro ty_tg1 (And.intro ty_tg2 (And.intro ty_sz2 (And.intro ty_in2 (And.intro ty_tg3 (And.intro ty_sz3 (And.intro ty_in3 (And.intro ty_tg4 (And.intro ty_sz4 (And.intro ty_in4 (And.intro ty_tg5 (And.intro ty_sz5 (And.intro ty_in5 (And.intro ty_tg9 (And.intro ty_sz9 (And.intro ty_in9 (And.intro ty_tg18 (And.intro ty_sz18 (And.intro ty_in18 (And.intro ty_pl18 (And.intro ty_fd18_0 (And.intro ty_tg21 (And.intro ty_sz21 (And.intro ty_in21 (And.intro ty_tg22 (And.intro ty_sz22 (And.intro ty_in22 (And.intro ty_pl22 (And.intro ty_fd22_0 (And.intro ty_fd22_1 (And.intro ty_tg23 (And.intro ty_sz23 (And.intro ty_in23 (And.intro ty_pl23 (And.intro ty_fd23_0 (And.intro ty_fd23_1 (And.intro ty_tg24 (And.intro ty_tg25 (And.intro ty_sz25 (And.intro ty_in25 (And.intro ty_pl25 (And.intro ty_fd25_0 (And.intro ty_fd25_1 (And.intro ty_tg26 (And.intro ty_tg27 (And.intro ty_tg28 (And.intro ty_sz28 (And.intro ty_in28 (And.intro ty_tg30 (And.intro ty_tg31 (And.intro ty_tg32 (And.intro ty_sz32 (And.intro ty_in32 (And.intro ty_tg33 (And.intro ty_tg34 (And.intro ty_tg35 (And.intro ty_sz35 (And.intro ty_in35 (And.intro ty_tg78 (And.intro ty_sz78 (And.intro ty_in78 (And.intro ty_pl78 (And.intro ty_fd78_0 (And.intro ty_fd78_1 (And.intro ty_fd78_2 (And.intro ty_tg87 (And.intro ty_sz87 (And.intro ty_in87 (And.intro ty_pl87 (And.intro ty_fd87_0 (And.intro ty_fd87_1 (And.intro ty_fd87_2 (And.intro ty_tg145 (And.intro Try.underlying1 (And.intro Try.underlying2 (And.intro Try.underlying3 (And.intro Try.underlying4 (And.intro Try.underlying5 (And.intro Try.underlying6 (And.intro Try.underlying7 (And.intro Try.underlying9 (And.intro Try.underlying12 (And.intro Try.underlying13 (And.intro Try.underlying15 (And.intro Try.underlying16 (And.intro Try.underlying17 (And.intro Try.underlying18 (And.intro Try.underlying19 (And.intro Try.underlying21 (And.intro Try.underlying22 (And.intro Try.underlying23 (And.intro Try.underlying24 (And.intro Try.underlying25 (And.intro Try.underlying26 (And.intro Try.underlying27 (And.intro Try.underlying28 (And.intro Try.underlying30 (And.intro Try.underlying31 (And.intro Try.underlying32 (And.intro Try.underlying33 (And.intro Try.underlying34 (And.intro Try.underlying35 (And.intro Try.underlying78 (And.intro Try.underlying87 (Try.underlying145))))))))))))))))))))))))))))))))))))))))))))))))))))))))))))))))))))))))))))))))))))))))))))))))))))))))
set_option maxHeartbeats 4000000 in
theorem aS_l6Close (xs : List Tok) (hb : xs.length ≤ 1000) (at_ : Nat) (ha : at_ ≤ xs.length) (H : Hp) :
    ACalls Try.prog 118 [.is 3 (xs.map Tok.cs), .i .i64 at_] H (fun r H' => r = .i .i64 (closF (xs.drop at_) 0 at_) ∧ H' = H) := by
  generalize he : closF (xs.drop at_) 0 at_ = e
  refine ACalls.intro Try.func118 (by kernel_rfl) rfl (Nat.le_of_ble_eq_true rfl) fun n hn hc => ?_; have hS : ∀ k, H (n + k) = none := fun k => hn (n + k) (by omega); have hS0 : H n = none := hn n (Nat.le_refl _); have hN : ∀ k, nv H (n + k) = 0 := fun k => nv_none (hS k); (try (first | rw [ienv1] | rw [ienv2] | rw [ienv3] | rw [ienv4]))
  repeat (first
    | with_reducible refine VC.seq ?_
    | with_reducible refine VC.region ?_
    | with_reducible refine VC.opsNil ?_
    | with_reducible refine VC.block ?_
    | with_reducible refine VC.blk ?_
    | with_reducible refine VC.skip ?_
    | with_reducible refine VC.scope ?_
    | refine VC.exit rfl ?_
    | ((first | apply s_opS rfl | apply s_opN | apply s_gq rfl | apply s_iq); (focus ((simp only [vsA, vsB, aop, aev, absV, absS, upd_at, aload, rd, afieldAddr, afield, cur, abin, aarith, astr, aun, aindexAddr, aindex, aextract, alen, nv_upd, astore, anil, aconv, asrc, aappend, amake, abuildSlice, abuild, afill, aslice, abnd, Value.cells, if_true, if_false, ite_true, ite_false, eq_self, ne_eq, reduceCtorEq, ↓reduceIte, ↓reduceDIte, Nat.reduceEqDiff, Nat.reduceAdd, Nat.reduceSub, Nat.reduceMul, Nat.reduceLeDiff, Nat.reduceLT, Int.reduceEq, Int.reduceLT, Int.reduceLE, Int.reduceToNat, Int.reduceAdd, Int.reduceNeg, Int.reduceSub, Int.reduceMul, Int.reduceNe, Nat.reduceBEq, Int.reduceBEq, tysXTokA_l6CloseS, ayield, Option.bind_some, Option.bind_none, hS, hN]) <;> exact rfl)); (with_reducible (first | refine vc_id ?_ | refine gqT ?_ | refine gqF ?_ | refine gqF' ?_ | refine gqU ?_ | refine iqT ?_ | refine iqF ?_)))
    | fail)
  refine VC.loop (fun ta H' => ∃ (k : Nat) (o : Int), k ≤ xs.length ∧ -(k : Int) ≤ o ∧ o ≤ k ∧ closF (xs.drop k) o k = e ∧ ta 0 = .is 3 (xs.map Tok.cs) ∧ ta 5 = .i .i64 o ∧ ta 6 = .i .i64 k ∧ H' = H)
    (fun ta _ => xs.length - (aint (ta 6)).toNat) ?_ ?_
  · refine ⟨at_, 0, ha, by omega, by omega, he, ?_⟩
    (repeat' apply And.intro) <;> (first | rfl | assumption | omega | (simp only [upd_at, Nat.reduceEqDiff, if_true, if_false, and_self, ↓reduceIte, and_true, true_and, Nat.add_left_cancel_iff, Nat.add_eq_left, aint, if_true]; done) | ((simp only [upd_at, Nat.reduceEqDiff, if_true, if_false, and_self, ↓reduceIte, and_true, true_and, Nat.add_left_cancel_iff, Nat.add_eq_left, aint, if_true]) <;> (first | rfl | assumption | omega)) | (focus (repeat (first | exact Low.refl _ _ | assumption | apply low_upd | apply low_upd0)); done))
  · rintro ta H1 ⟨k, o, hk, ho0, ho1, hE, t0, t5, t6, hH⟩
    obtain rfl := hH.symm
    repeat (first
      | with_reducible refine VC.seq ?_
      | with_reducible refine VC.region ?_
      | with_reducible refine VC.opsNil ?_
      | with_reducible refine VC.block ?_
      | with_reducible refine VC.blk ?_
      | with_reducible refine VC.skip ?_
      | with_reducible refine VC.scope ?_
      | refine VC.exit rfl ?_
      | ((first | apply s_opS rfl | apply s_opN | apply s_gq rfl | apply s_iq); (focus ((simp only [vsA, vsB, aop, aev, absV, absS, upd_at, aload, rd, afieldAddr, afield, cur, abin, aarith, astr, aun, aindexAddr, aindex, aextract, alen, nv_upd, astore, anil, aconv, asrc, aappend, amake, abuildSlice, abuild, afill, aslice, abnd, Value.cells, if_true, if_false, ite_true, ite_false, eq_self, ne_eq, reduceCtorEq, ↓reduceIte, ↓reduceDIte, Nat.reduceEqDiff, Nat.reduceAdd, Nat.reduceSub, Nat.reduceMul, Nat.reduceLeDiff, Nat.reduceLT, Int.reduceEq, Int.reduceLT, Int.reduceLE, Int.reduceToNat, Int.reduceAdd, Int.reduceNeg, Int.reduceSub, Int.reduceMul, Int.reduceNe, Nat.reduceBEq, Int.reduceBEq, tysXTokA_l6CloseS, ayield, Option.bind_some, Option.bind_none, t0, t5, t6]) <;> exact rfl)); (with_reducible (first | refine vc_id ?_ | refine gqT ?_ | refine gqF ?_ | refine gqF' ?_ | refine gqU ?_ | refine iqT ?_ | refine iqF ?_)))
      | fail)
    (apply s_if; focus ((simp only [vsB, aev, absV, absS, upd_at, if_true, if_false, ite_true, ite_false, eq_self, ne_eq, reduceCtorEq, ↓reduceIte, ↓reduceDIte, Nat.reduceEqDiff, Nat.reduceAdd, Nat.reduceSub, Nat.reduceMul, Nat.reduceLeDiff, Nat.reduceLT, Int.reduceEq, Int.reduceLT, Int.reduceLE, Int.reduceToNat, Int.reduceAdd, Int.reduceNeg, Int.reduceSub, Int.reduceMul, Int.reduceNe, Nat.reduceBEq, Int.reduceBEq, t0, t5, t6]) <;> exact rfl))
    · intro hlt
      have hlt' : k < xs.length := by omega
      have hkid := List.getElem?_eq_getElem hlt'
      have hw2 := wrapN (k := k) (by omega)
      have hwp : IntKind.i64.wrap (o + 1) = o + 1 := wrap_in (by omega) (by omega)
      have hwm : IntKind.i64.wrap (o - 1) = o - 1 := wrap_in (by omega) (by omega)
      rw [drop_at xs k hlt', closF] at hE
      have hm : xs.length - (k + 1) < xs.length - k := by omega
      by_cases h5 : xs[k].kind = 5
      · rw [if_pos h5] at hE
        repeat (first
          | with_reducible refine VC.seq ?_
          | with_reducible refine VC.region ?_
          | with_reducible refine VC.opsNil ?_
          | with_reducible refine VC.block ?_
          | with_reducible refine VC.blk ?_
          | with_reducible refine VC.skip ?_
          | with_reducible refine VC.scope ?_
          | refine VC.exit rfl ?_
          | ((first | apply s_opS rfl | apply s_opN | apply s_gq rfl | apply s_iq); (focus ((simp only [vsA, vsB, aop, aev, absV, absS, upd_at, aload, rd, afieldAddr, afield, cur, abin, aarith, astr, aun, aindexAddr, aindex, aextract, alen, nv_upd, astore, anil, aconv, asrc, aappend, amake, abuildSlice, abuild, afill, aslice, abnd, Value.cells, if_true, if_false, ite_true, ite_false, eq_self, ne_eq, reduceCtorEq, ↓reduceIte, ↓reduceDIte, Nat.reduceEqDiff, Nat.reduceAdd, Nat.reduceSub, Nat.reduceMul, Nat.reduceLeDiff, Nat.reduceLT, Int.reduceEq, Int.reduceLT, Int.reduceLE, Int.reduceToNat, Int.reduceAdd, Int.reduceNeg, Int.reduceSub, Int.reduceMul, Int.reduceNe, Nat.reduceBEq, Int.reduceBEq, tysXTokA_l6CloseS, ayield, Option.bind_some, Option.bind_none, t0, t5, t6, hkid, h5, hwp, hw2, Tok.c_take, Tok.c_len, Tok.c_all, Tok.c_head, Tok.c_d1, Tok.c_d2]) <;> exact rfl)); (with_reducible (first | refine vc_id ?_ | refine gqT ?_ | refine gqF ?_ | refine gqF' ?_ | refine gqU ?_ | refine iqT ?_ | refine iqF ?_)))
          | fail)
        refine VC.back ?_
        refine ⟨⟨k + 1, _, hlt', ?_, ?_, hE, ?_⟩, ?_⟩
        · omega
        · omega
        · (repeat' apply And.intro) <;> (first | rfl | assumption | omega | (simp only [upd_at, Nat.reduceEqDiff, if_true, if_false, and_self, ↓reduceIte, and_true, true_and, Nat.add_left_cancel_iff, Nat.add_eq_left, aint, t0]; done) | ((simp only [upd_at, Nat.reduceEqDiff, if_true, if_false, and_self, ↓reduceIte, and_true, true_and, Nat.add_left_cancel_iff, Nat.add_eq_left, aint, t0]) <;> (first | rfl | assumption | omega)) | (focus (repeat (first | exact Low.refl _ _ | assumption | apply low_upd | apply low_upd0)); done))
        · (repeat' apply And.intro) <;> (first | rfl | assumption | omega | (simp only [upd_at, Nat.reduceEqDiff, if_true, if_false, and_self, ↓reduceIte, and_true, true_and, Nat.add_left_cancel_iff, Nat.add_eq_left, aint, t6, Int.toNat_natCast]; done) | ((simp only [upd_at, Nat.reduceEqDiff, if_true, if_false, and_self, ↓reduceIte, and_true, true_and, Nat.add_left_cancel_iff, Nat.add_eq_left, aint, t6, Int.toNat_natCast]) <;> (first | rfl | assumption | omega)) | (focus (repeat (first | exact Low.refl _ _ | assumption | apply low_upd | apply low_upd0)); done))
      · rw [if_neg h5] at hE
        have h5' : decide (xs[k].kind = 5) = false := by simpa using h5
        by_cases h6 : xs[k].kind = 6
        · rw [if_pos h6] at hE
          repeat (first
            | with_reducible refine VC.seq ?_
            | with_reducible refine VC.region ?_
            | with_reducible refine VC.opsNil ?_
            | with_reducible refine VC.block ?_
            | with_reducible refine VC.blk ?_
            | with_reducible refine VC.skip ?_
            | with_reducible refine VC.scope ?_
            | refine VC.exit rfl ?_
            | ((first | apply s_opS rfl | apply s_opN | apply s_gq rfl | apply s_iq); (focus ((simp only [vsA, vsB, aop, aev, absV, absS, upd_at, aload, rd, afieldAddr, afield, cur, abin, aarith, astr, aun, aindexAddr, aindex, aextract, alen, nv_upd, astore, anil, aconv, asrc, aappend, amake, abuildSlice, abuild, afill, aslice, abnd, Value.cells, if_true, if_false, ite_true, ite_false, eq_self, ne_eq, reduceCtorEq, ↓reduceIte, ↓reduceDIte, Nat.reduceEqDiff, Nat.reduceAdd, Nat.reduceSub, Nat.reduceMul, Nat.reduceLeDiff, Nat.reduceLT, Int.reduceEq, Int.reduceLT, Int.reduceLE, Int.reduceToNat, Int.reduceAdd, Int.reduceNeg, Int.reduceSub, Int.reduceMul, Int.reduceNe, Nat.reduceBEq, Int.reduceBEq, tysXTokA_l6CloseS, ayield, Option.bind_some, Option.bind_none, t0, t5, t6, hkid, h6, hwm, hw2, Tok.c_take, Tok.c_len, Tok.c_all, Tok.c_head, Tok.c_d1, Tok.c_d2]) <;> exact rfl)); (with_reducible (first | refine vc_id ?_ | refine gqT ?_ | refine gqF ?_ | refine gqF' ?_ | refine gqU ?_ | refine iqT ?_ | refine iqF ?_)))
            | fail)
          (apply s_if; focus ((simp only [vsB, aev, absV, absS, upd_at, if_true, if_false, ite_true, ite_false, eq_self, ne_eq, reduceCtorEq, ↓reduceIte, ↓reduceDIte, Nat.reduceEqDiff, Nat.reduceAdd, Nat.reduceSub, Nat.reduceMul, Nat.reduceLeDiff, Nat.reduceLT, Int.reduceEq, Int.reduceLT, Int.reduceLE, Int.reduceToNat, Int.reduceAdd, Int.reduceNeg, Int.reduceSub, Int.reduceMul, Int.reduceNe, Nat.reduceBEq, Int.reduceBEq, t0, t5, t6]) <;> exact rfl))
          · intro h0
            rw [if_pos h0] at hE
            repeat (first
              | with_reducible refine VC.seq ?_
              | with_reducible refine VC.region ?_
              | with_reducible refine VC.opsNil ?_
              | with_reducible refine VC.block ?_
              | with_reducible refine VC.blk ?_
              | with_reducible refine VC.skip ?_
              | with_reducible refine VC.scope ?_
              | refine VC.exit rfl ?_
              | ((first | apply s_opS rfl | apply s_opN | apply s_gq rfl | apply s_iq); (focus ((simp only [vsA, vsB, aop, aev, absV, absS, upd_at, aload, rd, afieldAddr, afield, cur, abin, aarith, astr, aun, aindexAddr, aindex, aextract, alen, nv_upd, astore, anil, aconv, asrc, aappend, amake, abuildSlice, abuild, afill, aslice, abnd, Value.cells, if_true, if_false, ite_true, ite_false, eq_self, ne_eq, reduceCtorEq, ↓reduceIte, ↓reduceDIte, Nat.reduceEqDiff, Nat.reduceAdd, Nat.reduceSub, Nat.reduceMul, Nat.reduceLeDiff, Nat.reduceLT, Int.reduceEq, Int.reduceLT, Int.reduceLE, Int.reduceToNat, Int.reduceAdd, Int.reduceNeg, Int.reduceSub, Int.reduceMul, Int.reduceNe, Nat.reduceBEq, Int.reduceBEq, tysXTokA_l6CloseS, ayield, Option.bind_some, Option.bind_none, t0, t5, t6, hkid, h6, hwm, hw2, Tok.c_take, Tok.c_len, Tok.c_all, Tok.c_head, Tok.c_d1, Tok.c_d2]) <;> exact rfl)); (with_reducible (first | refine vc_id ?_ | refine gqT ?_ | refine gqF ?_ | refine gqF' ?_ | refine gqU ?_ | refine iqT ?_ | refine iqF ?_)))
              | fail)
            (first | apply VC.nil | apply VC.ret); (apply fin_flat (H0 := H); (focus ((simp only [vsA, vsB, aop, aev, absV, absS, upd_at, aload, rd, afieldAddr, afield, cur, abin, aarith, astr, aun, aindexAddr, aindex, aextract, alen, nv_upd, astore, anil, aconv, asrc, aappend, amake, abuildSlice, abuild, afill, aslice, abnd, Value.cells, if_true, if_false, ite_true, ite_false, eq_self, ne_eq, reduceCtorEq, ↓reduceIte, ↓reduceDIte, Nat.reduceEqDiff, Nat.reduceAdd, Nat.reduceSub, Nat.reduceMul, Nat.reduceLeDiff, Nat.reduceLT, Int.reduceEq, Int.reduceLT, Int.reduceLE, Int.reduceToNat, Int.reduceAdd, Int.reduceNeg, Int.reduceSub, Int.reduceMul, Int.reduceNe, Nat.reduceBEq, Int.reduceBEq, tysXTokA_l6CloseS, ares, aresL, ares1, Try.results118, t6]) <;> exact rfl)); (focus rfl); (focus ((try simp only [cutN_upd, cutN_upd0]); exact cutN_self hn)); (focus (first | exact hc | ((repeat (apply CloH_upd)); exact hc))))
            exact ⟨by rw [hE], rfl⟩
          · intro h0
            rw [if_neg h0] at hE
            repeat (first
              | with_reducible refine VC.seq ?_
              | with_reducible refine VC.region ?_
              | with_reducible refine VC.opsNil ?_
              | with_reducible refine VC.block ?_
              | with_reducible refine VC.blk ?_
              | with_reducible refine VC.skip ?_
              | with_reducible refine VC.scope ?_
              | refine VC.exit rfl ?_
              | ((first | apply s_opS rfl | apply s_opN | apply s_gq rfl | apply s_iq); (focus ((simp only [vsA, vsB, aop, aev, absV, absS, upd_at, aload, rd, afieldAddr, afield, cur, abin, aarith, astr, aun, aindexAddr, aindex, aextract, alen, nv_upd, astore, anil, aconv, asrc, aappend, amake, abuildSlice, abuild, afill, aslice, abnd, Value.cells, if_true, if_false, ite_true, ite_false, eq_self, ne_eq, reduceCtorEq, ↓reduceIte, ↓reduceDIte, Nat.reduceEqDiff, Nat.reduceAdd, Nat.reduceSub, Nat.reduceMul, Nat.reduceLeDiff, Nat.reduceLT, Int.reduceEq, Int.reduceLT, Int.reduceLE, Int.reduceToNat, Int.reduceAdd, Int.reduceNeg, Int.reduceSub, Int.reduceMul, Int.reduceNe, Nat.reduceBEq, Int.reduceBEq, tysXTokA_l6CloseS, ayield, Option.bind_some, Option.bind_none, t0, t5, t6, hkid, h6, hwm, hw2, Tok.c_take, Tok.c_len, Tok.c_all, Tok.c_head, Tok.c_d1, Tok.c_d2]) <;> exact rfl)); (with_reducible (first | refine vc_id ?_ | refine gqT ?_ | refine gqF ?_ | refine gqF' ?_ | refine gqU ?_ | refine iqT ?_ | refine iqF ?_)))
              | fail)
            refine VC.back ?_
            refine ⟨⟨k + 1, _, hlt', ?_, ?_, hE, ?_⟩, ?_⟩
            · omega
            · omega
            · (repeat' apply And.intro) <;> (first | rfl | assumption | omega | (simp only [upd_at, Nat.reduceEqDiff, if_true, if_false, and_self, ↓reduceIte, and_true, true_and, Nat.add_left_cancel_iff, Nat.add_eq_left, aint, t0]; done) | ((simp only [upd_at, Nat.reduceEqDiff, if_true, if_false, and_self, ↓reduceIte, and_true, true_and, Nat.add_left_cancel_iff, Nat.add_eq_left, aint, t0]) <;> (first | rfl | assumption | omega)) | (focus (repeat (first | exact Low.refl _ _ | assumption | apply low_upd | apply low_upd0)); done))
            · (repeat' apply And.intro) <;> (first | rfl | assumption | omega | (simp only [upd_at, Nat.reduceEqDiff, if_true, if_false, and_self, ↓reduceIte, and_true, true_and, Nat.add_left_cancel_iff, Nat.add_eq_left, aint, t6, Int.toNat_natCast]; done) | ((simp only [upd_at, Nat.reduceEqDiff, if_true, if_false, and_self, ↓reduceIte, and_true, true_and, Nat.add_left_cancel_iff, Nat.add_eq_left, aint, t6, Int.toNat_natCast]) <;> (first | rfl | assumption | omega)) | (focus (repeat (first | exact Low.refl _ _ | assumption | apply low_upd | apply low_upd0)); done))
        · rw [if_neg h6] at hE
          have h6' : decide (xs[k].kind = 6) = false := by simpa using h6
          repeat (first
            | with_reducible refine VC.seq ?_
            | with_reducible refine VC.region ?_
            | with_reducible refine VC.opsNil ?_
            | with_reducible refine VC.block ?_
            | with_reducible refine VC.blk ?_
            | with_reducible refine VC.skip ?_
            | with_reducible refine VC.scope ?_
            | refine VC.exit rfl ?_
            | ((first | apply s_opS rfl | apply s_opN | apply s_gq rfl | apply s_iq); (focus ((simp only [vsA, vsB, aop, aev, absV, absS, upd_at, aload, rd, afieldAddr, afield, cur, abin, aarith, astr, aun, aindexAddr, aindex, aextract, alen, nv_upd, astore, anil, aconv, asrc, aappend, amake, abuildSlice, abuild, afill, aslice, abnd, Value.cells, if_true, if_false, ite_true, ite_false, eq_self, ne_eq, reduceCtorEq, ↓reduceIte, ↓reduceDIte, Nat.reduceEqDiff, Nat.reduceAdd, Nat.reduceSub, Nat.reduceMul, Nat.reduceLeDiff, Nat.reduceLT, Int.reduceEq, Int.reduceLT, Int.reduceLE, Int.reduceToNat, Int.reduceAdd, Int.reduceNeg, Int.reduceSub, Int.reduceMul, Int.reduceNe, Nat.reduceBEq, Int.reduceBEq, tysXTokA_l6CloseS, ayield, Option.bind_some, Option.bind_none, t0, t5, t6, hkid, h5', h6', hw2, Tok.c_take, Tok.c_len, Tok.c_all, Tok.c_head, Tok.c_d1, Tok.c_d2]) <;> exact rfl)); (with_reducible (first | refine vc_id ?_ | refine gqT ?_ | refine gqF ?_ | refine gqF' ?_ | refine gqU ?_ | refine iqT ?_ | refine iqF ?_)))
            | fail)
          refine VC.back ?_
          refine ⟨⟨k + 1, _, hlt', ?_, ?_, hE, ?_⟩, ?_⟩
          · omega
          · omega
          · (repeat' apply And.intro) <;> (first | rfl | assumption | omega | (simp only [upd_at, Nat.reduceEqDiff, if_true, if_false, and_self, ↓reduceIte, and_true, true_and, Nat.add_left_cancel_iff, Nat.add_eq_left, aint, t0, t5]; done) | ((simp only [upd_at, Nat.reduceEqDiff, if_true, if_false, and_self, ↓reduceIte, and_true, true_and, Nat.add_left_cancel_iff, Nat.add_eq_left, aint, t0, t5]) <;> (first | rfl | assumption | omega)) | (focus (repeat (first | exact Low.refl _ _ | assumption | apply low_upd | apply low_upd0)); done))
          · (repeat' apply And.intro) <;> (first | rfl | assumption | omega | (simp only [upd_at, Nat.reduceEqDiff, if_true, if_false, and_self, ↓reduceIte, and_true, true_and, Nat.add_left_cancel_iff, Nat.add_eq_left, aint, t6, Int.toNat_natCast]; done) | ((simp only [upd_at, Nat.reduceEqDiff, if_true, if_false, and_self, ↓reduceIte, and_true, true_and, Nat.add_left_cancel_iff, Nat.add_eq_left, aint, t6, Int.toNat_natCast]) <;> (first | rfl | assumption | omega)) | (focus (repeat (first | exact Low.refl _ _ | assumption | apply low_upd | apply low_upd0)); done))
    · intro hlt
      have : k = xs.length := by omega
      subst this
      rw [List.drop_length, closF] at hE
      subst hE
      repeat (first
        | with_reducible refine VC.seq ?_
        | with_reducible refine VC.region ?_
        | with_reducible refine VC.opsNil ?_
        | with_reducible refine VC.block ?_
        | with_reducible refine VC.blk ?_
        | with_reducible refine VC.skip ?_
        | with_reducible refine VC.scope ?_
        | refine VC.exit rfl ?_
        | ((first | apply s_opS rfl | apply s_opN | apply s_gq rfl | apply s_iq); (focus ((simp only [vsA, vsB, aop, aev, absV, absS, upd_at, aload, rd, afieldAddr, afield, cur, abin, aarith, astr, aun, aindexAddr, aindex, aextract, alen, nv_upd, astore, anil, aconv, asrc, aappend, amake, abuildSlice, abuild, afill, aslice, abnd, Value.cells, if_true, if_false, ite_true, ite_false, eq_self, ne_eq, reduceCtorEq, ↓reduceIte, ↓reduceDIte, Nat.reduceEqDiff, Nat.reduceAdd, Nat.reduceSub, Nat.reduceMul, Nat.reduceLeDiff, Nat.reduceLT, Int.reduceEq, Int.reduceLT, Int.reduceLE, Int.reduceToNat, Int.reduceAdd, Int.reduceNeg, Int.reduceSub, Int.reduceMul, Int.reduceNe, Nat.reduceBEq, Int.reduceBEq, tysXTokA_l6CloseS, ayield, Option.bind_some, Option.bind_none, t0, t5, t6]) <;> exact rfl)); (with_reducible (first | refine vc_id ?_ | refine gqT ?_ | refine gqF ?_ | refine gqF' ?_ | refine gqU ?_ | refine iqT ?_ | refine iqF ?_)))
        | fail)
      (first | apply VC.nil | apply VC.ret); (apply fin_flat (H0 := H); (focus ((simp only [vsA, vsB, aop, aev, absV, absS, upd_at, aload, rd, afieldAddr, afield, cur, abin, aarith, astr, aun, aindexAddr, aindex, aextract, alen, nv_upd, astore, anil, aconv, asrc, aappend, amake, abuildSlice, abuild, afill, aslice, abnd, Value.cells, if_true, if_false, ite_true, ite_false, eq_self, ne_eq, reduceCtorEq, ↓reduceIte, ↓reduceDIte, Nat.reduceEqDiff, Nat.reduceAdd, Nat.reduceSub, Nat.reduceMul, Nat.reduceLeDiff, Nat.reduceLT, Int.reduceEq, Int.reduceLT, Int.reduceLE, Int.reduceToNat, Int.reduceAdd, Int.reduceNeg, Int.reduceSub, Int.reduceMul, Int.reduceNe, Nat.reduceBEq, Int.reduceBEq, tysXTokA_l6CloseS, ares, aresL, ares1, Try.results118, t6]) <;> exact rfl)); (focus rfl); (focus ((try simp only [cutN_upd, cutN_upd0]); exact cutN_self hn)); (focus (first | exact hc | ((repeat (apply CloH_upd)); exact hc))))
      exact ⟨rfl, rfl⟩
end Go.Proofs.Ytpdpmcllpafjbaa

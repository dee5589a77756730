/- Rows of numbers, and marks, by the new walk. -/
import Derived.Test.YtpdpmcllpafjbaaTokD
namespace Go.Proofs.Ytpdpmcllpafjbaa
open Go.RowKit
set_option linter.unusedVariables false
set_option linter.unusedSimpArgs false

def ints (zs : List Int) : List AV := zs.map (AV.i .i64)
def intsE (zs : List Int) : List (List AV) := zs.map fun z => [AV.i .i64 z]
theorem ints_flat (zs : List Int) : (intsE zs).flatten = ints zs := by
  induction zs with
  | nil => rfl
  | cons z zs ih =>
    have : intsE (z :: zs) = [AV.i .i64 z] :: intsE zs := rfl
    rw [this, List.flatten_cons, ih]; rfl
theorem ints_len (zs : List Int) : (ints zs).length = zs.length := by simp [ints]
theorem intsE_len (zs : List Int) : (intsE zs).length = zs.length := by simp [intsE]
theorem intsE_get (zs : List Int) (k : Nat) (h : k < zs.length) : (intsE zs)[k]? = some [AV.i .i64 zs[k]] := by simp [intsE, h]
theorem ints_isflat (zs : List Int) : ∀ (j : Nat) (h : j < (ints zs).length), (ints zs)[j].flat = true := fun j h => by simp [ints]; rfl
theorem ints_mf (zs : List Int) : ∀ (j : Nat) (h : j < (ints zs).length), MF (ints zs)[j] := fun j h => by simp only [ints, List.getElem_map]; exact .i _ _
theorem pub_ints {H : Hp} {b ver : Nat} {e : TypeId} {zs : List Int} (hb : H b = some ⟨ver, e, 1, ints zs⟩) : Pub H 0 (.os b ver zs.length) (.is 1 (intsE zs)) :=
  .os (blk := ⟨ver, e, 1, ints zs⟩) hb (Nat.zero_le _) rfl (show 0 < 1 by decide) (fun e he => by obtain ⟨d, _, rfl⟩ := List.mem_map.1 he; rfl) (intsE_len zs) (by rw [ints_len, Nat.mul_one]; exact Nat.le_refl _) fun j h1 h2 => by
    have e1 : (ints zs).take (zs.length * 1) = ints zs := List.take_of_length_le (by rw [ints_len]; omega)
    simp only [e1, ints_flat]
    exact .flat (ints_isflat zs j _)
theorem pub_a1 {H : Hp} {n : Nat} {a a' : AV} (h : Pub H n a a') : ∀ (j : Nat) (h1 : j < [a].length) (h2 : j < [a'].length), Pub H n [a][j] [a'][j] := fun j h1 _ => by
  match j, h1 with
  | 0, _ => exact h
theorem pub_a2 {H : Hp} {n : Nat} {a b a' b' : AV} (h : Pub H n a a') (k : Pub H n b b') : ∀ (j : Nat) (h1 : j < [a, b].length) (h2 : j < [a', b'].length), Pub H n [a, b][j] [a', b'][j] := fun j h1 _ => by
  match j, h1 with
  | 0, _ => exact h
  | 1, _ => exact k
theorem fin_keep {P : Program} {n : Nat} {ta : En} {H' : Hp} {rs : List ResultVar} {r : AV} {R : AV → Hp → Prop} (hr : ares P ta H' rs = some r) (hR : R r H') : ∃ r, ares P ta H' rs = some r ∧ Ret n r H' R := ⟨r, hr, .keep hR⟩

theorem take_eq_next {zs ys : List Int} {k : Nat} (h : zs.take k = ys.take k) (h1 : k < zs.length) (h2 : k < ys.length) (e : zs[k] = ys[k]) : zs.take (k + 1) = ys.take (k + 1) := by
  rw [List.take_succ_eq_append_getElem h1, List.take_succ_eq_append_getElem h2, h, e]

theorem tysXInts_eqIntSL : type_of% (And.intro ty_tg1 (And.intro ty_tg2 (And.intro ty_sz2 (And.intro ty_in2 (And.intro ty_tg3 (And.intro ty_sz3 (And.intro ty_in3 (And.intro ty_tg4 (And.intro ty_sz4 (And.intro ty_in4 (And.intro ty_tg5 (And.intro ty_sz5 (And.intro ty_in5 (And.intro ty_tg9 (And.intro ty_sz9 (And.intro ty_in9 (And.intro ty_tg18 (And.intro ty_sz18 (And.intro ty_in18 (And.intro ty_pl18 (And.intro ty_fd18_0 (And.intro ty_tg21 (And.intro ty_sz21 (And.intro ty_in21 (And.intro ty_tg22 (And.intro ty_sz22 (And.intro ty_in22 (And.intro ty_pl22 (And.intro ty_fd22_0 (And.intro ty_fd22_1 (And.intro ty_tg23 (And.intro ty_sz23 (And.intro ty_in23 (And.intro ty_pl23 (And.intro ty_fd23_0 (And.intro ty_fd23_1 (And.intro ty_tg24 (And.intro ty_tg25 (And.intro ty_sz25 (And.intro ty_in25 (And.intro ty_pl25 (And.intro ty_fd25_0 (And.intro ty_fd25_1 (And.intro ty_tg26 (And.intro ty_tg64 (And.intro ty_sz64 (And.intro ty_in64 (And.intro Try.underlying1 (And.intro Try.underlying2 (And.intro Try.underlying3 (And.intro Try.underlying4 (And.intro Try.underlying5 (And.intro Try.underlying6 (And.intro Try.underlying7 (And.intro Try.underlying9 (And.intro Try.underlying12 (And.intro Try.underlying13 (And.intro Try.underlying15 (And.intro Try.underlying16 (And.intro Try.underlying17 (And.intro Try.underlying18 (And.intro Try.underlying19 (And.intro Try.underlying21 (And.intro Try.underlying22 (And.intro Try.underlying23 (And.intro Try.underlying24 (And.intro Try.underlying25 (And.intro Try.underlying26 (Try.underlying64))))))))))))))))))))))))))))))))))))))))))))))))))))))))))))))))))))) := And.intro ty_tg1 (And.intro ty_tg2 (And.intro ty_sz2 (And.intro ty_in2 (And.intro ty_tg3 (And.intro ty_sz3 (And.intro ty_in3 (And.intro ty_tg4 (And.intro ty_sz4 (And.intro ty_in4 (And.intro ty_tg5 (And.intro ty_sz5 (And.intro ty_in5 (And.intro ty_tg9 (And.intro ty_sz9 (And.intro ty_in9 (And.intro ty_tg18 (And.intro ty_sz18 (And.intro ty_in18 (And.intro ty_pl18 (And.intro ty_fd18_0 (And.intro ty_tg21 (And.intro ty_sz21 (And.intro ty_in21 (And.intro ty_tg22 (And.intro ty_sz22 (And.intro ty_in22 (And.intro ty_pl22 (And.intro ty_fd22_0 (And.intro ty_fd22_1 (And.intro ty_tg23 (And.intro ty_sz23 (And.intro ty_in23 (And.intro ty_pl23 (And.intro ty_fd23_0 (And.intro ty_fd23_1 (And.intro ty_tg24 (And.intro ty_tg25 (And.intro ty_sz25 (And.intro ty_in25 (And.intro ty_pl25 (And.intro ty_fd25_0 (And.intro ty_fd25_1 (And.intro ty_tg26 (And.intro ty_tg64 (And.intro ty_sz64 (And.intro ty_in64 (And.intro Try.underlying1 (And.intro Try.underlying2 (And.intro Try.underlying3 (And.intro Try.underlying4 (And.intro Try.underlying5 (And.intro Try.underlying6 (And.intro Try.underlying7 (And.intro Try.underlying9 (And.intro Try.underlying12 (And.intro Try.underlying13 (And.intro Try.underlying15 (And.intro Try.underlying16 (And.intro Try.underlying17 (And.intro Try.underlying18 (And.intro Try.underlying19 (And.intro Try.underlying21 (And.intro Try.underlying22 (And.intro Try.underlying23 (And.intro Try.underlying24 (And.intro Try.underlying25 (And.intro Try.underlying26 (Try.underlying64))))))))))))))))))))))))))))))))))))))))))))))))))))))))))))))))))))
set_option maxHeartbeats 1000000 in
theorem aL_eqIntS (zs ys : List Int) (hz : zs.length ≤ 1000000000) (hy : ys.length ≤ 1000000000) (H : Hp) : ACalls Try.prog 43 [.is 1 (intsE zs), .is 1 (intsE ys)] H (fun r H' => r = .b (decide (zs = ys)) ∧ H' = H) := by
  have l1 := intsE_len zs
  have l2 := intsE_len ys
  refine ACalls.intro Try.func43 (by kernel_rfl) rfl (Nat.le_of_ble_eq_true rfl) fun n hn hc => ?_; have hS : ∀ k, H (n + k) = none := fun k => hn (n + k) (by omega); have hS0 : H n = none := hn n (Nat.le_refl _); have hN : ∀ k, nv H (n + k) = 0 := fun k => nv_none (hS k); (try (first | rw [ienv1] | rw [ienv2] | rw [ienv3] | rw [ienv4]))
  by_cases hl : zs.length = ys.length
  · have hl' : decide (zs.length = ys.length) = true := by simpa using hl
    have hl2 : decide ((zs.length : Int) = (ys.length : Int)) = true := by simp [hl]
    repeat (first
      | with_reducible refine VC.seq ?_
      | with_reducible refine VC.region ?_
      | with_reducible refine VC.opsNil ?_
      | with_reducible refine VC.block ?_
      | with_reducible refine VC.blk ?_
      | with_reducible refine VC.skip ?_
      | with_reducible refine VC.scope ?_
      | refine VC.exit rfl ?_
      | ((first | apply s_opS rfl | apply s_opN | apply s_gq rfl | apply s_iq); (focus ((simp only [vsA, vsB, aop, aev, absV, absS, upd_at, aload, rd, afieldAddr, afield, cur, abin, aarith, astr, aun, aindexAddr, aindex, aextract, alen, nv_upd, astore, anil, aconv, asrc, aappend, amake, abuildSlice, abuild, afill, aslice, abnd, Value.cells, if_true, if_false, ite_true, ite_false, eq_self, ne_eq, reduceCtorEq, ↓reduceIte, ↓reduceDIte, Nat.reduceEqDiff, Nat.reduceAdd, Nat.reduceSub, Nat.reduceMul, Nat.reduceLeDiff, Nat.reduceLT, Int.reduceEq, Int.reduceLT, Int.reduceLE, Int.reduceToNat, Int.reduceAdd, Int.reduceNeg, Int.reduceSub, Int.reduceMul, Int.reduceNe, Nat.reduceBEq, Int.reduceBEq, tysXInts_eqIntSL, ayield, Option.bind_some, Option.bind_none, hS, hN, l1, l2, hl2]) <;> exact rfl)); (with_reducible (first | refine vc_id ?_ | refine gqT ?_ | refine gqF ?_ | refine gqF' ?_ | refine gqU ?_ | refine iqT ?_ | refine iqF ?_)))
      | fail)
    refine VC.loop (fun ta H' => ∃ (k : Nat), k ≤ zs.length ∧ zs.take k = ys.take k ∧ ta 0 = .is 1 (intsE zs) ∧ ta 1 = .is 1 (intsE ys) ∧ ta 5 = .i .i64 k ∧ H' = H) (fun ta _ => zs.length - (aint (ta 5)).toNat) ?_ ?_
    · refine ⟨0, by omega, rfl, ?_⟩
      (repeat' apply And.intro) <;> (first | rfl | assumption | omega | (simp only [upd_at, Nat.reduceEqDiff, if_true, if_false, and_self, ↓reduceIte, and_true, true_and, Nat.add_left_cancel_iff, Nat.add_eq_left, aint, if_true]; done) | ((simp only [upd_at, Nat.reduceEqDiff, if_true, if_false, and_self, ↓reduceIte, and_true, true_and, Nat.add_left_cancel_iff, Nat.add_eq_left, aint, if_true]) <;> (first | rfl | assumption | omega)) | (focus (repeat (first | exact Low.refl _ _ | assumption | apply low_upd | apply low_upd0)); done))
    · rintro ta H1 ⟨k, hk, hE, t0, t1, t5, hH⟩
      obtain rfl := hH.symm
      repeat (first
        | with_reducible refine VC.seq ?_
        | with_reducible refine VC.region ?_
        | with_reducible refine VC.opsNil ?_
        | with_reducible refine VC.block ?_
        | with_reducible refine VC.blk ?_
        | with_reducible refine VC.skip ?_
        | with_reducible refine VC.scope ?_
        | refine VC.exit rfl ?_
        | ((first | apply s_opS rfl | apply s_opN | apply s_gq rfl | apply s_iq); (focus ((simp only [vsA, vsB, aop, aev, absV, absS, upd_at, aload, rd, afieldAddr, afield, cur, abin, aarith, astr, aun, aindexAddr, aindex, aextract, alen, nv_upd, astore, anil, aconv, asrc, aappend, amake, abuildSlice, abuild, afill, aslice, abnd, Value.cells, if_true, if_false, ite_true, ite_false, eq_self, ne_eq, reduceCtorEq, ↓reduceIte, ↓reduceDIte, Nat.reduceEqDiff, Nat.reduceAdd, Nat.reduceSub, Nat.reduceMul, Nat.reduceLeDiff, Nat.reduceLT, Int.reduceEq, Int.reduceLT, Int.reduceLE, Int.reduceToNat, Int.reduceAdd, Int.reduceNeg, Int.reduceSub, Int.reduceMul, Int.reduceNe, Nat.reduceBEq, Int.reduceBEq, tysXInts_eqIntSL, ayield, Option.bind_some, Option.bind_none, t0, t1, t5, l1, l2]) <;> exact rfl)); (with_reducible (first | refine vc_id ?_ | refine gqT ?_ | refine gqF ?_ | refine gqF' ?_ | refine gqU ?_ | refine iqT ?_ | refine iqF ?_)))
        | fail)
      (apply s_if; focus ((simp only [vsB, aev, absV, absS, upd_at, if_true, if_false, ite_true, ite_false, eq_self, ne_eq, reduceCtorEq, ↓reduceIte, ↓reduceDIte, Nat.reduceEqDiff, Nat.reduceAdd, Nat.reduceSub, Nat.reduceMul, Nat.reduceLeDiff, Nat.reduceLT, Int.reduceEq, Int.reduceLT, Int.reduceLE, Int.reduceToNat, Int.reduceAdd, Int.reduceNeg, Int.reduceSub, Int.reduceMul, Int.reduceNe, Nat.reduceBEq, Int.reduceBEq, t0, t1, t5, l1, l2]) <;> exact rfl))
      · intro hlt
        have hk1 : k < zs.length := by omega
        have hk2 : k < ys.length := by omega
        have g1 := intsE_get zs k hk1
        have g2 := intsE_get ys k hk2
        have hw2 := wrapN (k := k) (by omega)
        have hm : zs.length - (k + 1) < zs.length - k := by omega
        repeat (first
          | with_reducible refine VC.seq ?_
          | with_reducible refine VC.region ?_
          | with_reducible refine VC.opsNil ?_
          | with_reducible refine VC.block ?_
          | with_reducible refine VC.blk ?_
          | with_reducible refine VC.skip ?_
          | with_reducible refine VC.scope ?_
          | refine VC.exit rfl ?_
          | ((first | apply s_opS rfl | apply s_opN | apply s_gq rfl | apply s_iq); (focus ((simp only [vsA, vsB, aop, aev, absV, absS, upd_at, aload, rd, afieldAddr, afield, cur, abin, aarith, astr, aun, aindexAddr, aindex, aextract, alen, nv_upd, astore, anil, aconv, asrc, aappend, amake, abuildSlice, abuild, afill, aslice, abnd, Value.cells, if_true, if_false, ite_true, ite_false, eq_self, ne_eq, reduceCtorEq, ↓reduceIte, ↓reduceDIte, Nat.reduceEqDiff, Nat.reduceAdd, Nat.reduceSub, Nat.reduceMul, Nat.reduceLeDiff, Nat.reduceLT, Int.reduceEq, Int.reduceLT, Int.reduceLE, Int.reduceToNat, Int.reduceAdd, Int.reduceNeg, Int.reduceSub, Int.reduceMul, Int.reduceNe, Nat.reduceBEq, Int.reduceBEq, tysXInts_eqIntSL, ayield, Option.bind_some, Option.bind_none, t0, t1, t5, g1, g2]) <;> exact rfl)); (with_reducible (first | refine vc_id ?_ | refine gqT ?_ | refine gqF ?_ | refine gqF' ?_ | refine gqU ?_ | refine iqT ?_ | refine iqF ?_)))
          | fail)
        apply s_drawn (U := []) mixedO (by kernel_rfl) (by kernel_rfl) (by kernel_rfl)
        focus (repeat (first
          | (apply rr_op rfl; (focus ((simp only [vsA, vsB, aop, aev, absV, absS, upd_at, aload, rd, afieldAddr, afield, cur, abin, aarith, astr, aun, aindexAddr, aindex, aextract, alen, nv_upd, astore, anil, aconv, asrc, aappend, amake, abuildSlice, abuild, afill, aslice, abnd, Value.cells, if_true, if_false, ite_true, ite_false, eq_self, ne_eq, reduceCtorEq, ↓reduceIte, ↓reduceDIte, Nat.reduceEqDiff, Nat.reduceAdd, Nat.reduceSub, Nat.reduceMul, Nat.reduceLeDiff, Nat.reduceLT, Int.reduceEq, Int.reduceLT, Int.reduceLE, Int.reduceToNat, Int.reduceAdd, Int.reduceNeg, Int.reduceSub, Int.reduceMul, Int.reduceNe, Nat.reduceBEq, Int.reduceBEq, tysXInts_eqIntSL, t0, t1, t5, g1, g2]) <;> exact rfl)); (focus (exact rfl)); (focus (exact rfl)))
          | (apply rr_opN; (focus ((simp only [vsA, vsB, aop, aev, absV, absS, upd_at, aload, rd, afieldAddr, afield, cur, abin, aarith, astr, aun, aindexAddr, aindex, aextract, alen, nv_upd, astore, anil, aconv, asrc, aappend, amake, abuildSlice, abuild, afill, aslice, abnd, Value.cells, if_true, if_false, ite_true, ite_false, eq_self, ne_eq, reduceCtorEq, ↓reduceIte, ↓reduceDIte, Nat.reduceEqDiff, Nat.reduceAdd, Nat.reduceSub, Nat.reduceMul, Nat.reduceLeDiff, Nat.reduceLT, Int.reduceEq, Int.reduceLT, Int.reduceLE, Int.reduceToNat, Int.reduceAdd, Int.reduceNeg, Int.reduceSub, Int.reduceMul, Int.reduceNe, Nat.reduceBEq, Int.reduceBEq, tysXInts_eqIntSL, t0, t1, t5, g1, g2]) <;> exact rfl)); (focus (exact rfl)); (focus (exact rfl)))
          | (apply rr_skipT rfl; (focus ((simp only [vsA, vsB, aop, aev, absV, absS, upd_at, aload, rd, afieldAddr, afield, cur, abin, aarith, astr, aun, aindexAddr, aindex, aextract, alen, nv_upd, astore, anil, aconv, asrc, aappend, amake, abuildSlice, abuild, afill, aslice, abnd, Value.cells, if_true, if_false, ite_true, ite_false, eq_self, ne_eq, reduceCtorEq, ↓reduceIte, ↓reduceDIte, Nat.reduceEqDiff, Nat.reduceAdd, Nat.reduceSub, Nat.reduceMul, Nat.reduceLeDiff, Nat.reduceLT, Int.reduceEq, Int.reduceLT, Int.reduceLE, Int.reduceToNat, Int.reduceAdd, Int.reduceNeg, Int.reduceSub, Int.reduceMul, Int.reduceNe, Nat.reduceBEq, Int.reduceBEq, tysXInts_eqIntSL, ayield, Option.bind_some, Option.bind_none, t0, t1, t5, g1, g2]) <;> done)))
          | (apply rr_skipF rfl; (focus ((simp only [vsA, vsB, aop, aev, absV, absS, upd_at, aload, rd, afieldAddr, afield, cur, abin, aarith, astr, aun, aindexAddr, aindex, aextract, alen, nv_upd, astore, anil, aconv, asrc, aappend, amake, abuildSlice, abuild, afill, aslice, abnd, Value.cells, if_true, if_false, ite_true, ite_false, eq_self, ne_eq, reduceCtorEq, ↓reduceIte, ↓reduceDIte, Nat.reduceEqDiff, Nat.reduceAdd, Nat.reduceSub, Nat.reduceMul, Nat.reduceLeDiff, Nat.reduceLT, Int.reduceEq, Int.reduceLT, Int.reduceLE, Int.reduceToNat, Int.reduceAdd, Int.reduceNeg, Int.reduceSub, Int.reduceMul, Int.reduceNe, Nat.reduceBEq, Int.reduceBEq, tysXInts_eqIntSL, ayield, Option.bind_some, Option.bind_none, t0, t1, t5, g1, g2]) <;> done)))
          | (apply rr_skipU rfl; (focus ((simp only [vsA, vsB, aop, aev, absV, absS, upd_at, aload, rd, afieldAddr, afield, cur, abin, aarith, astr, aun, aindexAddr, aindex, aextract, alen, nv_upd, astore, anil, aconv, asrc, aappend, amake, abuildSlice, abuild, afill, aslice, abnd, Value.cells, if_true, if_false, ite_true, ite_false, eq_self, ne_eq, reduceCtorEq, ↓reduceIte, ↓reduceDIte, Nat.reduceEqDiff, Nat.reduceAdd, Nat.reduceSub, Nat.reduceMul, Nat.reduceLeDiff, Nat.reduceLT, Int.reduceEq, Int.reduceLT, Int.reduceLE, Int.reduceToNat, Int.reduceAdd, Int.reduceNeg, Int.reduceSub, Int.reduceMul, Int.reduceNe, Nat.reduceBEq, Int.reduceBEq, tysXInts_eqIntSL, ayield, Option.bind_some, Option.bind_none, t0, t1, t5, g1, g2]) <;> done)))
          | (apply rr_opG rfl; (focus ((simp only [vsA, vsB, aop, aev, absV, absS, upd_at, aload, rd, afieldAddr, afield, cur, abin, aarith, astr, aun, aindexAddr, aindex, aextract, alen, nv_upd, astore, anil, aconv, asrc, aappend, amake, abuildSlice, abuild, afill, aslice, abnd, Value.cells, if_true, if_false, ite_true, ite_false, eq_self, ne_eq, reduceCtorEq, ↓reduceIte, ↓reduceDIte, Nat.reduceEqDiff, Nat.reduceAdd, Nat.reduceSub, Nat.reduceMul, Nat.reduceLeDiff, Nat.reduceLT, Int.reduceEq, Int.reduceLT, Int.reduceLE, Int.reduceToNat, Int.reduceAdd, Int.reduceNeg, Int.reduceSub, Int.reduceMul, Int.reduceNe, Nat.reduceBEq, Int.reduceBEq, tysXInts_eqIntSL, ayield, Option.bind_some, Option.bind_none, t0, t1, t5, g1, g2]) <;> done)); (focus ((simp only [vsA, vsB, aop, aev, absV, absS, upd_at, aload, rd, afieldAddr, afield, cur, abin, aarith, astr, aun, aindexAddr, aindex, aextract, alen, nv_upd, astore, anil, aconv, asrc, aappend, amake, abuildSlice, abuild, afill, aslice, abnd, Value.cells, if_true, if_false, ite_true, ite_false, eq_self, ne_eq, reduceCtorEq, ↓reduceIte, ↓reduceDIte, Nat.reduceEqDiff, Nat.reduceAdd, Nat.reduceSub, Nat.reduceMul, Nat.reduceLeDiff, Nat.reduceLT, Int.reduceEq, Int.reduceLT, Int.reduceLE, Int.reduceToNat, Int.reduceAdd, Int.reduceNeg, Int.reduceSub, Int.reduceMul, Int.reduceNe, Nat.reduceBEq, Int.reduceBEq, tysXInts_eqIntSL, t0, t1, t5, g1, g2]) <;> exact rfl)); (focus (exact rfl)); (focus (exact rfl)))
          | exact RR.nil
          | fail))
        focus (simp only [List.forall_mem_cons, List.not_mem_nil, false_implies, implies_true, List.getD_cons_zero, List.getD_cons_succ, List.mem_cons, List.not_mem_nil, or_false, forall_eq, forall_eq_or_imp, and_true, true_and, not_or, not_false_eq_true, Nat.add_left_cancel_iff, Nat.add_eq_left, Nat.reduceEqDiff, Nat.add_right_cancel_iff, Nat.left_eq_add, and_self, acc, wr, keysOf, keys1, Op.operands, Call.operands, List.flatMap_cons, List.flatMap_nil, Array.toList_append, Option.toArray_none, Option.toArray_some, Array.append_assoc, Array.empty_append, Array.append_empty, List.map_toArray, List.append_toArray, vsA, vsB, aop, aev, absV, absS, upd_at, aload, rd, afieldAddr, afield, cur, abin, aarith, astr, aun, aindexAddr, aindex, aextract, alen, nv_upd, astore, anil, aconv, asrc, aappend, amake, abuildSlice, abuild, afill, aslice, abnd, Value.cells, if_true, if_false, ite_true, ite_false, eq_self, ne_eq, reduceCtorEq, ↓reduceIte, ↓reduceDIte, Nat.reduceEqDiff, Nat.reduceAdd, Nat.reduceSub, Nat.reduceMul, Nat.reduceLeDiff, Nat.reduceLT, Int.reduceEq, Int.reduceLT, Int.reduceLE, Int.reduceToNat, Int.reduceAdd, Int.reduceNeg, Int.reduceSub, Int.reduceMul, Int.reduceNe, Nat.reduceBEq, Int.reduceBEq, tysXInts_eqIntSL, t0, t1, t5, g1, g2] <;> (try omega))
        by_cases he : zs[k] = ys[k]
        · have he' : decide (zs[k] = ys[k]) = true := by simpa using he
          repeat (first
            | with_reducible refine VC.seq ?_
            | with_reducible refine VC.region ?_
            | with_reducible refine VC.opsNil ?_
            | with_reducible refine VC.block ?_
            | with_reducible refine VC.blk ?_
            | with_reducible refine VC.skip ?_
            | with_reducible refine VC.scope ?_
            | refine VC.exit rfl ?_
            | ((first | apply s_opS rfl | apply s_opN | apply s_gq rfl | apply s_iq); (focus ((simp only [vsA, vsB, aop, aev, absV, absS, upd_at, aload, rd, afieldAddr, afield, cur, abin, aarith, astr, aun, aindexAddr, aindex, aextract, alen, nv_upd, astore, anil, aconv, asrc, aappend, amake, abuildSlice, abuild, afill, aslice, abnd, Value.cells, if_true, if_false, ite_true, ite_false, eq_self, ne_eq, reduceCtorEq, ↓reduceIte, ↓reduceDIte, Nat.reduceEqDiff, Nat.reduceAdd, Nat.reduceSub, Nat.reduceMul, Nat.reduceLeDiff, Nat.reduceLT, Int.reduceEq, Int.reduceLT, Int.reduceLE, Int.reduceToNat, Int.reduceAdd, Int.reduceNeg, Int.reduceSub, Int.reduceMul, Int.reduceNe, Nat.reduceBEq, Int.reduceBEq, tysXInts_eqIntSL, ayield, Option.bind_some, Option.bind_none, t0, t1, t5, he', hw2]) <;> exact rfl)); (with_reducible (first | refine vc_id ?_ | refine gqT ?_ | refine gqF ?_ | refine gqF' ?_ | refine gqU ?_ | refine iqT ?_ | refine iqF ?_)))
            | fail)
          refine VC.back ?_
          refine ⟨⟨k + 1, hk1, take_eq_next hE hk1 hk2 he, ?_⟩, ?_⟩
          · (repeat' apply And.intro) <;> (first | rfl | assumption | omega | (simp only [upd_at, Nat.reduceEqDiff, if_true, if_false, and_self, ↓reduceIte, and_true, true_and, Nat.add_left_cancel_iff, Nat.add_eq_left, aint, t0, t1]; done) | ((simp only [upd_at, Nat.reduceEqDiff, if_true, if_false, and_self, ↓reduceIte, and_true, true_and, Nat.add_left_cancel_iff, Nat.add_eq_left, aint, t0, t1]) <;> (first | rfl | assumption | omega)) | (focus (repeat (first | exact Low.refl _ _ | assumption | apply low_upd | apply low_upd0)); done))
          · (repeat' apply And.intro) <;> (first | rfl | assumption | omega | (simp only [upd_at, Nat.reduceEqDiff, if_true, if_false, and_self, ↓reduceIte, and_true, true_and, Nat.add_left_cancel_iff, Nat.add_eq_left, aint, t5, Int.toNat_natCast]; done) | ((simp only [upd_at, Nat.reduceEqDiff, if_true, if_false, and_self, ↓reduceIte, and_true, true_and, Nat.add_left_cancel_iff, Nat.add_eq_left, aint, t5, Int.toNat_natCast]) <;> (first | rfl | assumption | omega)) | (focus (repeat (first | exact Low.refl _ _ | assumption | apply low_upd | apply low_upd0)); done))
        · have he' : decide (zs[k] = ys[k]) = false := by simpa using he
          repeat (first
            | with_reducible refine VC.seq ?_
            | with_reducible refine VC.region ?_
            | with_reducible refine VC.opsNil ?_
            | with_reducible refine VC.block ?_
            | with_reducible refine VC.blk ?_
            | with_reducible refine VC.skip ?_
            | with_reducible refine VC.scope ?_
            | refine VC.exit rfl ?_
            | ((first | apply s_opS rfl | apply s_opN | apply s_gq rfl | apply s_iq); (focus ((simp only [vsA, vsB, aop, aev, absV, absS, upd_at, aload, rd, afieldAddr, afield, cur, abin, aarith, astr, aun, aindexAddr, aindex, aextract, alen, nv_upd, astore, anil, aconv, asrc, aappend, amake, abuildSlice, abuild, afill, aslice, abnd, Value.cells, if_true, if_false, ite_true, ite_false, eq_self, ne_eq, reduceCtorEq, ↓reduceIte, ↓reduceDIte, Nat.reduceEqDiff, Nat.reduceAdd, Nat.reduceSub, Nat.reduceMul, Nat.reduceLeDiff, Nat.reduceLT, Int.reduceEq, Int.reduceLT, Int.reduceLE, Int.reduceToNat, Int.reduceAdd, Int.reduceNeg, Int.reduceSub, Int.reduceMul, Int.reduceNe, Nat.reduceBEq, Int.reduceBEq, tysXInts_eqIntSL, ayield, Option.bind_some, Option.bind_none, t0, t1, t5, he']) <;> exact rfl)); (with_reducible (first | refine vc_id ?_ | refine gqT ?_ | refine gqF ?_ | refine gqF' ?_ | refine gqU ?_ | refine iqT ?_ | refine iqF ?_)))
            | fail)
          (first | apply VC.nil | apply VC.ret); (apply fin_flat (H0 := H); (focus ((simp only [vsA, vsB, aop, aev, absV, absS, upd_at, aload, rd, afieldAddr, afield, cur, abin, aarith, astr, aun, aindexAddr, aindex, aextract, alen, nv_upd, astore, anil, aconv, asrc, aappend, amake, abuildSlice, abuild, afill, aslice, abnd, Value.cells, if_true, if_false, ite_true, ite_false, eq_self, ne_eq, reduceCtorEq, ↓reduceIte, ↓reduceDIte, Nat.reduceEqDiff, Nat.reduceAdd, Nat.reduceSub, Nat.reduceMul, Nat.reduceLeDiff, Nat.reduceLT, Int.reduceEq, Int.reduceLT, Int.reduceLE, Int.reduceToNat, Int.reduceAdd, Int.reduceNeg, Int.reduceSub, Int.reduceMul, Int.reduceNe, Nat.reduceBEq, Int.reduceBEq, tysXInts_eqIntSL, ares, aresL, ares1, Try.results43, if_true]) <;> exact rfl)); (focus rfl); (focus ((try simp only [cutN_upd, cutN_upd0]); exact cutN_self hn)); (focus (first | exact hc | ((repeat (apply CloH_upd)); exact hc))))
          refine ⟨?_, rfl⟩
          rw [decide_eq_false (fun e => he (by subst e; rfl))]
      · intro hlt
        have hkl : k = zs.length := by omega
        subst hkl
        repeat (first
          | with_reducible refine VC.seq ?_
          | with_reducible refine VC.region ?_
          | with_reducible refine VC.opsNil ?_
          | with_reducible refine VC.block ?_
          | with_reducible refine VC.blk ?_
          | with_reducible refine VC.skip ?_
          | with_reducible refine VC.scope ?_
          | refine VC.exit rfl ?_
          | ((first | apply s_opS rfl | apply s_opN | apply s_gq rfl | apply s_iq); (focus ((simp only [vsA, vsB, aop, aev, absV, absS, upd_at, aload, rd, afieldAddr, afield, cur, abin, aarith, astr, aun, aindexAddr, aindex, aextract, alen, nv_upd, astore, anil, aconv, asrc, aappend, amake, abuildSlice, abuild, afill, aslice, abnd, Value.cells, if_true, if_false, ite_true, ite_false, eq_self, ne_eq, reduceCtorEq, ↓reduceIte, ↓reduceDIte, Nat.reduceEqDiff, Nat.reduceAdd, Nat.reduceSub, Nat.reduceMul, Nat.reduceLeDiff, Nat.reduceLT, Int.reduceEq, Int.reduceLT, Int.reduceLE, Int.reduceToNat, Int.reduceAdd, Int.reduceNeg, Int.reduceSub, Int.reduceMul, Int.reduceNe, Nat.reduceBEq, Int.reduceBEq, tysXInts_eqIntSL, ayield, Option.bind_some, Option.bind_none, t0, t1, t5, l1, l2]) <;> exact rfl)); (with_reducible (first | refine vc_id ?_ | refine gqT ?_ | refine gqF ?_ | refine gqF' ?_ | refine gqU ?_ | refine iqT ?_ | refine iqF ?_)))
          | fail)
        (first | apply VC.nil | apply VC.ret); (apply fin_flat (H0 := H); (focus ((simp only [vsA, vsB, aop, aev, absV, absS, upd_at, aload, rd, afieldAddr, afield, cur, abin, aarith, astr, aun, aindexAddr, aindex, aextract, alen, nv_upd, astore, anil, aconv, asrc, aappend, amake, abuildSlice, abuild, afill, aslice, abnd, Value.cells, if_true, if_false, ite_true, ite_false, eq_self, ne_eq, reduceCtorEq, ↓reduceIte, ↓reduceDIte, Nat.reduceEqDiff, Nat.reduceAdd, Nat.reduceSub, Nat.reduceMul, Nat.reduceLeDiff, Nat.reduceLT, Int.reduceEq, Int.reduceLT, Int.reduceLE, Int.reduceToNat, Int.reduceAdd, Int.reduceNeg, Int.reduceSub, Int.reduceMul, Int.reduceNe, Nat.reduceBEq, Int.reduceBEq, tysXInts_eqIntSL, ares, aresL, ares1, Try.results43, if_true]) <;> exact rfl)); (focus rfl); (focus ((try simp only [cutN_upd, cutN_upd0]); exact cutN_self hn)); (focus (first | exact hc | ((repeat (apply CloH_upd)); exact hc))))
        refine ⟨?_, rfl⟩
        rw [List.take_length, hl, List.take_length] at hE
        rw [decide_eq_true hE]
  · have hl2 : decide ((zs.length : Int) = (ys.length : Int)) = false := by simpa using fun h => hl (by omega)
    repeat (first
      | with_reducible refine VC.seq ?_
      | with_reducible refine VC.region ?_
      | with_reducible refine VC.opsNil ?_
      | with_reducible refine VC.block ?_
      | with_reducible refine VC.blk ?_
      | with_reducible refine VC.skip ?_
      | with_reducible refine VC.scope ?_
      | refine VC.exit rfl ?_
      | ((first | apply s_opS rfl | apply s_opN | apply s_gq rfl | apply s_iq); (focus ((simp only [vsA, vsB, aop, aev, absV, absS, upd_at, aload, rd, afieldAddr, afield, cur, abin, aarith, astr, aun, aindexAddr, aindex, aextract, alen, nv_upd, astore, anil, aconv, asrc, aappend, amake, abuildSlice, abuild, afill, aslice, abnd, Value.cells, if_true, if_false, ite_true, ite_false, eq_self, ne_eq, reduceCtorEq, ↓reduceIte, ↓reduceDIte, Nat.reduceEqDiff, Nat.reduceAdd, Nat.reduceSub, Nat.reduceMul, Nat.reduceLeDiff, Nat.reduceLT, Int.reduceEq, Int.reduceLT, Int.reduceLE, Int.reduceToNat, Int.reduceAdd, Int.reduceNeg, Int.reduceSub, Int.reduceMul, Int.reduceNe, Nat.reduceBEq, Int.reduceBEq, tysXInts_eqIntSL, ayield, Option.bind_some, Option.bind_none, hS, hN, l1, l2, hl2]) <;> exact rfl)); (with_reducible (first | refine vc_id ?_ | refine gqT ?_ | refine gqF ?_ | refine gqF' ?_ | refine gqU ?_ | refine iqT ?_ | refine iqF ?_)))
      | fail)
    (first | apply VC.nil | apply VC.ret); (apply fin_flat (H0 := H); (focus ((simp only [vsA, vsB, aop, aev, absV, absS, upd_at, aload, rd, afieldAddr, afield, cur, abin, aarith, astr, aun, aindexAddr, aindex, aextract, alen, nv_upd, astore, anil, aconv, asrc, aappend, amake, abuildSlice, abuild, afill, aslice, abnd, Value.cells, if_true, if_false, ite_true, ite_false, eq_self, ne_eq, reduceCtorEq, ↓reduceIte, ↓reduceDIte, Nat.reduceEqDiff, Nat.reduceAdd, Nat.reduceSub, Nat.reduceMul, Nat.reduceLeDiff, Nat.reduceLT, Int.reduceEq, Int.reduceLT, Int.reduceLE, Int.reduceToNat, Int.reduceAdd, Int.reduceNeg, Int.reduceSub, Int.reduceMul, Int.reduceNe, Nat.reduceBEq, Int.reduceBEq, tysXInts_eqIntSL, ares, aresL, ares1, Try.results43, if_true]) <;> exact rfl)); (focus rfl); (focus ((try simp only [cutN_upd, cutN_upd0]); exact cutN_self hn)); (focus (first | exact hc | ((repeat (apply CloH_upd)); exact hc))))
    refine ⟨?_, rfl⟩
    rw [decide_eq_false (fun e => hl (by rw [e]))]

theorem aL_eqIntS' (zs ys : List Int) (hz : zs.length ≤ 1000000000) (hy : ys.length ≤ 1000000000) {H : Hp} {a b : AV} {n : Nat} (pa : Pub H 0 a (.is 1 (intsE zs))) (pb : Pub H 0 b (.is 1 (intsE ys))) (hn : Sup n H) :
    ACalls Try.prog 43 [a, b] H (fun r H' => r = .b (decide (zs = ys)) ∧ H' = H) := .lendV (args' := [.is 1 (intsE zs), .is 1 (intsE ys)]) rfl (pub_a2 pa pb) (aL_eqIntS zs ys hz hy _) hn (.b _)

/-- Marks from s on. -/
def marks (s : Int) (len : Nat) : List Int := (List.range len).map fun (j : Nat) => s + (j : Int)
theorem marks_len (s : Int) (len : Nat) : (marks s len).length = len := by simp [marks]
theorem marks_get (s : Int) (len k : Nat) (h : k < (marks s len).length) : (marks s len)[k] = s + k := by simp [marks]
theorem marks_succ (s : Int) (k : Nat) : marks s (k + 1) = marks s k ++ [s + k] := by simp [marks, List.range_succ]
theorem ints_snoc (zs : List Int) (z : Int) : ints (zs ++ [z]) = ints zs ++ [.i .i64 z] := by simp [ints]

theorem tysXInts_heldIntSL : type_of% (And.intro ty_tg1 (And.intro ty_tg2 (And.intro ty_sz2 (And.intro ty_in2 (And.intro ty_tg3 (And.intro ty_sz3 (And.intro ty_in3 (And.intro ty_tg4 (And.intro ty_sz4 (And.intro ty_in4 (And.intro ty_tg5 (And.intro ty_sz5 (And.intro ty_in5 (And.intro ty_tg9 (And.intro ty_sz9 (And.intro ty_in9 (And.intro ty_tg18 (And.intro ty_sz18 (And.intro ty_in18 (And.intro ty_pl18 (And.intro ty_fd18_0 (And.intro ty_tg21 (And.intro ty_sz21 (And.intro ty_in21 (And.intro ty_tg64 (And.intro ty_sz64 (And.intro ty_in64 (And.intro Try.underlying1 (And.intro Try.underlying2 (And.intro Try.underlying3 (And.intro Try.underlying4 (And.intro Try.underlying5 (And.intro Try.underlying6 (And.intro Try.underlying7 (And.intro Try.underlying9 (And.intro Try.underlying12 (And.intro Try.underlying13 (And.intro Try.underlying15 (And.intro Try.underlying16 (And.intro Try.underlying17 (And.intro Try.underlying18 (And.intro Try.underlying19 (And.intro Try.underlying21 (Try.underlying64)))))))))))))))))))))))))))))))))))))))))))) := And.intro ty_tg1 (And.intro ty_tg2 (And.intro ty_sz2 (And.intro ty_in2 (And.intro ty_tg3 (And.intro ty_sz3 (And.intro ty_in3 (And.intro ty_tg4 (And.intro ty_sz4 (And.intro ty_in4 (And.intro ty_tg5 (And.intro ty_sz5 (And.intro ty_in5 (And.intro ty_tg9 (And.intro ty_sz9 (And.intro ty_in9 (And.intro ty_tg18 (And.intro ty_sz18 (And.intro ty_in18 (And.intro ty_pl18 (And.intro ty_fd18_0 (And.intro ty_tg21 (And.intro ty_sz21 (And.intro ty_in21 (And.intro ty_tg64 (And.intro ty_sz64 (And.intro ty_in64 (And.intro Try.underlying1 (And.intro Try.underlying2 (And.intro Try.underlying3 (And.intro Try.underlying4 (And.intro Try.underlying5 (And.intro Try.underlying6 (And.intro Try.underlying7 (And.intro Try.underlying9 (And.intro Try.underlying12 (And.intro Try.underlying13 (And.intro Try.underlying15 (And.intro Try.underlying16 (And.intro Try.underlying17 (And.intro Try.underlying18 (And.intro Try.underlying19 (And.intro Try.underlying21 (Try.underlying64)))))))))))))))))))))))))))))))))))))))))))
set_option maxHeartbeats 1000000 in
theorem aL_heldIntS (s : Int) (len : Nat) (hl : len ≤ 1000000000) (hs0 : 0 ≤ s) (hs1 : s ≤ 1000000000000) (H : Hp) :
    ACalls Try.prog 45 [.is 1 (intsE (marks s len)), .i .i64 s] H (fun r H' => r = .i .i64 (s + len) ∧ H' = H) := by
  have l1 := intsE_len (marks s len)
  rw [marks_len] at l1
  refine ACalls.intro Try.func45 (by kernel_rfl) rfl (Nat.le_of_ble_eq_true rfl) fun n hn hc => ?_; have hS : ∀ k, H (n + k) = none := fun k => hn (n + k) (by omega); have hS0 : H n = none := hn n (Nat.le_refl _); have hN : ∀ k, nv H (n + k) = 0 := fun k => nv_none (hS k); (try (first | rw [ienv1] | rw [ienv2] | rw [ienv3] | rw [ienv4]))
  repeat (first
    | with_reducible refine VC.seq ?_
    | with_reducible refine VC.region ?_
    | with_reducible refine VC.opsNil ?_
    | with_reducible refine VC.block ?_
    | with_reducible refine VC.blk ?_
    | with_reducible refine VC.skip ?_
    | with_reducible refine VC.scope ?_
    | refine VC.exit rfl ?_
    | ((first | apply s_opS rfl | apply s_opN | apply s_gq rfl | apply s_iq); (focus ((simp only [vsA, vsB, aop, aev, absV, absS, upd_at, aload, rd, afieldAddr, afield, cur, abin, aarith, astr, aun, aindexAddr, aindex, aextract, alen, nv_upd, astore, anil, aconv, asrc, aappend, amake, abuildSlice, abuild, afill, aslice, abnd, Value.cells, if_true, if_false, ite_true, ite_false, eq_self, ne_eq, reduceCtorEq, ↓reduceIte, ↓reduceDIte, Nat.reduceEqDiff, Nat.reduceAdd, Nat.reduceSub, Nat.reduceMul, Nat.reduceLeDiff, Nat.reduceLT, Int.reduceEq, Int.reduceLT, Int.reduceLE, Int.reduceToNat, Int.reduceAdd, Int.reduceNeg, Int.reduceSub, Int.reduceMul, Int.reduceNe, Nat.reduceBEq, Int.reduceBEq, tysXInts_heldIntSL, ayield, Option.bind_some, Option.bind_none, hS, hN]) <;> exact rfl)); (with_reducible (first | refine vc_id ?_ | refine gqT ?_ | refine gqF ?_ | refine gqF' ?_ | refine gqU ?_ | refine iqT ?_ | refine iqF ?_)))
    | fail)
  refine VC.loop (fun ta H' => ∃ (k : Nat), k ≤ len ∧ ta 0 = .is 1 (intsE (marks s len)) ∧ ta 1 = .i .i64 (s + k) ∧ ta 5 = .i .i64 k ∧ H' = H) (fun ta _ => len - (aint (ta 5)).toNat) ?_ ?_
  · refine ⟨0, by omega, ?_⟩
    have e0 : s = s + (0 : Nat) := by omega
    (repeat' apply And.intro) <;> (first | rfl | assumption | omega | (simp only [upd_at, Nat.reduceEqDiff, if_true, if_false, and_self, ↓reduceIte, and_true, true_and, Nat.add_left_cancel_iff, Nat.add_eq_left, aint, ← e0]; done) | ((simp only [upd_at, Nat.reduceEqDiff, if_true, if_false, and_self, ↓reduceIte, and_true, true_and, Nat.add_left_cancel_iff, Nat.add_eq_left, aint, ← e0]) <;> (first | rfl | assumption | omega)) | (focus (repeat (first | exact Low.refl _ _ | assumption | apply low_upd | apply low_upd0)); done))
  · rintro ta H1 ⟨k, hk, t0, t1, t5, hH⟩
    obtain rfl := hH.symm
    repeat (first
      | with_reducible refine VC.seq ?_
      | with_reducible refine VC.region ?_
      | with_reducible refine VC.opsNil ?_
      | with_reducible refine VC.block ?_
      | with_reducible refine VC.blk ?_
      | with_reducible refine VC.skip ?_
      | with_reducible refine VC.scope ?_
      | refine VC.exit rfl ?_
      | ((first | apply s_opS rfl | apply s_opN | apply s_gq rfl | apply s_iq); (focus ((simp only [vsA, vsB, aop, aev, absV, absS, upd_at, aload, rd, afieldAddr, afield, cur, abin, aarith, astr, aun, aindexAddr, aindex, aextract, alen, nv_upd, astore, anil, aconv, asrc, aappend, amake, abuildSlice, abuild, afill, aslice, abnd, Value.cells, if_true, if_false, ite_true, ite_false, eq_self, ne_eq, reduceCtorEq, ↓reduceIte, ↓reduceDIte, Nat.reduceEqDiff, Nat.reduceAdd, Nat.reduceSub, Nat.reduceMul, Nat.reduceLeDiff, Nat.reduceLT, Int.reduceEq, Int.reduceLT, Int.reduceLE, Int.reduceToNat, Int.reduceAdd, Int.reduceNeg, Int.reduceSub, Int.reduceMul, Int.reduceNe, Nat.reduceBEq, Int.reduceBEq, tysXInts_heldIntSL, ayield, Option.bind_some, Option.bind_none, t0, t1, t5, l1]) <;> exact rfl)); (with_reducible (first | refine vc_id ?_ | refine gqT ?_ | refine gqF ?_ | refine gqF' ?_ | refine gqU ?_ | refine iqT ?_ | refine iqF ?_)))
      | fail)
    (apply s_if; focus ((simp only [vsB, aev, absV, absS, upd_at, if_true, if_false, ite_true, ite_false, eq_self, ne_eq, reduceCtorEq, ↓reduceIte, ↓reduceDIte, Nat.reduceEqDiff, Nat.reduceAdd, Nat.reduceSub, Nat.reduceMul, Nat.reduceLeDiff, Nat.reduceLT, Int.reduceEq, Int.reduceLT, Int.reduceLE, Int.reduceToNat, Int.reduceAdd, Int.reduceNeg, Int.reduceSub, Int.reduceMul, Int.reduceNe, Nat.reduceBEq, Int.reduceBEq, t0, t1, t5, l1]) <;> exact rfl))
    · intro hlt
      have hk1 : k < len := by omega
      have g1 := intsE_get (marks s len) k (by rw [marks_len]; exact hk1)
      rw [marks_get] at g1
      have hw2 := wrapN (k := k) (by omega)
      have hw3 : IntKind.i64.wrap (s + (k : Int) + 1) = s + ((k + 1 : Nat) : Int) := by rw [wrap_in (by omega) (by omega)]; omega
      have hm : len - (k + 1) < len - k := by omega
      repeat (first
        | with_reducible refine VC.seq ?_
        | with_reducible refine VC.region ?_
        | with_reducible refine VC.opsNil ?_
        | with_reducible refine VC.block ?_
        | with_reducible refine VC.blk ?_
        | with_reducible refine VC.skip ?_
        | with_reducible refine VC.scope ?_
        | refine VC.exit rfl ?_
        | ((first | apply s_opS rfl | apply s_opN | apply s_gq rfl | apply s_iq); (focus ((simp only [vsA, vsB, aop, aev, absV, absS, upd_at, aload, rd, afieldAddr, afield, cur, abin, aarith, astr, aun, aindexAddr, aindex, aextract, alen, nv_upd, astore, anil, aconv, asrc, aappend, amake, abuildSlice, abuild, afill, aslice, abnd, Value.cells, if_true, if_false, ite_true, ite_false, eq_self, ne_eq, reduceCtorEq, ↓reduceIte, ↓reduceDIte, Nat.reduceEqDiff, Nat.reduceAdd, Nat.reduceSub, Nat.reduceMul, Nat.reduceLeDiff, Nat.reduceLT, Int.reduceEq, Int.reduceLT, Int.reduceLE, Int.reduceToNat, Int.reduceAdd, Int.reduceNeg, Int.reduceSub, Int.reduceMul, Int.reduceNe, Nat.reduceBEq, Int.reduceBEq, tysXInts_heldIntSL, ayield, Option.bind_some, Option.bind_none, t0, t1, t5, g1, hw2, hw3, l1]) <;> exact rfl)); (with_reducible (first | refine vc_id ?_ | refine gqT ?_ | refine gqF ?_ | refine gqF' ?_ | refine gqU ?_ | refine iqT ?_ | refine iqF ?_)))
        | fail)
      refine VC.back ?_
      refine ⟨⟨k + 1, hk1, ?_⟩, ?_⟩
      · (repeat' apply And.intro) <;> (first | rfl | assumption | omega | (simp only [upd_at, Nat.reduceEqDiff, if_true, if_false, and_self, ↓reduceIte, and_true, true_and, Nat.add_left_cancel_iff, Nat.add_eq_left, aint, t0, t1]; done) | ((simp only [upd_at, Nat.reduceEqDiff, if_true, if_false, and_self, ↓reduceIte, and_true, true_and, Nat.add_left_cancel_iff, Nat.add_eq_left, aint, t0, t1]) <;> (first | rfl | assumption | omega)) | (focus (repeat (first | exact Low.refl _ _ | assumption | apply low_upd | apply low_upd0)); done))
      · (repeat' apply And.intro) <;> (first | rfl | assumption | omega | (simp only [upd_at, Nat.reduceEqDiff, if_true, if_false, and_self, ↓reduceIte, and_true, true_and, Nat.add_left_cancel_iff, Nat.add_eq_left, aint, t5, Int.toNat_natCast]; done) | ((simp only [upd_at, Nat.reduceEqDiff, if_true, if_false, and_self, ↓reduceIte, and_true, true_and, Nat.add_left_cancel_iff, Nat.add_eq_left, aint, t5, Int.toNat_natCast]) <;> (first | rfl | assumption | omega)) | (focus (repeat (first | exact Low.refl _ _ | assumption | apply low_upd | apply low_upd0)); done))
    · intro hlt
      have hkl : k = len := by omega
      subst hkl
      repeat (first
        | with_reducible refine VC.seq ?_
        | with_reducible refine VC.region ?_
        | with_reducible refine VC.opsNil ?_
        | with_reducible refine VC.block ?_
        | with_reducible refine VC.blk ?_
        | with_reducible refine VC.skip ?_
        | with_reducible refine VC.scope ?_
        | refine VC.exit rfl ?_
        | ((first | apply s_opS rfl | apply s_opN | apply s_gq rfl | apply s_iq); (focus ((simp only [vsA, vsB, aop, aev, absV, absS, upd_at, aload, rd, afieldAddr, afield, cur, abin, aarith, astr, aun, aindexAddr, aindex, aextract, alen, nv_upd, astore, anil, aconv, asrc, aappend, amake, abuildSlice, abuild, afill, aslice, abnd, Value.cells, if_true, if_false, ite_true, ite_false, eq_self, ne_eq, reduceCtorEq, ↓reduceIte, ↓reduceDIte, Nat.reduceEqDiff, Nat.reduceAdd, Nat.reduceSub, Nat.reduceMul, Nat.reduceLeDiff, Nat.reduceLT, Int.reduceEq, Int.reduceLT, Int.reduceLE, Int.reduceToNat, Int.reduceAdd, Int.reduceNeg, Int.reduceSub, Int.reduceMul, Int.reduceNe, Nat.reduceBEq, Int.reduceBEq, tysXInts_heldIntSL, ayield, Option.bind_some, Option.bind_none, t0, t1, t5, l1]) <;> exact rfl)); (with_reducible (first | refine vc_id ?_ | refine gqT ?_ | refine gqF ?_ | refine gqF' ?_ | refine gqU ?_ | refine iqT ?_ | refine iqF ?_)))
        | fail)
      (first | apply VC.nil | apply VC.ret); (apply fin_flat (H0 := H); (focus ((simp only [vsA, vsB, aop, aev, absV, absS, upd_at, aload, rd, afieldAddr, afield, cur, abin, aarith, astr, aun, aindexAddr, aindex, aextract, alen, nv_upd, astore, anil, aconv, asrc, aappend, amake, abuildSlice, abuild, afill, aslice, abnd, Value.cells, if_true, if_false, ite_true, ite_false, eq_self, ne_eq, reduceCtorEq, ↓reduceIte, ↓reduceDIte, Nat.reduceEqDiff, Nat.reduceAdd, Nat.reduceSub, Nat.reduceMul, Nat.reduceLeDiff, Nat.reduceLT, Int.reduceEq, Int.reduceLT, Int.reduceLE, Int.reduceToNat, Int.reduceAdd, Int.reduceNeg, Int.reduceSub, Int.reduceMul, Int.reduceNe, Nat.reduceBEq, Int.reduceBEq, tysXInts_heldIntSL, ares, aresL, ares1, Try.results45, if_true]) <;> exact rfl)); (focus rfl); (focus ((try simp only [cutN_upd, cutN_upd0]); exact cutN_self hn)); (focus (first | exact hc | ((repeat (apply CloH_upd)); exact hc))))
      exact ⟨rfl, rfl⟩
theorem aL_heldIntS' (s : Int) (len : Nat) (hl : len ≤ 1000000000) (hs0 : 0 ≤ s) (hs1 : s ≤ 1000000000000) {H : Hp} {a : AV} {n : Nat} (pa : Pub H 0 a (.is 1 (intsE (marks s len)))) (hn : Sup n H) :
    ACalls Try.prog 45 [a, .i .i64 s] H (fun r H' => r = .i .i64 (s + len) ∧ H' = H) := .lendV (args' := [.is 1 (intsE (marks s len)), .i .i64 s]) rfl (pub_a2 pa (.flat rfl)) (aL_heldIntS s len hl hs0 hs1 _) hn (.i _ _)

theorem mark_step (s : Int) (cells : List AV) (k : Nat) (h : k < cells.length) :
    (ints (marks s k) ++ cells.drop k).take k ++ [AV.i .i64 (s + k)] ++ (ints (marks s k) ++ cells.drop k).drop (k + 1) = ints (marks s (k + 1)) ++ cells.drop (k + 1) := by
  have hl : (ints (marks s k)).length = k := by rw [ints_len, marks_len]
  rw [marks_succ, ints_snoc, List.take_append_of_le_length (by omega), List.take_of_length_le (by omega), List.drop_append, List.drop_of_length_le (by omega), hl, List.drop_drop]
  rw [show k + (k + 1 - k) = k + 1 by omega]
  simp

theorem tysXInts_markIntSL : type_of% (And.intro ty_tg1 (And.intro ty_tg2 (And.intro ty_sz2 (And.intro ty_in2 (And.intro ty_tg3 (And.intro ty_sz3 (And.intro ty_in3 (And.intro ty_tg4 (And.intro ty_sz4 (And.intro ty_in4 (And.intro ty_tg5 (And.intro ty_sz5 (And.intro ty_in5 (And.intro ty_tg9 (And.intro ty_sz9 (And.intro ty_in9 (And.intro ty_tg18 (And.intro ty_sz18 (And.intro ty_in18 (And.intro ty_pl18 (And.intro ty_fd18_0 (And.intro ty_tg64 (And.intro ty_sz64 (And.intro ty_in64 (And.intro Try.underlying1 (And.intro Try.underlying2 (And.intro Try.underlying3 (And.intro Try.underlying4 (And.intro Try.underlying5 (And.intro Try.underlying6 (And.intro Try.underlying7 (And.intro Try.underlying9 (And.intro Try.underlying12 (And.intro Try.underlying13 (And.intro Try.underlying15 (And.intro Try.underlying16 (And.intro Try.underlying17 (And.intro Try.underlying18 (And.intro Try.underlying19 (Try.underlying64)))))))))))))))))))))))))))))))))))))))) := And.intro ty_tg1 (And.intro ty_tg2 (And.intro ty_sz2 (And.intro ty_in2 (And.intro ty_tg3 (And.intro ty_sz3 (And.intro ty_in3 (And.intro ty_tg4 (And.intro ty_sz4 (And.intro ty_in4 (And.intro ty_tg5 (And.intro ty_sz5 (And.intro ty_in5 (And.intro ty_tg9 (And.intro ty_sz9 (And.intro ty_in9 (And.intro ty_tg18 (And.intro ty_sz18 (And.intro ty_in18 (And.intro ty_pl18 (And.intro ty_fd18_0 (And.intro ty_tg64 (And.intro ty_sz64 (And.intro ty_in64 (And.intro Try.underlying1 (And.intro Try.underlying2 (And.intro Try.underlying3 (And.intro Try.underlying4 (And.intro Try.underlying5 (And.intro Try.underlying6 (And.intro Try.underlying7 (And.intro Try.underlying9 (And.intro Try.underlying12 (And.intro Try.underlying13 (And.intro Try.underlying15 (And.intro Try.underlying16 (And.intro Try.underlying17 (And.intro Try.underlying18 (And.intro Try.underlying19 (Try.underlying64)))))))))))))))))))))))))))))))))))))))
set_option maxHeartbeats 1000000 in
theorem aL_markIntS (s : Int) (len : Nat) (hl : len ≤ 1000000000) (hs0 : 0 ≤ s) (hs1 : s ≤ 1000000000000) (H : Hp) (b ver : Nat) (e : TypeId) (cells : List AV) (hc : cells.length = len) (hb : H b = some ⟨ver, e, 1, cells⟩) :
    ACalls Try.prog 44 [.os b ver len, .i .i64 s] H (fun r H' => r = .i .i64 (s + len) ∧ H' = upd H b (some ⟨ver, e, 1, ints (marks s len)⟩)) := by
  refine ACalls.intro Try.func44 (by kernel_rfl) rfl (Nat.le_of_ble_eq_true rfl) fun n hn hc => ?_; have hS : ∀ k, H (n + k) = none := fun k => hn (n + k) (by omega); have hS0 : H n = none := hn n (Nat.le_refl _); have hN : ∀ k, nv H (n + k) = 0 := fun k => nv_none (hS k); (try (first | rw [ienv1] | rw [ienv2] | rw [ienv3] | rw [ienv4]))
  repeat (first
    | with_reducible refine VC.seq ?_
    | with_reducible refine VC.region ?_
    | with_reducible refine VC.opsNil ?_
    | with_reducible refine VC.block ?_
    | with_reducible refine VC.blk ?_
    | with_reducible refine VC.skip ?_
    | with_reducible refine VC.scope ?_
    | refine VC.exit rfl ?_
    | ((first | apply s_opS rfl | apply s_opN | apply s_gq rfl | apply s_iq); (focus ((simp only [vsA, vsB, aop, aev, absV, absS, upd_at, aload, rd, afieldAddr, afield, cur, abin, aarith, astr, aun, aindexAddr, aindex, aextract, alen, nv_upd, astore, anil, aconv, asrc, aappend, amake, abuildSlice, abuild, afill, aslice, abnd, Value.cells, if_true, if_false, ite_true, ite_false, eq_self, ne_eq, reduceCtorEq, ↓reduceIte, ↓reduceDIte, Nat.reduceEqDiff, Nat.reduceAdd, Nat.reduceSub, Nat.reduceMul, Nat.reduceLeDiff, Nat.reduceLT, Int.reduceEq, Int.reduceLT, Int.reduceLE, Int.reduceToNat, Int.reduceAdd, Int.reduceNeg, Int.reduceSub, Int.reduceMul, Int.reduceNe, Nat.reduceBEq, Int.reduceBEq, tysXInts_markIntSL, ayield, Option.bind_some, Option.bind_none, hS, hN]) <;> exact rfl)); (with_reducible (first | refine vc_id ?_ | refine gqT ?_ | refine gqF ?_ | refine gqF' ?_ | refine gqU ?_ | refine iqT ?_ | refine iqF ?_)))
    | fail)
  refine VC.loop (fun ta H' => ∃ (k : Nat), k ≤ len ∧ ta 0 = .os b ver len ∧ ta 1 = .i .i64 (s + k) ∧ ta 5 = .i .i64 k ∧ H' b = some ⟨ver, e, 1, ints (marks s k) ++ cells.drop k⟩ ∧ H' = upd H b (some ⟨ver, e, 1, ints (marks s k) ++ cells.drop k⟩)) (fun ta _ => len - (aint (ta 5)).toNat) ?_ ?_
  · refine ⟨0, by omega, ?_⟩
    have e0 : s = s + (0 : Nat) := by omega
    have e1 : ints (marks s 0) ++ cells.drop 0 = cells := rfl
    rw [e1]
    have e2 := (upd_id H b _ hb).symm
    (repeat' apply And.intro) <;> (first | rfl | assumption | omega | (simp only [upd_at, Nat.reduceEqDiff, if_true, if_false, and_self, ↓reduceIte, and_true, true_and, Nat.add_left_cancel_iff, Nat.add_eq_left, aint, ← e0]; done) | ((simp only [upd_at, Nat.reduceEqDiff, if_true, if_false, and_self, ↓reduceIte, and_true, true_and, Nat.add_left_cancel_iff, Nat.add_eq_left, aint, ← e0]) <;> (first | rfl | assumption | omega)) | (focus (repeat (first | exact Low.refl _ _ | assumption | apply low_upd | apply low_upd0)); done))
  · rintro ta H1 ⟨k, hk, t0, t1, t5, b0, hH⟩
    repeat (first
      | with_reducible refine VC.seq ?_
      | with_reducible refine VC.region ?_
      | with_reducible refine VC.opsNil ?_
      | with_reducible refine VC.block ?_
      | with_reducible refine VC.blk ?_
      | with_reducible refine VC.skip ?_
      | with_reducible refine VC.scope ?_
      | refine VC.exit rfl ?_
      | ((first | apply s_opS rfl | apply s_opN | apply s_gq rfl | apply s_iq); (focus ((simp only [vsA, vsB, aop, aev, absV, absS, upd_at, aload, rd, afieldAddr, afield, cur, abin, aarith, astr, aun, aindexAddr, aindex, aextract, alen, nv_upd, astore, anil, aconv, asrc, aappend, amake, abuildSlice, abuild, afill, aslice, abnd, Value.cells, if_true, if_false, ite_true, ite_false, eq_self, ne_eq, reduceCtorEq, ↓reduceIte, ↓reduceDIte, Nat.reduceEqDiff, Nat.reduceAdd, Nat.reduceSub, Nat.reduceMul, Nat.reduceLeDiff, Nat.reduceLT, Int.reduceEq, Int.reduceLT, Int.reduceLE, Int.reduceToNat, Int.reduceAdd, Int.reduceNeg, Int.reduceSub, Int.reduceMul, Int.reduceNe, Nat.reduceBEq, Int.reduceBEq, tysXInts_markIntSL, ayield, Option.bind_some, Option.bind_none, t0, t1, t5, b0]) <;> exact rfl)); (with_reducible (first | refine vc_id ?_ | refine gqT ?_ | refine gqF ?_ | refine gqF' ?_ | refine gqU ?_ | refine iqT ?_ | refine iqF ?_)))
      | fail)
    (apply s_if; focus ((simp only [vsB, aev, absV, absS, upd_at, if_true, if_false, ite_true, ite_false, eq_self, ne_eq, reduceCtorEq, ↓reduceIte, ↓reduceDIte, Nat.reduceEqDiff, Nat.reduceAdd, Nat.reduceSub, Nat.reduceMul, Nat.reduceLeDiff, Nat.reduceLT, Int.reduceEq, Int.reduceLT, Int.reduceLE, Int.reduceToNat, Int.reduceAdd, Int.reduceNeg, Int.reduceSub, Int.reduceMul, Int.reduceNe, Nat.reduceBEq, Int.reduceBEq, t0, t1, t5, b0]) <;> exact rfl))
    · intro hlt
      have hk1 : k < len := by omega
      have hw2 := wrapN (k := k) (by omega)
      have hw3 : IntKind.i64.wrap (s + (k : Int) + 1) = s + ((k + 1 : Nat) : Int) := by rw [wrap_in (by omega) (by omega)]; omega
      have hm : len - (k + 1) < len - k := by omega
      have hst := mark_step s cells k (by omega)
      have hle : k + 1 ≤ (ints (marks s k) ++ cells.drop k).length := by rw [List.length_append, ints_len, marks_len, List.length_drop]; omega
      have hll : (ints (marks s k) ++ cells.drop k).length = len := by rw [List.length_append, ints_len, marks_len, List.length_drop]; omega
      generalize ints (marks s k) ++ cells.drop k = old at *
      repeat (first
        | with_reducible refine VC.seq ?_
        | with_reducible refine VC.region ?_
        | with_reducible refine VC.opsNil ?_
        | with_reducible refine VC.block ?_
        | with_reducible refine VC.blk ?_
        | with_reducible refine VC.skip ?_
        | with_reducible refine VC.scope ?_
        | refine VC.exit rfl ?_
        | ((first | apply s_opS rfl | apply s_opN | apply s_gq rfl | apply s_iq); (focus ((simp only [vsA, vsB, aop, aev, absV, absS, upd_at, aload, rd, afieldAddr, afield, cur, abin, aarith, astr, aun, aindexAddr, aindex, aextract, alen, nv_upd, astore, anil, aconv, asrc, aappend, amake, abuildSlice, abuild, afill, aslice, abnd, Value.cells, if_true, if_false, ite_true, ite_false, eq_self, ne_eq, reduceCtorEq, ↓reduceIte, ↓reduceDIte, Nat.reduceEqDiff, Nat.reduceAdd, Nat.reduceSub, Nat.reduceMul, Nat.reduceLeDiff, Nat.reduceLT, Int.reduceEq, Int.reduceLT, Int.reduceLE, Int.reduceToNat, Int.reduceAdd, Int.reduceNeg, Int.reduceSub, Int.reduceMul, Int.reduceNe, Nat.reduceBEq, Int.reduceBEq, tysXInts_markIntSL, ayield, Option.bind_some, Option.bind_none, t0, t1, t5, b0, hk1, hll, Nat.succ_le_of_lt, hw2, hw3]) <;> exact rfl)); (with_reducible (first | refine vc_id ?_ | refine gqT ?_ | refine gqF ?_ | refine gqF' ?_ | refine gqU ?_ | refine iqT ?_ | refine iqF ?_)))
        | fail)
      refine VC.back ?_
      rw [hst, hH, upd_upd]
      refine ⟨⟨k + 1, hk1, ?_⟩, ?_⟩
      · (repeat' apply And.intro) <;> (first | rfl | assumption | omega | (simp only [upd_at, Nat.reduceEqDiff, if_true, if_false, and_self, ↓reduceIte, and_true, true_and, Nat.add_left_cancel_iff, Nat.add_eq_left, aint, t0, t1]; done) | ((simp only [upd_at, Nat.reduceEqDiff, if_true, if_false, and_self, ↓reduceIte, and_true, true_and, Nat.add_left_cancel_iff, Nat.add_eq_left, aint, t0, t1]) <;> (first | rfl | assumption | omega)) | (focus (repeat (first | exact Low.refl _ _ | assumption | apply low_upd | apply low_upd0)); done))
      · (repeat' apply And.intro) <;> (first | rfl | assumption | omega | (simp only [upd_at, Nat.reduceEqDiff, if_true, if_false, and_self, ↓reduceIte, and_true, true_and, Nat.add_left_cancel_iff, Nat.add_eq_left, aint, t5, Int.toNat_natCast]; done) | ((simp only [upd_at, Nat.reduceEqDiff, if_true, if_false, and_self, ↓reduceIte, and_true, true_and, Nat.add_left_cancel_iff, Nat.add_eq_left, aint, t5, Int.toNat_natCast]) <;> (first | rfl | assumption | omega)) | (focus (repeat (first | exact Low.refl _ _ | assumption | apply low_upd | apply low_upd0)); done))
    · intro hlt
      have hkl : k = len := by omega
      subst hkl
      have e1 : ints (marks s k) ++ cells.drop k = ints (marks s k) := by rw [List.drop_of_length_le (by omega), List.append_nil]
      rw [e1] at hH
      repeat (first
        | with_reducible refine VC.seq ?_
        | with_reducible refine VC.region ?_
        | with_reducible refine VC.opsNil ?_
        | with_reducible refine VC.block ?_
        | with_reducible refine VC.blk ?_
        | with_reducible refine VC.skip ?_
        | with_reducible refine VC.scope ?_
        | refine VC.exit rfl ?_
        | ((first | apply s_opS rfl | apply s_opN | apply s_gq rfl | apply s_iq); (focus ((simp only [vsA, vsB, aop, aev, absV, absS, upd_at, aload, rd, afieldAddr, afield, cur, abin, aarith, astr, aun, aindexAddr, aindex, aextract, alen, nv_upd, astore, anil, aconv, asrc, aappend, amake, abuildSlice, abuild, afill, aslice, abnd, Value.cells, if_true, if_false, ite_true, ite_false, eq_self, ne_eq, reduceCtorEq, ↓reduceIte, ↓reduceDIte, Nat.reduceEqDiff, Nat.reduceAdd, Nat.reduceSub, Nat.reduceMul, Nat.reduceLeDiff, Nat.reduceLT, Int.reduceEq, Int.reduceLT, Int.reduceLE, Int.reduceToNat, Int.reduceAdd, Int.reduceNeg, Int.reduceSub, Int.reduceMul, Int.reduceNe, Nat.reduceBEq, Int.reduceBEq, tysXInts_markIntSL, ayield, Option.bind_some, Option.bind_none, t0, t1, t5, b0]) <;> exact rfl)); (with_reducible (first | refine vc_id ?_ | refine gqT ?_ | refine gqF ?_ | refine gqF' ?_ | refine gqU ?_ | refine iqT ?_ | refine iqF ?_)))
        | fail)
      (first | apply VC.nil | apply VC.ret); (apply fin_keep; (focus ((simp only [vsA, vsB, aop, aev, absV, absS, upd_at, aload, rd, afieldAddr, afield, cur, abin, aarith, astr, aun, aindexAddr, aindex, aextract, alen, nv_upd, astore, anil, aconv, asrc, aappend, amake, abuildSlice, abuild, afill, aslice, abnd, Value.cells, if_true, if_false, ite_true, ite_false, eq_self, ne_eq, reduceCtorEq, ↓reduceIte, ↓reduceDIte, Nat.reduceEqDiff, Nat.reduceAdd, Nat.reduceSub, Nat.reduceMul, Nat.reduceLeDiff, Nat.reduceLT, Int.reduceEq, Int.reduceLT, Int.reduceLE, Int.reduceToNat, Int.reduceAdd, Int.reduceNeg, Int.reduceSub, Int.reduceMul, Int.reduceNe, Nat.reduceBEq, Int.reduceBEq, tysXInts_markIntSL, ares, aresL, ares1, Try.results44, if_true]) <;> exact rfl)))
      exact ⟨rfl, hH⟩
theorem aL_markIntS0 (s : Int) (H : Hp) : ACalls Try.prog 44 [.ns, .i .i64 s] H (fun r H' => r = .i .i64 s ∧ H' = H) := by
  refine ACalls.intro Try.func44 (by kernel_rfl) rfl (Nat.le_of_ble_eq_true rfl) fun n hn hc => ?_; have hS : ∀ k, H (n + k) = none := fun k => hn (n + k) (by omega); have hS0 : H n = none := hn n (Nat.le_refl _); have hN : ∀ k, nv H (n + k) = 0 := fun k => nv_none (hS k); (try (first | rw [ienv1] | rw [ienv2] | rw [ienv3] | rw [ienv4]))
  repeat (first
    | with_reducible refine VC.seq ?_
    | with_reducible refine VC.region ?_
    | with_reducible refine VC.opsNil ?_
    | with_reducible refine VC.block ?_
    | with_reducible refine VC.blk ?_
    | with_reducible refine VC.skip ?_
    | with_reducible refine VC.scope ?_
    | refine VC.exit rfl ?_
    | ((first | apply s_opS rfl | apply s_opN | apply s_gq rfl | apply s_iq); (focus ((simp only [vsA, vsB, aop, aev, absV, absS, upd_at, aload, rd, afieldAddr, afield, cur, abin, aarith, astr, aun, aindexAddr, aindex, aextract, alen, nv_upd, astore, anil, aconv, asrc, aappend, amake, abuildSlice, abuild, afill, aslice, abnd, Value.cells, if_true, if_false, ite_true, ite_false, eq_self, ne_eq, reduceCtorEq, ↓reduceIte, ↓reduceDIte, Nat.reduceEqDiff, Nat.reduceAdd, Nat.reduceSub, Nat.reduceMul, Nat.reduceLeDiff, Nat.reduceLT, Int.reduceEq, Int.reduceLT, Int.reduceLE, Int.reduceToNat, Int.reduceAdd, Int.reduceNeg, Int.reduceSub, Int.reduceMul, Int.reduceNe, Nat.reduceBEq, Int.reduceBEq, tysXInts_markIntSL, ayield, Option.bind_some, Option.bind_none, hS, hN]) <;> exact rfl)); (with_reducible (first | refine vc_id ?_ | refine gqT ?_ | refine gqF ?_ | refine gqF' ?_ | refine gqU ?_ | refine iqT ?_ | refine iqF ?_)))
    | fail)
  refine VC.loop (fun ta H' => ta 0 = .ns ∧ ta 1 = .i .i64 s ∧ ta 5 = .i .i64 0 ∧ H' = H) (fun _ _ => 0) ?_ ?_
  · (repeat' apply And.intro) <;> (first | rfl | assumption | omega | (simp only [upd_at, Nat.reduceEqDiff, if_true, if_false, and_self, ↓reduceIte, and_true, true_and, Nat.add_left_cancel_iff, Nat.add_eq_left, aint, if_true]; done) | ((simp only [upd_at, Nat.reduceEqDiff, if_true, if_false, and_self, ↓reduceIte, and_true, true_and, Nat.add_left_cancel_iff, Nat.add_eq_left, aint, if_true]) <;> (first | rfl | assumption | omega)) | (focus (repeat (first | exact Low.refl _ _ | assumption | apply low_upd | apply low_upd0)); done))
  · rintro ta H1 ⟨t0, t1, t5, hH⟩
    obtain rfl := hH.symm
    repeat (first
      | with_reducible refine VC.seq ?_
      | with_reducible refine VC.region ?_
      | with_reducible refine VC.opsNil ?_
      | with_reducible refine VC.block ?_
      | with_reducible refine VC.blk ?_
      | with_reducible refine VC.skip ?_
      | with_reducible refine VC.scope ?_
      | refine VC.exit rfl ?_
      | ((first | apply s_opS rfl | apply s_opN | apply s_gq rfl | apply s_iq); (focus ((simp only [vsA, vsB, aop, aev, absV, absS, upd_at, aload, rd, afieldAddr, afield, cur, abin, aarith, astr, aun, aindexAddr, aindex, aextract, alen, nv_upd, astore, anil, aconv, asrc, aappend, amake, abuildSlice, abuild, afill, aslice, abnd, Value.cells, if_true, if_false, ite_true, ite_false, eq_self, ne_eq, reduceCtorEq, ↓reduceIte, ↓reduceDIte, Nat.reduceEqDiff, Nat.reduceAdd, Nat.reduceSub, Nat.reduceMul, Nat.reduceLeDiff, Nat.reduceLT, Int.reduceEq, Int.reduceLT, Int.reduceLE, Int.reduceToNat, Int.reduceAdd, Int.reduceNeg, Int.reduceSub, Int.reduceMul, Int.reduceNe, Nat.reduceBEq, Int.reduceBEq, tysXInts_markIntSL, ayield, Option.bind_some, Option.bind_none, t0, t1, t5]) <;> exact rfl)); (with_reducible (first | refine vc_id ?_ | refine gqT ?_ | refine gqF ?_ | refine gqF' ?_ | refine gqU ?_ | refine iqT ?_ | refine iqF ?_)))
      | fail)
    (first | apply VC.nil | apply VC.ret); (apply fin_keep; (focus ((simp only [vsA, vsB, aop, aev, absV, absS, upd_at, aload, rd, afieldAddr, afield, cur, abin, aarith, astr, aun, aindexAddr, aindex, aextract, alen, nv_upd, astore, anil, aconv, asrc, aappend, amake, abuildSlice, abuild, afill, aslice, abnd, Value.cells, if_true, if_false, ite_true, ite_false, eq_self, ne_eq, reduceCtorEq, ↓reduceIte, ↓reduceDIte, Nat.reduceEqDiff, Nat.reduceAdd, Nat.reduceSub, Nat.reduceMul, Nat.reduceLeDiff, Nat.reduceLT, Int.reduceEq, Int.reduceLT, Int.reduceLE, Int.reduceToNat, Int.reduceAdd, Int.reduceNeg, Int.reduceSub, Int.reduceMul, Int.reduceNe, Nat.reduceBEq, Int.reduceBEq, tysXInts_markIntSL, ares, aresL, ares1, Try.results44, if_true]) <;> exact rfl)))
    exact ⟨rfl, rfl⟩
end Go.Proofs.Ytpdpmcllpafjbaa

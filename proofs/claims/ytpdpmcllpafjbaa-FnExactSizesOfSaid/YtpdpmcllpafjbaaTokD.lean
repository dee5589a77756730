/- Tokens by the new walk: copies that the caller owns; marks. -/
import Derived.Test.YtpdpmcllpafjbaaTokC
import Derived.Test.YtpdpmcllpafjbaaBr
--ELDER
namespace Go.Proofs.Ytpdpmcllpafjbaa
open Go.RowKit
set_option linter.unusedVariables false
set_option linter.unusedSimpArgs false

instance : AEnc Tok := ⟨Tok.cs, fun _ => rfl, fun M x j h v => by
  have h : j < 3 := h
  constructor
  · intro t
    match j, h with
    | 0, _ => cases t; rfl
    | 1, _ => cases t; rfl
    | 2, _ => cases t; rfl
  · intro e
    match j, h with
    | 0, _ => cases e; exact .i _ _
    | 1, _ => cases e; exact .i _ _
    | 2, _ => cases e; exact .s _⟩

theorem sup_upd {n k : Nat} {H : Hp} {x : Option Blk} (h : Sup n H) (hk : k < n) : Sup n (upd H k x) := fun j hj => by rw [upd_ne _ _ (by omega)]; exact h j hj

/-- A row that is filled up to k. -/
def fillE (A : List (List AV)) (z : List AV) (k : Nat) : List (List AV) := A.take k ++ List.replicate (A.length - k) z
theorem fillE_zero (A : List (List AV)) (z : List AV) : fillE A z 0 = List.replicate A.length z := by simp [fillE]
theorem fillE_all (A : List (List AV)) (z : List AV) : fillE A z A.length = A := by simp [fillE]
theorem fillE_len (A : List (List AV)) (z : List AV) (k : Nat) (h : k ≤ A.length) : (fillE A z k).length = A.length := by simp [fillE]; omega
theorem fillE_mem {A : List (List AV)} {z : List AV} {sz : Nat} (hA : ∀ e ∈ A, e.length = sz) (hz : z.length = sz) (k : Nat) : ∀ e ∈ fillE A z k, e.length = sz := fun e he => by
  rcases List.mem_append.1 he with h | h
  · exact hA e (List.mem_of_mem_take h)
  · rw [(List.mem_replicate.1 h).2]; exact hz
theorem store_flat : ∀ (es : List (List AV)) (sz : Nat) (c : List AV) (k : Nat), (∀ e ∈ es, e.length = sz) → k < es.length → es.flatten.take (k * sz) ++ c ++ es.flatten.drop (k * sz + sz) = (es.set k c).flatten := by
  intro es
  induction es with
  | nil => intro sz c k _ h; simp at h
  | cons e es ih =>
    intro sz c k hs hk
    have he := hs e (by simp)
    cases k with
    | zero =>
      rw [List.set_cons_zero, List.flatten_cons, List.flatten_cons, Nat.zero_mul, Nat.zero_add, List.take_zero, List.nil_append, ← he, List.drop_left]
    | succ k =>
      have := ih sz c k (fun e h => hs e (by simp [h])) (by simpa using hk)
      rw [List.set_cons_succ, List.flatten_cons, List.flatten_cons, ← this, show (k + 1) * sz = e.length + k * sz by rw [he, Nat.add_mul]; omega, List.take_length_add_append]
      rw [show e.length + k * sz + sz = e.length + (k * sz + sz) by omega, List.drop_length_add_append]
      simp [List.append_assoc]
theorem fillE_set (A : List (List AV)) (z : List AV) (k : Nat) (h : k < A.length) : (fillE A z k).set k A[k] = fillE A z (k + 1) := by
  unfold fillE
  have hl : (A.take k).length = k := by simp; omega
  rw [List.set_append_right _ _ (by omega), hl, Nat.sub_self]
  obtain ⟨m, hm⟩ : ∃ m, A.length - k = m + 1 := ⟨A.length - k - 1, by omega⟩
  rw [hm, List.replicate_succ, List.set_cons_zero, List.take_succ_eq_append_getElem h, show A.length - (k + 1) = m by omega, List.append_assoc]
  rfl
/-- One element more. -/
theorem fill_step (A : List (List AV)) (z : List AV) (sz k : Nat) (hA : ∀ e ∈ A, e.length = sz) (hz : z.length = sz) (h : k < A.length) :
    (fillE A z k).flatten.take (k * sz) ++ A[k] ++ (fillE A z k).flatten.drop (k * sz + sz) = (fillE A z (k + 1)).flatten := by
  rw [store_flat _ sz _ k (fillE_mem hA hz k) (by rw [fillE_len _ _ _ (by omega)]; exact h), fillE_set A z k h]
theorem fill_len (A : List (List AV)) (z : List AV) (sz k : Nat) (hA : ∀ e ∈ A, e.length = sz) (hz : z.length = sz) (h : k ≤ A.length) : (fillE A z k).flatten.length = A.length * sz := by
  rw [flat_len _ sz (fillE_mem hA hz k), fillE_len _ _ _ h]

theorem Tok.map_len (xs : List Tok) : ∀ e ∈ xs.map Tok.cs, e.length = 3 := fun e he => by obtain ⟨t, _, rfl⟩ := List.mem_map.1 he; rfl
def Tok.flat (xs : List Tok) : List AV := (xs.map Tok.cs).flatten
theorem Tok.flat_len (xs : List Tok) : (Tok.flat xs).length = xs.length * 3 := by unfold Tok.flat; rw [Go.Proofs.Ytpdpmcllpafjbaa.flat_len _ 3 (Tok.map_len xs), List.length_map]
theorem Tok.flat_flat (xs : List Tok) : ∀ (j : Nat) (h : j < (Tok.flat xs).length), (Tok.flat xs)[j].flat = true := fun j h => by
  have hc := List.getElem_mem h
  generalize (Tok.flat xs)[j] = c at hc
  obtain ⟨l, hl, hc⟩ := List.mem_flatten.1 hc
  obtain ⟨d, _, rfl⟩ := List.mem_map.1 hl
  simp [Tok.cs] at hc
  rcases hc with rfl | rfl | rfl <;> rfl

theorem tysXTokD_toTokenL : type_of% (And.intro ty_tg1 (And.intro ty_tg2 (And.intro ty_sz2 (And.intro ty_in2 (And.intro ty_tg3 (And.intro ty_sz3 (And.intro ty_in3 (And.intro ty_tg4 (And.intro ty_sz4 (And.intro ty_in4 (And.intro ty_tg5 (And.intro ty_sz5 (And.intro ty_in5 (And.intro ty_tg9 (And.intro ty_sz9 (And.intro ty_in9 (And.intro ty_tg78 (And.intro ty_sz78 (And.intro ty_in78 (And.intro ty_pl78 (And.intro ty_fd78_0 (And.intro ty_fd78_1 (And.intro ty_fd78_2 (And.intro ty_tg87 (And.intro ty_sz87 (And.intro ty_in87 (And.intro ty_pl87 (And.intro ty_fd87_0 (And.intro ty_fd87_1 (And.intro ty_fd87_2 (And.intro Try.underlying1 (And.intro Try.underlying2 (And.intro Try.underlying3 (And.intro Try.underlying4 (And.intro Try.underlying5 (And.intro Try.underlying6 (And.intro Try.underlying7 (And.intro Try.underlying9 (And.intro Try.underlying12 (And.intro Try.underlying13 (And.intro Try.underlying78 (Try.underlying87)))))))))))))))))))))))))))))))))))))))))) := And.intro ty_tg1 (And.intro ty_tg2 (And.intro ty_sz2 (And.intro ty_in2 (And.intro ty_tg3 (And.intro ty_sz3 (And.intro ty_in3 (And.intro ty_tg4 (And.intro ty_sz4 (And.intro ty_in4 (And.intro ty_tg5 (And.intro ty_sz5 (And.intro ty_in5 (And.intro ty_tg9 (And.intro ty_sz9 (And.intro ty_in9 (And.intro ty_tg78 (And.intro ty_sz78 (And.intro ty_in78 (And.intro ty_pl78 (And.intro ty_fd78_0 (And.intro ty_fd78_1 (And.intro ty_fd78_2 (And.intro ty_tg87 (And.intro ty_sz87 (And.intro ty_in87 (And.intro ty_pl87 (And.intro ty_fd87_0 (And.intro ty_fd87_1 (And.intro ty_fd87_2 (And.intro Try.underlying1 (And.intro Try.underlying2 (And.intro Try.underlying3 (And.intro Try.underlying4 (And.intro Try.underlying5 (And.intro Try.underlying6 (And.intro Try.underlying7 (And.intro Try.underlying9 (And.intro Try.underlying12 (And.intro Try.underlying13 (And.intro Try.underlying78 (Try.underlying87)))))))))))))))))))))))))))))))))))))))))
set_option maxHeartbeats 1000000 in
theorem aL_toToken (t : Tok) (H : Hp) : ACalls Try.prog 63 [.agg t.cs] H (fun r H' => r = .agg t.cs ∧ H' = H) := by
  refine ACalls.intro Try.func63 (by kernel_rfl) rfl (Nat.le_of_ble_eq_true rfl) fun n hn hc => ?_; have hS : ∀ k, H (n + k) = none := fun k => hn (n + k) (by omega); have hS0 : H n = none := hn n (Nat.le_refl _); have hN : ∀ k, nv H (n + k) = 0 := fun k => nv_none (hS k); (try (first | rw [ienv1] | rw [ienv2] | rw [ienv3] | rw [ienv4]))
  unfold Tok.cs
  repeat (first
    | with_reducible refine VC.seq ?_
    | with_reducible refine VC.region ?_
    | with_reducible refine VC.opsNil ?_
    | with_reducible refine VC.block ?_
    | with_reducible refine VC.blk ?_
    | with_reducible refine VC.skip ?_
    | with_reducible refine VC.scope ?_
    | refine VC.exit rfl ?_
    | ((first | apply s_opS rfl | apply s_opN | apply s_gq rfl | apply s_iq); (focus ((simp only [vsA, vsB, aop, aev, absV, absS, upd_at, aload, rd, afieldAddr, afield, cur, abin, aarith, astr, aun, aindexAddr, aindex, aextract, alen, nv_upd, astore, anil, aconv, asrc, aappend, amake, abuildSlice, abuild, afill, aslice, abnd, Value.cells, if_true, if_false, ite_true, ite_false, eq_self, ne_eq, reduceCtorEq, ↓reduceIte, ↓reduceDIte, Nat.reduceEqDiff, Nat.reduceAdd, Nat.reduceSub, Nat.reduceMul, Nat.reduceLeDiff, Nat.reduceLT, Int.reduceEq, Int.reduceLT, Int.reduceLE, Int.reduceToNat, Int.reduceAdd, Int.reduceNeg, Int.reduceSub, Int.reduceMul, Int.reduceNe, Nat.reduceBEq, Int.reduceBEq, tysXTokD_toTokenL, ayield, Option.bind_some, Option.bind_none, hS, hN]) <;> exact rfl)); (with_reducible (first | refine vc_id ?_ | refine gqT ?_ | refine gqF ?_ | refine gqF' ?_ | refine gqU ?_ | refine iqT ?_ | refine iqF ?_)))
    | fail)
  (first | apply VC.nil | apply VC.ret); (apply fin_low (H0 := H); (focus ((simp only [vsA, vsB, aop, aev, absV, absS, upd_at, aload, rd, afieldAddr, afield, cur, abin, aarith, astr, aun, aindexAddr, aindex, aextract, alen, nv_upd, astore, anil, aconv, asrc, aappend, amake, abuildSlice, abuild, afill, aslice, abnd, Value.cells, if_true, if_false, ite_true, ite_false, eq_self, ne_eq, reduceCtorEq, ↓reduceIte, ↓reduceDIte, Nat.reduceEqDiff, Nat.reduceAdd, Nat.reduceSub, Nat.reduceMul, Nat.reduceLeDiff, Nat.reduceLT, Int.reduceEq, Int.reduceLT, Int.reduceLE, Int.reduceToNat, Int.reduceAdd, Int.reduceNeg, Int.reduceSub, Int.reduceMul, Int.reduceNe, Nat.reduceBEq, Int.reduceBEq, tysXTokD_toTokenL, ares, aresL, ares1, Try.results63, if_true]) <;> exact rfl)); (focus (repeat (first | exact Low.refl _ _ | assumption | apply low_upd | apply low_upd0))); (focus (exact hn)); (focus (exact hc)))
  · exact .agg (ds := [.i .i64 t.kind, .i .i64 t.n, .s t.text]) rfl fun j h1 h2 => .flat (by
      match j, h1 with
      | 0, _ => rfl
      | 1, _ => rfl
      | 2, _ => rfl)
  · exact ⟨rfl, rfl⟩

theorem tysXTokD_toTokenSL : type_of% (And.intro ty_tg1 (And.intro ty_tg2 (And.intro ty_sz2 (And.intro ty_in2 (And.intro ty_tg3 (And.intro ty_sz3 (And.intro ty_in3 (And.intro ty_tg4 (And.intro ty_sz4 (And.intro ty_in4 (And.intro ty_tg5 (And.intro ty_sz5 (And.intro ty_in5 (And.intro ty_tg9 (And.intro ty_sz9 (And.intro ty_in9 (And.intro ty_tg18 (And.intro ty_sz18 (And.intro ty_in18 (And.intro ty_pl18 (And.intro ty_fd18_0 (And.intro ty_tg21 (And.intro ty_sz21 (And.intro ty_in21 (And.intro ty_tg22 (And.intro ty_sz22 (And.intro ty_in22 (And.intro ty_pl22 (And.intro ty_fd22_0 (And.intro ty_fd22_1 (And.intro ty_tg23 (And.intro ty_sz23 (And.intro ty_in23 (And.intro ty_pl23 (And.intro ty_fd23_0 (And.intro ty_fd23_1 (And.intro ty_tg32 (And.intro ty_sz32 (And.intro ty_in32 (And.intro ty_tg35 (And.intro ty_sz35 (And.intro ty_in35 (And.intro ty_tg63 (And.intro ty_tg78 (And.intro ty_sz78 (And.intro ty_in78 (And.intro ty_pl78 (And.intro ty_fd78_0 (And.intro ty_fd78_1 (And.intro ty_fd78_2 (And.intro ty_tg87 (And.intro ty_sz87 (And.intro ty_in87 (And.intro ty_pl87 (And.intro ty_fd87_0 (And.intro ty_fd87_1 (And.intro ty_fd87_2 (And.intro Try.underlying1 (And.intro Try.underlying2 (And.intro Try.underlying3 (And.intro Try.underlying4 (And.intro Try.underlying5 (And.intro Try.underlying6 (And.intro Try.underlying7 (And.intro Try.underlying9 (And.intro Try.underlying12 (And.intro Try.underlying13 (And.intro Try.underlying15 (And.intro Try.underlying16 (And.intro Try.underlying17 (And.intro Try.underlying18 (And.intro Try.underlying19 (And.intro Try.underlying21 (And.intro Try.underlying22 (And.intro Try.underlying23 (And.intro Try.underlying32 (And.intro Try.underlying35 (And.intro Try.underlying63 (And.intro Try.underlying78 (Try.underlying87)))))))))))))))))))))))))))))))))))))))))))))))))))))))))))))))))))))))))))))))) := And.intro ty_tg1 (And.intro ty_tg2 (And.intro ty_sz2 (And.intro ty_in2 (And.intro ty_tg3 (And.intro ty_sz3 (And.intro ty_in3 (And.intro ty_tg4 (And.intro ty_sz4 (And.intro ty_in4 (And.intro ty_tg5 (And.intro ty_sz5 (And.intro ty_in5 (And.intro ty_tg9 (And.intro ty_sz9 (And.intro ty_in9 (And.intro ty_tg18 (And.intro ty_sz18 (And.intro ty_in18 (And.intro ty_pl18 (And.intro ty_fd18_0 (And.intro ty_tg21 (And.intro ty_sz21 (And.intro ty_in21 (And.intro ty_tg22 (And.intro ty_sz22 (And.intro ty_in22 (And.intro ty_pl22 (And.intro ty_fd22_0 (And.intro ty_fd22_1 (And.intro ty_tg23 (And.intro ty_sz23 (And.intro ty_in23 (And.intro ty_pl23 (And.intro ty_fd23_0 (And.intro ty_fd23_1 (And.intro ty_tg32 (And.intro ty_sz32 (And.intro ty_in32 (And.intro ty_tg35 (And.intro ty_sz35 (And.intro ty_in35 (And.intro ty_tg63 (And.intro ty_tg78 (And.intro ty_sz78 (And.intro ty_in78 (And.intro ty_pl78 (And.intro ty_fd78_0 (And.intro ty_fd78_1 (And.intro ty_fd78_2 (And.intro ty_tg87 (And.intro ty_sz87 (And.intro ty_in87 (And.intro ty_pl87 (And.intro ty_fd87_0 (And.intro ty_fd87_1 (And.intro ty_fd87_2 (And.intro Try.underlying1 (And.intro Try.underlying2 (And.intro Try.underlying3 (And.intro Try.underlying4 (And.intro Try.underlying5 (And.intro Try.underlying6 (And.intro Try.underlying7 (And.intro Try.underlying9 (And.intro Try.underlying12 (And.intro Try.underlying13 (And.intro Try.underlying15 (And.intro Try.underlying16 (And.intro Try.underlying17 (And.intro Try.underlying18 (And.intro Try.underlying19 (And.intro Try.underlying21 (And.intro Try.underlying22 (And.intro Try.underlying23 (And.intro Try.underlying32 (And.intro Try.underlying35 (And.intro Try.underlying63 (And.intro Try.underlying78 (Try.underlying87)))))))))))))))))))))))))))))))))))))))))))))))))))))))))))))))))))))))))))))))
set_option maxHeartbeats 1000000 in
theorem aL_toTokenS (xs : List Tok) (hb : xs.length ≤ 1048576) (H : Hp) (n : Nat) (hsup : Sup n H) :
    ACalls Try.prog 21 [.is 3 (xs.map Tok.cs)] H (fun r H' => r = .os n 0 xs.length ∧ H' = upd H n (some ⟨0, 78, 3, Tok.flat xs⟩)) := by
  refine ACalls.introAt Try.func21 (by kernel_rfl) rfl (Nat.le_of_ble_eq_true rfl) n hsup fun hc => ?_; have hn := hsup; have hS : ∀ k, H (n + k) = none := fun k => hn (n + k) (by omega); have hS0 : H n = none := hn n (Nat.le_refl _); have hN : ∀ k, nv H (n + k) = 0 := fun k => nv_none (hS k); (try (first | rw [ienv1] | rw [ienv2] | rw [ienv3] | rw [ienv4]))
  have hmk1 : (xs.length : Int) * 32 ≤ 281474976710656 := by omega
  have hmk2 : (xs.length : Int) ≤ 281474976710656 := by omega
  repeat (first
    | with_reducible refine VC.seq ?_
    | with_reducible refine VC.region ?_
    | with_reducible refine VC.opsNil ?_
    | with_reducible refine VC.block ?_
    | with_reducible refine VC.blk ?_
    | with_reducible refine VC.skip ?_
    | with_reducible refine VC.scope ?_
    | refine VC.exit rfl ?_
    | ((first | apply s_opS rfl | apply s_opN | apply s_gq rfl | apply s_iq); (focus ((simp only [vsA, vsB, aop, aev, absV, absS, upd_at, aload, rd, afieldAddr, afield, cur, abin, aarith, astr, aun, aindexAddr, aindex, aextract, alen, nv_upd, astore, anil, aconv, asrc, aappend, amake, abuildSlice, abuild, afill, aslice, abnd, Value.cells, if_true, if_false, ite_true, ite_false, eq_self, ne_eq, reduceCtorEq, ↓reduceIte, ↓reduceDIte, Nat.reduceEqDiff, Nat.reduceAdd, Nat.reduceSub, Nat.reduceMul, Nat.reduceLeDiff, Nat.reduceLT, Int.reduceEq, Int.reduceLT, Int.reduceLE, Int.reduceToNat, Int.reduceAdd, Int.reduceNeg, Int.reduceSub, Int.reduceMul, Int.reduceNe, Nat.reduceBEq, Int.reduceBEq, tysXTokD_toTokenSL, ayield, Option.bind_some, Option.bind_none, hS, hN, hmk1, hmk2]) <;> exact rfl)); (with_reducible (first | refine vc_id ?_ | refine gqT ?_ | refine gqF ?_ | refine gqF' ?_ | refine gqU ?_ | refine iqT ?_ | refine iqF ?_)))
    | fail)
  let z : List AV := [.i .i64 0, .i .i64 0, .s ⟨#[]⟩]
  have hA := Tok.map_len xs
  refine VC.loop (fun ta H' => ∃ (k : Nat), k ≤ xs.length ∧ ta 0 = .is 3 (xs.map Tok.cs) ∧ ta 3 = .os (n + 7) 0 xs.length ∧ ta 4 = .i .i64 k ∧ H' (n + 7) = some ⟨0, 78, 3, (fillE (xs.map Tok.cs) z k).flatten⟩ ∧ Low n H H')
    (fun ta _ => xs.length - (aint (ta 4)).toNat) ?_ ?_
  · refine ⟨0, by omega, ?_⟩
    rw [fillE_zero, List.length_map]
    (repeat' apply And.intro) <;> (first | rfl | assumption | omega | (simp only [upd_at, Nat.reduceEqDiff, if_true, if_false, and_self, ↓reduceIte, and_true, true_and, Nat.add_left_cancel_iff, Nat.add_eq_left, aint, if_true]; done) | ((simp only [upd_at, Nat.reduceEqDiff, if_true, if_false, and_self, ↓reduceIte, and_true, true_and, Nat.add_left_cancel_iff, Nat.add_eq_left, aint, if_true]) <;> (first | rfl | assumption | omega)) | (focus (repeat (first | exact Low.refl _ _ | assumption | apply low_upd | apply low_upd0)); done))
  · rintro ta H1 ⟨k, hk, t0, t3, t4, b7, low⟩
    repeat (first
      | with_reducible refine VC.seq ?_
      | with_reducible refine VC.region ?_
      | with_reducible refine VC.opsNil ?_
      | with_reducible refine VC.block ?_
      | with_reducible refine VC.blk ?_
      | with_reducible refine VC.skip ?_
      | with_reducible refine VC.scope ?_
      | refine VC.exit rfl ?_
      | ((first | apply s_opS rfl | apply s_opN | apply s_gq rfl | apply s_iq); (focus ((simp only [vsA, vsB, aop, aev, absV, absS, upd_at, aload, rd, afieldAddr, afield, cur, abin, aarith, astr, aun, aindexAddr, aindex, aextract, alen, nv_upd, astore, anil, aconv, asrc, aappend, amake, abuildSlice, abuild, afill, aslice, abnd, Value.cells, if_true, if_false, ite_true, ite_false, eq_self, ne_eq, reduceCtorEq, ↓reduceIte, ↓reduceDIte, Nat.reduceEqDiff, Nat.reduceAdd, Nat.reduceSub, Nat.reduceMul, Nat.reduceLeDiff, Nat.reduceLT, Int.reduceEq, Int.reduceLT, Int.reduceLE, Int.reduceToNat, Int.reduceAdd, Int.reduceNeg, Int.reduceSub, Int.reduceMul, Int.reduceNe, Nat.reduceBEq, Int.reduceBEq, tysXTokD_toTokenSL, ayield, Option.bind_some, Option.bind_none, t0, t3, t4, b7]) <;> exact rfl)); (with_reducible (first | refine vc_id ?_ | refine gqT ?_ | refine gqF ?_ | refine gqF' ?_ | refine gqU ?_ | refine iqT ?_ | refine iqF ?_)))
      | fail)
    (apply s_if; focus ((simp only [vsB, aev, absV, absS, upd_at, if_true, if_false, ite_true, ite_false, eq_self, ne_eq, reduceCtorEq, ↓reduceIte, ↓reduceDIte, Nat.reduceEqDiff, Nat.reduceAdd, Nat.reduceSub, Nat.reduceMul, Nat.reduceLeDiff, Nat.reduceLT, Int.reduceEq, Int.reduceLT, Int.reduceLE, Int.reduceToNat, Int.reduceAdd, Int.reduceNeg, Int.reduceSub, Int.reduceMul, Int.reduceNe, Nat.reduceBEq, Int.reduceBEq, t0, t3, t4, b7]) <;> exact rfl))
    · intro hlt
      have hlt' : k < xs.length := by omega
      have hkid := List.getElem?_eq_getElem hlt'
      have hw2 := wrapN (k := k) (by omega)
      have hm : xs.length - (k + 1) < xs.length - k := by omega
      have hfl := fill_len (xs.map Tok.cs) z 3 k hA rfl (by rw [List.length_map]; omega)
      rw [List.length_map] at hfl
      have hle : k * 3 + 3 ≤ xs.length * 3 := by omega
      have hst := fill_step (xs.map Tok.cs) z 3 k hA rfl (by rw [List.length_map]; omega)
      rw [List.getElem_map] at hst
      repeat (first
        | with_reducible refine VC.seq ?_
        | with_reducible refine VC.region ?_
        | with_reducible refine VC.opsNil ?_
        | with_reducible refine VC.block ?_
        | with_reducible refine VC.blk ?_
        | with_reducible refine VC.skip ?_
        | with_reducible refine VC.scope ?_
        | refine VC.exit rfl ?_
        | ((first | apply s_opS rfl | apply s_opN | apply s_gq rfl | apply s_iq); (focus ((simp only [vsA, vsB, aop, aev, absV, absS, upd_at, aload, rd, afieldAddr, afield, cur, abin, aarith, astr, aun, aindexAddr, aindex, aextract, alen, nv_upd, astore, anil, aconv, asrc, aappend, amake, abuildSlice, abuild, afill, aslice, abnd, Value.cells, if_true, if_false, ite_true, ite_false, eq_self, ne_eq, reduceCtorEq, ↓reduceIte, ↓reduceDIte, Nat.reduceEqDiff, Nat.reduceAdd, Nat.reduceSub, Nat.reduceMul, Nat.reduceLeDiff, Nat.reduceLT, Int.reduceEq, Int.reduceLT, Int.reduceLE, Int.reduceToNat, Int.reduceAdd, Int.reduceNeg, Int.reduceSub, Int.reduceMul, Int.reduceNe, Nat.reduceBEq, Int.reduceBEq, tysXTokD_toTokenSL, ayield, Option.bind_some, Option.bind_none, t0, t3, t4, b7, hkid, hlt', hfl, hle, hw2, Tok.c_take, Tok.c_len, Tok.c_all, Tok.c_head, Tok.c_d1, Tok.c_d2]) <;> exact rfl)); (with_reducible (first | refine vc_id ?_ | refine gqT ?_ | refine gqF ?_ | refine gqF' ?_ | refine gqU ?_ | refine iqT ?_ | refine iqF ?_)))
        | (apply s_callI rfl; (focus (exact rfl)); (focus ((simp only [vsB, aev, absV, absS, upd_at, if_true, if_false, ite_true, ite_false, eq_self, ne_eq, reduceCtorEq, ↓reduceIte, ↓reduceDIte, Nat.reduceEqDiff, Nat.reduceAdd, Nat.reduceSub, Nat.reduceMul, Nat.reduceLeDiff, Nat.reduceLT, Int.reduceEq, Int.reduceLT, Int.reduceLE, Int.reduceToNat, Int.reduceAdd, Int.reduceNeg, Int.reduceSub, Int.reduceMul, Int.reduceNe, Nat.reduceBEq, Int.reduceBEq, t0, t3, t4, b7, hkid, hlt', hfl, hle, hw2, Tok.c_take, Tok.c_len, Tok.c_all, Tok.c_head, Tok.c_d1, Tok.c_d2]) <;> exact rfl)); (focus (exact aL_toToken _ _)))
        | fail)
      refine VC.back ?_
      rw [hst]
      refine ⟨⟨k + 1, hlt', ?_⟩, ?_⟩
      · (repeat' apply And.intro) <;> (first | rfl | assumption | omega | (simp only [upd_at, Nat.reduceEqDiff, if_true, if_false, and_self, ↓reduceIte, and_true, true_and, Nat.add_left_cancel_iff, Nat.add_eq_left, aint, t0, t3]; done) | ((simp only [upd_at, Nat.reduceEqDiff, if_true, if_false, and_self, ↓reduceIte, and_true, true_and, Nat.add_left_cancel_iff, Nat.add_eq_left, aint, t0, t3]) <;> (first | rfl | assumption | omega)) | (focus (repeat (first | exact Low.refl _ _ | assumption | apply low_upd | apply low_upd0)); done))
      · (repeat' apply And.intro) <;> (first | rfl | assumption | omega | (simp only [upd_at, Nat.reduceEqDiff, if_true, if_false, and_self, ↓reduceIte, and_true, true_and, Nat.add_left_cancel_iff, Nat.add_eq_left, aint, t4, Int.toNat_natCast]; done) | ((simp only [upd_at, Nat.reduceEqDiff, if_true, if_false, and_self, ↓reduceIte, and_true, true_and, Nat.add_left_cancel_iff, Nat.add_eq_left, aint, t4, Int.toNat_natCast]) <;> (first | rfl | assumption | omega)) | (focus (repeat (first | exact Low.refl _ _ | assumption | apply low_upd | apply low_upd0)); done))
    · intro hlt
      have : k = xs.length := by omega
      subst this
      have hfa : fillE (xs.map Tok.cs) z xs.length = xs.map Tok.cs := by have := fillE_all (xs.map Tok.cs) z; rwa [List.length_map] at this
      rw [hfa] at b7
      repeat (first
        | with_reducible refine VC.seq ?_
        | with_reducible refine VC.region ?_
        | with_reducible refine VC.opsNil ?_
        | with_reducible refine VC.block ?_
        | with_reducible refine VC.blk ?_
        | with_reducible refine VC.skip ?_
        | with_reducible refine VC.scope ?_
        | refine VC.exit rfl ?_
        | ((first | apply s_opS rfl | apply s_opN | apply s_gq rfl | apply s_iq); (focus ((simp only [vsA, vsB, aop, aev, absV, absS, upd_at, aload, rd, afieldAddr, afield, cur, abin, aarith, astr, aun, aindexAddr, aindex, aextract, alen, nv_upd, astore, anil, aconv, asrc, aappend, amake, abuildSlice, abuild, afill, aslice, abnd, Value.cells, if_true, if_false, ite_true, ite_false, eq_self, ne_eq, reduceCtorEq, ↓reduceIte, ↓reduceDIte, Nat.reduceEqDiff, Nat.reduceAdd, Nat.reduceSub, Nat.reduceMul, Nat.reduceLeDiff, Nat.reduceLT, Int.reduceEq, Int.reduceLT, Int.reduceLE, Int.reduceToNat, Int.reduceAdd, Int.reduceNeg, Int.reduceSub, Int.reduceMul, Int.reduceNe, Nat.reduceBEq, Int.reduceBEq, tysXTokD_toTokenSL, ayield, Option.bind_some, Option.bind_none, t0, t3, t4, b7]) <;> exact rfl)); (with_reducible (first | refine vc_id ?_ | refine gqT ?_ | refine gqF ?_ | refine gqF' ?_ | refine gqU ?_ | refine iqT ?_ | refine iqF ?_)))
        | fail)
      (first | apply VC.nil | apply VC.ret); (apply fin_own (H0 := H) b7 (by omega); (focus ((simp only [vsA, vsB, aop, aev, absV, absS, upd_at, aload, rd, afieldAddr, afield, cur, abin, aarith, astr, aun, aindexAddr, aindex, aextract, alen, nv_upd, astore, anil, aconv, asrc, aappend, amake, abuildSlice, abuild, afill, aslice, abnd, Value.cells, if_true, if_false, ite_true, ite_false, eq_self, ne_eq, reduceCtorEq, ↓reduceIte, ↓reduceDIte, Nat.reduceEqDiff, Nat.reduceAdd, Nat.reduceSub, Nat.reduceMul, Nat.reduceLeDiff, Nat.reduceLT, Int.reduceEq, Int.reduceLT, Int.reduceLE, Int.reduceToNat, Int.reduceAdd, Int.reduceNeg, Int.reduceSub, Int.reduceMul, Int.reduceNe, Nat.reduceBEq, Int.reduceBEq, tysXTokD_toTokenSL, ares, aresL, ares1, Try.results21, t3]) <;> exact rfl)); (focus (repeat (first | exact Low.refl _ _ | assumption | apply low_upd | apply low_upd0))); (focus (exact hn)); (focus (exact hc)))
      · exact Tok.flat_flat xs
      · exact .os (Nat.le_refl _) rfl b7 rfl (upd_same _ _ _) rfl
      · exact ⟨rfl, rfl⟩
end Go.Proofs.Ytpdpmcllpafjbaa

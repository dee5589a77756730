/- SizesOf of the program, by the new walk; that it is the reference's. -/
import Derived.Test.YtpdpmcllpafjbaaSize
namespace Go.Proofs.Ytpdpmcllpafjbaa
open Go.RowKit
set_option linter.unusedVariables false
set_option linter.unusedSimpArgs false

/-- On valid tokens a group's end is where its own marks close it. -/
theorem end_clos : ∀ (ts : List Tok) (base st : List Int) (i : Nat), st.head? = some 5 → tvRun (base ++ st) ts = some [] → endF ts st.length i = some (closF ts (st.count 5) i) := by
  intro ts
  induction ts with
  | nil =>
    intro base st i hst h
    rw [tvRun] at h
    cases h' : base ++ st with
    | nil => have := (List.append_eq_nil_iff.1 h').2; subst this; cases hst
    | cons x l => rw [h'] at h; cases h
  | cons t ts ih =>
    intro base st i hst h
    obtain ⟨st', rfl⟩ : ∃ st', st = 5 :: st' := by
      cases st with
      | nil => cases hst
      | cons x l => simp at hst; exact ⟨l, by rw [hst]⟩
    rw [tvRun] at h
    cases hs : tvStep (base ++ 5 :: st') t with
    | none => rw [hs] at h; cases h
    | some op =>
      rw [hs] at h
      change tvRun op ts = some [] at h
      unfold tvStep at hs
      rw [endF, closF]
      have hcnt : 0 < (5 :: st').count (5 : Int) := by simp
      split at hs
      · cases hs
      · split at hs
        · rename_i ho
          split at hs
          · cases hs
            rw [List.append_assoc] at h
            have := ih base (5 :: st' ++ [t.kind]) (i + 1) rfl (by simpa using h)
            have hopn : opn t ((5 :: st').length : Nat) = ((5 :: st' ++ [t.kind]).length : Nat) := by rw [opn, if_pos ho]; simp
            rw [hopn, if_neg (by simp; omega), this]
            rcases ho with ho | ho
            · rw [if_pos ho, ho, List.count_append, show List.count (5 : Int) [5] = 1 from rfl]; rfl
            · rw [if_neg (by omega), if_neg (by omega), ho, List.count_append, show List.count (5 : Int) [7] = 0 from rfl]; rfl
          · cases hs
        · rename_i ho
          split at hs
          · rename_i hc
            split at hs
            · rename_i hlast
              cases hs
              have hlast' : (5 :: st').getLast? = some (t.kind - 1) := by rw [List.getLast?_append, List.getLast?_cons, Option.some_or] at hlast; rw [List.getLast?_cons]; exact hlast
              have hdl : (base ++ 5 :: st').dropLast = base ++ (5 :: st').dropLast := List.dropLast_append_of_ne_nil (by simp)
              rw [hdl] at h
              have hopn : opn t ((5 :: st').length : Nat) = (st'.length : Nat) := by rw [opn, if_neg ho, if_pos hc]; simp
              rw [hopn]
              rcases List.eq_nil_or_concat st' with rfl | ⟨st2, x, rfl⟩
              · simp at hlast'
                have h6 : t.kind = 6 := by omega
                rw [if_pos (by rfl), if_neg (by omega), if_pos h6]
                simp
              · have hx : x = t.kind - 1 := by
                  have : (5 :: (st2 ++ [x])).getLast? = some x := (by rw [← List.cons_append, List.getLast?_concat])
                  rw [List.concat_eq_append] at hlast'
                  rw [this] at hlast'; simpa using hlast'
                rw [List.concat_eq_append] at h ⊢
                have hd2 : (5 :: (st2 ++ [x])).dropLast = 5 :: st2 := (by rw [← List.cons_append, List.dropLast_concat])
                rw [hd2] at h
                have := ih base (5 :: st2) (i + 1) rfl h
                rw [if_neg (by simp; omega)]
                have hl2 : ((st2 ++ [x]).length : Nat) = (5 :: st2).length := by simp
                rw [hl2, this]
                have e1 : (5 :: (st2 ++ [x])).count (5 : Int) = (5 :: st2).count 5 + [x].count 5 := by rw [← List.cons_append, List.count_append]
                rw [e1]
                rcases hc with h6 | h8
                · have : x = 5 := by omega
                  subst this
                  have hpos : 0 < (5 :: st2).count (5 : Int) := by simp
                  rw [if_neg (by omega), if_pos h6, if_neg]
                  · have e2 : (((5 :: st2).count (5 : Int) + [(5 : Int)].count 5 : Nat) : Int) - 1 = ((5 :: st2).count (5 : Int) : Nat) := by rw [show List.count (5 : Int) [5] = 1 from rfl]; omega
                    rw [e2]
                  · rw [show List.count (5 : Int) [5] = 1 from rfl]; omega
                · have : x = 7 := by omega
                  subst this
                  rw [if_neg (by omega), if_neg (by omega)]
                  rfl
            · cases hs
          · rename_i hc
            cases hs
            have := ih base (5 :: st') (i + 1) rfl h
            rw [opn, if_neg ho, if_neg hc, if_neg (by simp; omega), this, if_neg (by omega), if_neg (by omega)]

theorem tokens_at {xs : List Tok} (h : tokensB xs = true) (k : Nat) (hk : k < xs.length) (h5 : xs[k].kind = 5) : endF (xs.drop k) 0 k = some (closF (xs.drop k) 0 k) := by
  have hr : tvRun [] xs = some [] := by
    unfold tokensB at h
    have := (Bool.and_eq_true_iff.1 h).2
    simpa using this
  rw [← List.take_append_drop k xs, tvRun_append] at hr
  cases ho : tvRun [] (xs.take k) with
  | none => rw [ho] at hr; cases hr
  | some op =>
    rw [ho] at hr
    change tvRun op (xs.drop k) = some [] at hr
    rw [drop_at xs k hk, tvRun] at hr
    cases hs : tvStep op xs[k] with
    | none => rw [hs] at hr; cases hr
    | some op' =>
      rw [hs] at hr
      change tvRun op' (xs.drop (k + 1)) = some [] at hr
      have hop : op' = op ++ [5] := by
        unfold tvStep at hs
        split at hs
        · cases hs
        · rw [if_pos (.inl h5)] at hs
          split at hs
          · cases hs; rw [h5]
          · cases hs
      subst hop
      have := end_clos (xs.drop (k + 1)) op [5] (k + 1) rfl hr
      have hopn : opn xs[k] 0 = 0 + 1 := by rw [opn, if_pos (Or.inl h5)]
      rw [drop_at xs k hk, endF, closF, if_pos h5, hopn, if_neg (by omega)]
      exact this
theorem tokens_ok {xs : List Tok} (h : tokensB xs = true) : ∀ t ∈ xs, tokOk t = true := by
  have hr : tvRun [] xs = some [] := by
    unfold tokensB at h
    have := (Bool.and_eq_true_iff.1 h).2
    simpa using this
  have key : ∀ (ts : List Tok) (op o : List Int), tvRun op ts = some o → ∀ t ∈ ts, tokOk t = true := by
    intro ts
    induction ts with
    | nil => intro op o _ t ht; cases ht
    | cons t ts ih =>
      intro op o h u hu
      rw [tvRun] at h
      cases hs : tvStep op t with
      | none => rw [hs] at h; cases h
      | some op' =>
        rw [hs] at h
        rcases List.mem_cons.1 hu with rfl | hu
        · cases hk : tokOk u with
          | true => rfl
          | false => rw [tvStep_bad hk] at hs; cases hs
        · exact ih op' o h u hu
  exact key xs [] [] hr
theorem ok_text {t : Tok} (h : tokOk t = true) (h1 : t.kind ≠ 1) : t.text.size = 0 := by
  unfold tokOk at h
  rw [if_neg h1] at h
  split at h
  · exact (of_decide_eq_true h).1
  · exact (of_decide_eq_true h).2.2.1
theorem flat_same {t : Tok} (h : tokOk t = true) : flatI t = flatN t := by
  unfold flatI flatN
  split
  · rename_i h2; rw [ok_text h (by omega)]; rfl
  · omega
theorem szA_same : ∀ (ts : List Tok) (m : Int), (∀ t ∈ ts, tokOk t = true) → szA flatI ts m = szA flatN ts m := by
  intro ts
  induction ts with
  | nil => intro m _; rfl
  | cons t ts ih =>
    intro m h
    rw [szA, szA, flat_same (h t (by simp)), ih _ (fun t ht => h t (by simp [ht]))]
theorem needF_same {xs : List Tok} (h : tokensB xs = true) (k e : Nat) : needF flatI xs k e = needF flatN xs k e := by
  unfold needF
  rw [szA_same _ _ fun t ht => tokens_ok h t (List.mem_of_mem_drop (List.mem_of_mem_take ht))]
theorem size_same {xs : List Tok} (h : tokensB xs = true) (k : Nat) (hk : k < xs.length) : sizeI xs k xs[k] = sizeS xs k xs[k] := by
  have hok := tokens_ok h xs[k] (List.getElem_mem hk)
  unfold sizeI sizeS
  rw [needF_same h]
  split
  · rw [if_neg (by omega), flatN, if_neg (by omega)]
  · split
    · rw [if_neg (by omega), flatN, if_pos (by assumption)]
    · split
      · rfl
      · rw [flatN, if_neg (by assumption), ok_text hok (by assumption)]; rfl
theorem sizes_same {xs : List Tok} (h : tokensB xs = true) : sizes (sizeI xs) xs = sizes (sizeS xs) xs := by
  apply List.ext_getElem
  · rw [sizes_len, sizes_len]
  · intro k h1 h2
    rw [sizes_get, sizes_get]
    exact size_same h k (by rwa [sizes_len] at h1)

theorem tysXSize2_SizesOfI : type_of% (And.intro ty_tg1 (And.intro ty_tg2 (And.intro ty_sz2 (And.intro ty_in2 (And.intro ty_tg3 (And.intro ty_sz3 (And.intro ty_in3 (And.intro ty_tg4 (And.intro ty_sz4 (And.intro ty_in4 (And.intro ty_tg5 (And.intro ty_sz5 (And.intro ty_in5 (And.intro ty_tg9 (And.intro ty_sz9 (And.intro ty_in9 (And.intro ty_tg18 (And.intro ty_sz18 (And.intro ty_in18 (And.intro ty_pl18 (And.intro ty_fd18_0 (And.intro ty_tg21 (And.intro ty_sz21 (And.intro ty_in21 (And.intro ty_tg22 (And.intro ty_sz22 (And.intro ty_in22 (And.intro ty_pl22 (And.intro ty_fd22_0 (And.intro ty_fd22_1 (And.intro ty_tg23 (And.intro ty_sz23 (And.intro ty_in23 (And.intro ty_pl23 (And.intro ty_fd23_0 (And.intro ty_fd23_1 (And.intro ty_tg24 (And.intro ty_tg25 (And.intro ty_sz25 (And.intro ty_in25 (And.intro ty_pl25 (And.intro ty_fd25_0 (And.intro ty_fd25_1 (And.intro ty_tg26 (And.intro ty_tg27 (And.intro ty_tg28 (And.intro ty_sz28 (And.intro ty_in28 (And.intro ty_tg30 (And.intro ty_tg31 (And.intro ty_tg32 (And.intro ty_sz32 (And.intro ty_in32 (And.intro ty_tg33 (And.intro ty_tg34 (And.intro ty_tg35 (And.intro ty_sz35 (And.intro ty_in35 (And.intro ty_tg36 (And.intro ty_tg37 (And.intro ty_tg38 (And.intro ty_tg39 (And.intro ty_sz39 (And.intro ty_in39 (And.intro ty_tg40 (And.intro ty_tg42 (And.intro ty_tg43 (And.intro ty_sz43 (And.intro ty_in43 (And.intro ty_tg44 (And.intro ty_tg45 (And.intro ty_tg46 (And.intro ty_tg47 (And.intro ty_tg48 (And.intro ty_sz48 (And.intro ty_in48 (And.intro ty_tg50 (And.intro ty_sz50 (And.intro ty_in50 (And.intro ty_pl50 (And.intro ty_fd50_0 (And.intro ty_fd50_1 (And.intro ty_fd50_2 (And.intro ty_fd50_3 (And.intro ty_tg64 (And.intro ty_sz64 (And.intro ty_in64 (And.intro ty_tg78 (And.intro ty_sz78 (And.intro ty_in78 (And.intro ty_pl78 (And.intro ty_fd78_0 (And.intro ty_fd78_1 (And.intro ty_fd78_2 (And.intro ty_tg82 (And.intro ty_tg87 (And.intro ty_sz87 (And.intro ty_in87 (And.intro ty_pl87 (And.intro ty_fd87_0 (And.intro ty_fd87_1 (And.intro ty_fd87_2 (And.intro ty_tg89 (And.intro ty_tg94 (And.intro ty_sz94 (And.intro ty_in94 (And.intro ty_pl94 (And.intro ty_fd94_0 (And.intro ty_fd94_1 (And.intro ty_tg97 (And.intro ty_sz97 (And.intro ty_in97 (And.intro ty_pl97 (And.intro ty_fd97_0 (And.intro ty_fd97_1 (And.intro Try.underlying1 (And.intro Try.underlying2 (And.intro Try.underlying3 (And.intro Try.underlying4 (And.intro Try.underlying5 (And.intro Try.underlying6 (And.intro Try.underlying7 (And.intro Try.underlying9 (And.intro Try.underlying12 (And.intro Try.underlying13 (And.intro Try.underlying15 (And.intro Try.underlying16 (And.intro Try.underlying17 (And.intro Try.underlying18 (And.intro Try.underlying19 (And.intro Try.underlying21 (And.intro Try.underlying22 (And.intro Try.underlying23 (And.intro Try.underlying24 (And.intro Try.underlying25 (And.intro Try.underlying26 (And.intro Try.underlying27 (And.intro Try.underlying28 (And.intro Try.underlying30 (And.intro Try.underlying31 (And.intro Try.underlying32 (And.intro Try.underlying33 (And.intro Try.underlying34 (And.intro Try.underlying35 (And.intro Try.underlying36 (And.intro Try.underlying37 (And.intro Try.underlying38 (And.intro Try.underlying39 (And.intro Try.underlying40 (And.intro Try.underlying42 (And.intro Try.underlying43 (And.intro Try.underlying44 (And.intro Try.underlying45 (And.intro Try.underlying46 (And.intro Try.underlying47 (And.intro Try.underlying48 (And.intro Try.underlying50 (And.intro Try.underlying64 (And.intro Try.underlying78 (And.intro Try.underlying82 (And.intro Try.underlying87 (And.intro Try.underlying89 (And.intro Try.underlying94 (Try.underlying97)))))))))))))))))))))))))))))))))))))))))))))))))))))))))))))))))))))))))))))))))))))))))))))))))))))))))))))))))))))))))))))))))))))))))))))))))))))))))))))))))))) := And.intro ty_tg1 (And.intro ty_tg2 (And.intro ty_sz2 (And.intro ty_in2 (And.intro ty_tg3 (And.intro ty_sz3 (And.intro ty_in3 (And.intro ty_tg4 (And.intro ty_sz4 (And.intro ty_in4 (And.intro ty_tg5 (And.intro ty_sz5 (And.intro ty_in5 (And.intro ty_tg9 (And.intro ty_sz9 (And.intro ty_in9 (And.intro ty_tg18 (And.intro ty_sz18 (And.intro ty_in18 (And.intro ty_pl18 (And.intro ty_fd18_0 (And.intro ty_tg21 (And.intro ty_sz21 (And.intro ty_in21 (And.intro ty_tg22 (And.intro ty_sz22 (And.intro ty_in22 (And.intro ty_pl22 (And.intro ty_fd22_0 (And.intro ty_fd22_1 (And.intro ty_tg23 (And.intro ty_sz23 (And.intro ty_in23 (And.intro ty_pl23 (And.intro ty_fd23_0 (And.intro ty_fd23_1 (And.intro ty_tg24 (And.intro ty_tg25 (And.intro ty_sz25 (And.intro ty_in25 (And.intro ty_pl25 (And.intro ty_fd25_0 (And.intro ty_fd25_1 (And.intro ty_tg26 (And.intro ty_tg27 (And.intro ty_tg28 (And.intro ty_sz28 (And.intro ty_in28 (And.intro ty_tg30 (And.intro ty_tg31 (And.intro ty_tg32 (And.intro ty_sz32 (And.intro ty_in32 (And.intro ty_tg33 (And.intro ty_tg34 (And.intro ty_tg35 (And.intro ty_sz35 (And.intro ty_in35 (And.intro ty_tg36 (And.intro ty_tg37 (And.intro ty_tg38 (And.intro ty_tg39 (And.intro ty_sz39 (And.intro ty_in39 (And.intro ty_tg40 (And.intro ty_tg42 (And.intro ty_tg43 (And.intro ty_sz43 (And.intro ty_in43 (And.intro ty_tg44 (And.intro ty_tg45 (And.intro ty_tg46 (And.intro ty_tg47 (And.intro ty_tg48 (And.intro ty_sz48 (And.intro ty_in48 (And.intro ty_tg50 (And.intro ty_sz50 (And.intro ty_in50 (And.intro ty_pl50 (And.intro ty_fd50_0 (And.intro ty_fd50_1 (And.intro ty_fd50_2 (And.intro ty_fd50_3 (And.intro ty_tg64 (And.intro ty_sz64 (And.intro ty_in64 (And.intro ty_tg78 (And.intro ty_sz78 (And.intro ty_in78 (And.intro ty_pl78 (And.intro ty_fd78_0 (And.intro ty_fd78_1 (And.intro ty_fd78_2 (And.intro ty_tg82 (And.intro ty_tg87 (And.intro ty_sz87 (And.intro ty_in87 (And.intro ty_pl87 (And.intro ty_fd87_0 (And.intro ty_fd87_1 (And.intro ty_fd87_2 (And.intro ty_tg89 (And.intro ty_tg94 (And.intro ty_sz94 (And.intro ty_in94 (And.intro ty_pl94 (And.intro ty_fd94_0 (And.intro ty_fd94_1 (And.intro ty_tg97 (And.intro ty_sz97 (And.intro ty_in97 (And.intro ty_pl97 (And.intro ty_fd97_0 (And.intro ty_fd97_1 (And.intro Try.underlying1 (And.intro Try.underlying2 (And.intro Try.underlying3 (And.intro Try.underlying4 (And.intro Try.underlying5 (And.intro Try.underlying6 (And.intro Try.underlying7 (And.intro Try.underlying9 (And.intro Try.underlying12 (And.intro Try.underlying13 (And.intro Try.underlying15 (And.intro Try.underlying16 (And.intro Try.underlying17 (And.intro Try.underlying18 (And.intro Try.underlying19 (And.intro Try.underlying21 (And.intro Try.underlying22 (And.intro Try.underlying23 (And.intro Try.underlying24 (And.intro Try.underlying25 (And.intro Try.underlying26 (And.intro Try.underlying27 (And.intro Try.underlying28 (And.intro Try.underlying30 (And.intro Try.underlying31 (And.intro Try.underlying32 (And.intro Try.underlying33 (And.intro Try.underlying34 (And.intro Try.underlying35 (And.intro Try.underlying36 (And.intro Try.underlying37 (And.intro Try.underlying38 (And.intro Try.underlying39 (And.intro Try.underlying40 (And.intro Try.underlying42 (And.intro Try.underlying43 (And.intro Try.underlying44 (And.intro Try.underlying45 (And.intro Try.underlying46 (And.intro Try.underlying47 (And.intro Try.underlying48 (And.intro Try.underlying50 (And.intro Try.underlying64 (And.intro Try.underlying78 (And.intro Try.underlying82 (And.intro Try.underlying87 (And.intro Try.underlying89 (And.intro Try.underlying94 (Try.underlying97)))))))))))))))))))))))))))))))))))))))))))))))))))))))))))))))))))))))))))))))))))))))))))))))))))))))))))))))))))))))))))))))))))))))))))))))))))))))))))))))))))
set_option maxHeartbeats 2000000 in
theorem aI_SizesOf0 (xs : List Tok) (hx : tokensB xs = false) (ht : ∀ t ∈ xs, t.text.size ≤ maxLen) (H : Hp) :
    ACalls Try.prog 42 [.is 3 (xs.map Tok.cs)] H (fun r H' => r = .tup [.ns, .b false] ∧ H' = H) := by
  have hval := aI_TokensValid xs ht
  rw [hx] at hval
  refine ACalls.intro Try.func42 (by kernel_rfl) rfl (Nat.le_of_ble_eq_true rfl) fun n hn hc => ?_; have hS : ∀ k, H (n + k) = none := fun k => hn (n + k) (by omega); have hS0 : H n = none := hn n (Nat.le_refl _); have hN : ∀ k, nv H (n + k) = 0 := fun k => nv_none (hS k); (try (first | rw [ienv1] | rw [ienv2] | rw [ienv3] | rw [ienv4]))
  repeat (first
    | with_reducible refine VC.seq ?_
    | with_reducible refine VC.region ?_
    | with_reducible refine VC.opsNil ?_
    | with_reducible refine VC.block ?_
    | with_reducible refine VC.blk ?_
    | with_reducible refine VC.skip ?_
    | with_reducible refine VC.scope ?_
    | refine VC.exit rfl ?_
    | ((first | apply s_opS rfl | apply s_opN | apply s_gq rfl | apply s_iq); (focus ((simp only [vsA, vsB, aop, aev, absV, absS, upd_at, aload, rd, afieldAddr, afield, cur, abin, aarith, astr, aun, aindexAddr, aindex, aextract, alen, nv_upd, astore, anil, aconv, asrc, aappend, amake, abuildSlice, abuild, afill, aslice, abnd, Value.cells, if_true, if_false, ite_true, ite_false, eq_self, ne_eq, reduceCtorEq, ↓reduceIte, ↓reduceDIte, Nat.reduceEqDiff, Nat.reduceAdd, Nat.reduceSub, Nat.reduceMul, Nat.reduceLeDiff, Nat.reduceLT, Int.reduceEq, Int.reduceLT, Int.reduceLE, Int.reduceToNat, Int.reduceAdd, Int.reduceNeg, Int.reduceSub, Int.reduceMul, Int.reduceNe, Nat.reduceBEq, Int.reduceBEq, tysXSize2_SizesOfI, ayield, Option.bind_some, Option.bind_none, hS, hN]) <;> exact rfl)); (with_reducible (first | refine vc_id ?_ | refine gqT ?_ | refine gqF ?_ | refine gqF' ?_ | refine gqU ?_ | refine iqT ?_ | refine iqF ?_)))
    | (apply s_callI rfl; (focus (exact rfl)); (focus ((simp only [vsB, aev, absV, absS, upd_at, if_true, if_false, ite_true, ite_false, eq_self, ne_eq, reduceCtorEq, ↓reduceIte, ↓reduceDIte, Nat.reduceEqDiff, Nat.reduceAdd, Nat.reduceSub, Nat.reduceMul, Nat.reduceLeDiff, Nat.reduceLT, Int.reduceEq, Int.reduceLT, Int.reduceLE, Int.reduceToNat, Int.reduceAdd, Int.reduceNeg, Int.reduceSub, Int.reduceMul, Int.reduceNe, Nat.reduceBEq, Int.reduceBEq, hS, hN]) <;> exact rfl)); (focus (exact hval _)))
    | fail)
  (first | apply VC.nil | apply VC.ret); (apply fin_low (H0 := H); (focus ((simp only [vsA, vsB, aop, aev, absV, absS, upd_at, aload, rd, afieldAddr, afield, cur, abin, aarith, astr, aun, aindexAddr, aindex, aextract, alen, nv_upd, astore, anil, aconv, asrc, aappend, amake, abuildSlice, abuild, afill, aslice, abnd, Value.cells, if_true, if_false, ite_true, ite_false, eq_self, ne_eq, reduceCtorEq, ↓reduceIte, ↓reduceDIte, Nat.reduceEqDiff, Nat.reduceAdd, Nat.reduceSub, Nat.reduceMul, Nat.reduceLeDiff, Nat.reduceLT, Int.reduceEq, Int.reduceLT, Int.reduceLE, Int.reduceToNat, Int.reduceAdd, Int.reduceNeg, Int.reduceSub, Int.reduceMul, Int.reduceNe, Nat.reduceBEq, Int.reduceBEq, tysXSize2_SizesOfI, ares, aresL, ares1, Try.results42, if_true]) <;> exact rfl)); (focus (repeat (first | exact Low.refl _ _ | assumption | apply low_upd | apply low_upd0))); (focus (exact hn)); (focus (exact hc)))
  · exact pub_tup2 (.flat rfl) (.flat rfl)
  · exact ⟨rfl, rfl⟩

theorem ints_step (zs : List Int) (k : Nat) (h : k < zs.length) :
    (fillE (intsE zs) [.i .i64 0] k).flatten.take k ++ [.i .i64 zs[k]] ++ (fillE (intsE zs) [.i .i64 0] k).flatten.drop (k + 1) = (fillE (intsE zs) [.i .i64 0] (k + 1)).flatten := by
  have := fill_step (intsE zs) [.i .i64 0] 1 k (intsE_mem zs) rfl (by rw [intsE_len]; exact h)
  rw [Nat.mul_one] at this
  rw [← this]
  simp [intsE]
theorem ints_skip (zs : List Int) (k : Nat) (h : k < zs.length) (h0 : zs[k] = 0) : (fillE (intsE zs) [.i .i64 0] (k + 1)).flatten = (fillE (intsE zs) [.i .i64 0] k).flatten := by
  unfold fillE
  rw [intsE_len]
  obtain ⟨m, hm⟩ : ∃ m, zs.length - k = m + 1 := ⟨zs.length - k - 1, by omega⟩
  rw [hm, List.replicate_succ, List.take_succ_eq_append_getElem (by rw [intsE_len]; exact h), show zs.length - (k + 1) = m by omega, List.append_assoc]
  congr 2
  simp [intsE, h0]

set_option maxHeartbeats 4000000 in
theorem aI_SizesOf1 (xs : List Tok) (hx : tokensB xs = true) (hb : Small xs) (ht : ∀ t ∈ xs, t.text.size ≤ maxLen) (H : Hp) (n : Nat) (hsup : Sup n H) :
    ACalls Try.prog 42 [.is 3 (xs.map Tok.cs)] H (fun r H' => r = .tup [.os n 0 xs.length, .b true] ∧ H' = upd H n (some ⟨0, 3, 1, ints (sizes (sizeI xs) xs)⟩)) := by
  have hval := aI_TokensValid xs ht
  rw [hx] at hval
  have hzl := sizes_len (sizeI xs) xs
  have hb1 := hb.1
  refine ACalls.introAt Try.func42 (by kernel_rfl) rfl (Nat.le_of_ble_eq_true rfl) n hsup fun hc => ?_; have hn := hsup; have hS : ∀ k, H (n + k) = none := fun k => hn (n + k) (by omega); have hS0 : H n = none := hn n (Nat.le_refl _); have hN : ∀ k, nv H (n + k) = 0 := fun k => nv_none (hS k); (try (first | rw [ienv1] | rw [ienv2] | rw [ienv3] | rw [ienv4]))
  have hmk1 : (xs.length : Int) * 8 ≤ 281474976710656 := by omega
  have hmk2 : (xs.length : Int) ≤ 281474976710656 := by omega
  repeat (first
    | with_reducible refine VC.seq ?_
    | with_reducible refine VC.region ?_
    | with_reducible refine VC.opsNil ?_
    | with_reducible refine VC.block ?_
    | with_reducible refine VC.blk ?_
    | with_reducible refine VC.skip ?_
    | with_reducible refine VC.scope ?_
    | refine VC.exit rfl ?_
    | ((first | apply s_opS rfl | apply s_opN | apply s_gq rfl | apply s_iq); (focus ((simp only [vsA, vsB, aop, aev, absV, absS, upd_at, aload, rd, afieldAddr, afield, cur, abin, aarith, astr, aun, aindexAddr, aindex, aextract, alen, nv_upd, astore, anil, aconv, asrc, aappend, amake, abuildSlice, abuild, afill, aslice, abnd, Value.cells, if_true, if_false, ite_true, ite_false, eq_self, ne_eq, reduceCtorEq, ↓reduceIte, ↓reduceDIte, Nat.reduceEqDiff, Nat.reduceAdd, Nat.reduceSub, Nat.reduceMul, Nat.reduceLeDiff, Nat.reduceLT, Int.reduceEq, Int.reduceLT, Int.reduceLE, Int.reduceToNat, Int.reduceAdd, Int.reduceNeg, Int.reduceSub, Int.reduceMul, Int.reduceNe, Nat.reduceBEq, Int.reduceBEq, tysXSize2_SizesOfI, ayield, Option.bind_some, Option.bind_none, hS, hN, hmk1, hmk2]) <;> exact rfl)); (with_reducible (first | refine vc_id ?_ | refine gqT ?_ | refine gqF ?_ | refine gqF' ?_ | refine gqU ?_ | refine iqT ?_ | refine iqF ?_)))
    | (apply s_callI rfl; (focus (exact rfl)); (focus ((simp only [vsB, aev, absV, absS, upd_at, if_true, if_false, ite_true, ite_false, eq_self, ne_eq, reduceCtorEq, ↓reduceIte, ↓reduceDIte, Nat.reduceEqDiff, Nat.reduceAdd, Nat.reduceSub, Nat.reduceMul, Nat.reduceLeDiff, Nat.reduceLT, Int.reduceEq, Int.reduceLT, Int.reduceLE, Int.reduceToNat, Int.reduceAdd, Int.reduceNeg, Int.reduceSub, Int.reduceMul, Int.reduceNe, Nat.reduceBEq, Int.reduceBEq, hS, hN, hmk1, hmk2]) <;> exact rfl)); (focus (exact hval _)))
    | fail)
  refine VC.loop (fun ta H' => ∃ (k : Nat), k ≤ xs.length ∧ ta 0 = .is 3 (xs.map Tok.cs) ∧ ta 13 = .is 3 (xs.map Tok.cs) ∧ ta 14 = .i .i64 xs.length ∧ ta 4 = .os (n + 12) 0 xs.length ∧ ta 15 = .i .i64 k ∧
      H' (n + 12) = some ⟨0, 3, 1, (fillE (intsE (sizes (sizeI xs) xs)) [.i .i64 0] k).flatten⟩ ∧ Low n H H')
    (fun ta _ => xs.length - (aint (ta 15)).toNat) ?_ ?_
  · refine ⟨0, by omega, ?_⟩
    rw [fillE_zero, intsE_len, hzl]
    (repeat' apply And.intro) <;> (first | rfl | assumption | omega | (simp only [upd_at, Nat.reduceEqDiff, if_true, if_false, and_self, ↓reduceIte, and_true, true_and, Nat.add_left_cancel_iff, Nat.add_eq_left, aint, if_true]; done) | ((simp only [upd_at, Nat.reduceEqDiff, if_true, if_false, and_self, ↓reduceIte, and_true, true_and, Nat.add_left_cancel_iff, Nat.add_eq_left, aint, if_true]) <;> (first | rfl | assumption | omega)) | (focus (repeat (first | exact Low.refl _ _ | assumption | apply low_upd | apply low_upd0)); done))
  · rintro ta H1 ⟨k, hk, t0, t13, t14, t4, t15, b12, low⟩
    repeat (first
      | with_reducible refine VC.seq ?_
      | with_reducible refine VC.region ?_
      | with_reducible refine VC.opsNil ?_
      | with_reducible refine VC.block ?_
      | with_reducible refine VC.blk ?_
      | with_reducible refine VC.skip ?_
      | with_reducible refine VC.scope ?_
      | refine VC.exit rfl ?_
      | ((first | apply s_opS rfl | apply s_opN | apply s_gq rfl | apply s_iq); (focus ((simp only [vsA, vsB, aop, aev, absV, absS, upd_at, aload, rd, afieldAddr, afield, cur, abin, aarith, astr, aun, aindexAddr, aindex, aextract, alen, nv_upd, astore, anil, aconv, asrc, aappend, amake, abuildSlice, abuild, afill, aslice, abnd, Value.cells, if_true, if_false, ite_true, ite_false, eq_self, ne_eq, reduceCtorEq, ↓reduceIte, ↓reduceDIte, Nat.reduceEqDiff, Nat.reduceAdd, Nat.reduceSub, Nat.reduceMul, Nat.reduceLeDiff, Nat.reduceLT, Int.reduceEq, Int.reduceLT, Int.reduceLE, Int.reduceToNat, Int.reduceAdd, Int.reduceNeg, Int.reduceSub, Int.reduceMul, Int.reduceNe, Nat.reduceBEq, Int.reduceBEq, tysXSize2_SizesOfI, ayield, Option.bind_some, Option.bind_none, t0, t13, t14, t4, t15, b12]) <;> exact rfl)); (with_reducible (first | refine vc_id ?_ | refine gqT ?_ | refine gqF ?_ | refine gqF' ?_ | refine gqU ?_ | refine iqT ?_ | refine iqF ?_)))
      | fail)
    (apply s_if; focus ((simp only [vsB, aev, absV, absS, upd_at, if_true, if_false, ite_true, ite_false, eq_self, ne_eq, reduceCtorEq, ↓reduceIte, ↓reduceDIte, Nat.reduceEqDiff, Nat.reduceAdd, Nat.reduceSub, Nat.reduceMul, Nat.reduceLeDiff, Nat.reduceLT, Int.reduceEq, Int.reduceLT, Int.reduceLE, Int.reduceToNat, Int.reduceAdd, Int.reduceNeg, Int.reduceSub, Int.reduceMul, Int.reduceNe, Nat.reduceBEq, Int.reduceBEq, t0, t13, t14, t4, t15, b12]) <;> exact rfl))
    · intro hlt
      have hlt' : k < xs.length := by omega
      have hkid := List.getElem?_eq_getElem hlt'
      have hw2 := wrapN (k := k) (by omega)
      have hm : xs.length - (k + 1) < xs.length - k := by omega
      have hz := sizes_get (sizeI xs) xs k (by omega)
      have hst := ints_step (sizes (sizeI xs) xs) k (by omega)
      rw [hz] at hst
      have hll : (fillE (intsE (sizes (sizeI xs) xs)) [.i .i64 0] k).flatten.length = xs.length := by rw [fill_len _ _ 1 k (intsE_mem _) rfl (by rw [intsE_len]; omega), intsE_len, hzl, Nat.mul_one]
      have hsk := ints_skip (sizes (sizeI xs) xs) k (by omega)
      rw [hz] at hsk
      have hle : k + 1 ≤ xs.length := hlt'
      by_cases h1 : xs[k].kind = 1
      · have h1' : decide (xs[k].kind = 1) = true := by simpa using h1
        have hsz : sizeI xs k xs[k] = xs[k].text.size := by rw [sizeI, if_pos h1]
        rw [hsz] at hst
        repeat (first
          | with_reducible refine VC.seq ?_
          | with_reducible refine VC.region ?_
          | with_reducible refine VC.opsNil ?_
          | with_reducible refine VC.block ?_
          | with_reducible refine VC.blk ?_
          | with_reducible refine VC.skip ?_
          | with_reducible refine VC.scope ?_
          | refine VC.exit rfl ?_
          | ((first | apply s_opS rfl | apply s_opN | apply s_gq rfl | apply s_iq); (focus ((simp only [vsA, vsB, aop, aev, absV, absS, upd_at, aload, rd, afieldAddr, afield, cur, abin, aarith, astr, aun, aindexAddr, aindex, aextract, alen, nv_upd, astore, anil, aconv, asrc, aappend, amake, abuildSlice, abuild, afill, aslice, abnd, Value.cells, if_true, if_false, ite_true, ite_false, eq_self, ne_eq, reduceCtorEq, ↓reduceIte, ↓reduceDIte, Nat.reduceEqDiff, Nat.reduceAdd, Nat.reduceSub, Nat.reduceMul, Nat.reduceLeDiff, Nat.reduceLT, Int.reduceEq, Int.reduceLT, Int.reduceLE, Int.reduceToNat, Int.reduceAdd, Int.reduceNeg, Int.reduceSub, Int.reduceMul, Int.reduceNe, Nat.reduceBEq, Int.reduceBEq, tysXSize2_SizesOfI, ayield, Option.bind_some, Option.bind_none, t0, t13, t14, t4, t15, b12, hkid, h1', hll, hlt', hle, hw2, Tok.cs]) <;> exact rfl)); (with_reducible (first | refine vc_id ?_ | refine gqT ?_ | refine gqF ?_ | refine gqF' ?_ | refine gqU ?_ | refine iqT ?_ | refine iqF ?_)))
          | fail)
        refine VC.back ?_
        rw [hst]
        refine ⟨⟨k + 1, hlt', ?_⟩, ?_⟩
        · (repeat' apply And.intro) <;> (first | rfl | assumption | omega | (simp only [upd_at, Nat.reduceEqDiff, if_true, if_false, and_self, ↓reduceIte, and_true, true_and, Nat.add_left_cancel_iff, Nat.add_eq_left, aint, t0, t13, t14, t4]; done) | ((simp only [upd_at, Nat.reduceEqDiff, if_true, if_false, and_self, ↓reduceIte, and_true, true_and, Nat.add_left_cancel_iff, Nat.add_eq_left, aint, t0, t13, t14, t4]) <;> (first | rfl | assumption | omega)) | (focus (repeat (first | exact Low.refl _ _ | assumption | apply low_upd | apply low_upd0)); done))
        · (repeat' apply And.intro) <;> (first | rfl | assumption | omega | (simp only [upd_at, Nat.reduceEqDiff, if_true, if_false, and_self, ↓reduceIte, and_true, true_and, Nat.add_left_cancel_iff, Nat.add_eq_left, aint, t15, Int.toNat_natCast]; done) | ((simp only [upd_at, Nat.reduceEqDiff, if_true, if_false, and_self, ↓reduceIte, and_true, true_and, Nat.add_left_cancel_iff, Nat.add_eq_left, aint, t15, Int.toNat_natCast]) <;> (first | rfl | assumption | omega)) | (focus (repeat (first | exact Low.refl _ _ | assumption | apply low_upd | apply low_upd0)); done))
      · have h1' : decide (xs[k].kind = 1) = false := by simpa using h1
        by_cases h2 : xs[k].kind = 2
        · have h2' : decide (xs[k].kind = 2) = true := by simpa using h2
          have hsz : sizeI xs k xs[k] = 1 := by rw [sizeI, if_neg h1, if_pos h2]
          rw [hsz] at hst
          repeat (first
            | with_reducible refine VC.seq ?_
            | with_reducible refine VC.region ?_
            | with_reducible refine VC.opsNil ?_
            | with_reducible refine VC.block ?_
            | with_reducible refine VC.blk ?_
            | with_reducible refine VC.skip ?_
            | with_reducible refine VC.scope ?_
            | refine VC.exit rfl ?_
            | ((first | apply s_opS rfl | apply s_opN | apply s_gq rfl | apply s_iq); (focus ((simp only [vsA, vsB, aop, aev, absV, absS, upd_at, aload, rd, afieldAddr, afield, cur, abin, aarith, astr, aun, aindexAddr, aindex, aextract, alen, nv_upd, astore, anil, aconv, asrc, aappend, amake, abuildSlice, abuild, afill, aslice, abnd, Value.cells, if_true, if_false, ite_true, ite_false, eq_self, ne_eq, reduceCtorEq, ↓reduceIte, ↓reduceDIte, Nat.reduceEqDiff, Nat.reduceAdd, Nat.reduceSub, Nat.reduceMul, Nat.reduceLeDiff, Nat.reduceLT, Int.reduceEq, Int.reduceLT, Int.reduceLE, Int.reduceToNat, Int.reduceAdd, Int.reduceNeg, Int.reduceSub, Int.reduceMul, Int.reduceNe, Nat.reduceBEq, Int.reduceBEq, tysXSize2_SizesOfI, ayield, Option.bind_some, Option.bind_none, t0, t13, t14, t4, t15, b12, hkid, h1', h2', hll, hlt', hle, hw2, Tok.cs]) <;> exact rfl)); (with_reducible (first | refine vc_id ?_ | refine gqT ?_ | refine gqF ?_ | refine gqF' ?_ | refine gqU ?_ | refine iqT ?_ | refine iqF ?_)))
            | fail)
          refine VC.back ?_
          rw [hst]
          refine ⟨⟨k + 1, hlt', ?_⟩, ?_⟩
          · (repeat' apply And.intro) <;> (first | rfl | assumption | omega | (simp only [upd_at, Nat.reduceEqDiff, if_true, if_false, and_self, ↓reduceIte, and_true, true_and, Nat.add_left_cancel_iff, Nat.add_eq_left, aint, t0, t13, t14, t4]; done) | ((simp only [upd_at, Nat.reduceEqDiff, if_true, if_false, and_self, ↓reduceIte, and_true, true_and, Nat.add_left_cancel_iff, Nat.add_eq_left, aint, t0, t13, t14, t4]) <;> (first | rfl | assumption | omega)) | (focus (repeat (first | exact Low.refl _ _ | assumption | apply low_upd | apply low_upd0)); done))
          · (repeat' apply And.intro) <;> (first | rfl | assumption | omega | (simp only [upd_at, Nat.reduceEqDiff, if_true, if_false, and_self, ↓reduceIte, and_true, true_and, Nat.add_left_cancel_iff, Nat.add_eq_left, aint, t15, Int.toNat_natCast]; done) | ((simp only [upd_at, Nat.reduceEqDiff, if_true, if_false, and_self, ↓reduceIte, and_true, true_and, Nat.add_left_cancel_iff, Nat.add_eq_left, aint, t15, Int.toNat_natCast]) <;> (first | rfl | assumption | omega)) | (focus (repeat (first | exact Low.refl _ _ | assumption | apply low_upd | apply low_upd0)); done))
        · have h2' : decide (xs[k].kind = 2) = false := by simpa using h2
          by_cases h5 : xs[k].kind = 5
          · have h5' : decide (xs[k].kind = 5) = true := by simpa using h5
            have hnd := aI_needs xs hb k _ (tokens_at hx k hlt' h5)
            have hsz : sizeI xs k xs[k] = needF flatI xs k (closF (xs.drop k) 0 k) := by rw [sizeI, if_neg h1, if_neg h2, if_pos h5]
            rw [hsz] at hst
            repeat (first
              | with_reducible refine VC.seq ?_
              | with_reducible refine VC.region ?_
              | with_reducible refine VC.opsNil ?_
              | with_reducible refine VC.block ?_
              | with_reducible refine VC.blk ?_
              | with_reducible refine VC.skip ?_
              | with_reducible refine VC.scope ?_
              | refine VC.exit rfl ?_
              | ((first | apply s_opS rfl | apply s_opN | apply s_gq rfl | apply s_iq); (focus ((simp only [vsA, vsB, aop, aev, absV, absS, upd_at, aload, rd, afieldAddr, afield, cur, abin, aarith, astr, aun, aindexAddr, aindex, aextract, alen, nv_upd, astore, anil, aconv, asrc, aappend, amake, abuildSlice, abuild, afill, aslice, abnd, Value.cells, if_true, if_false, ite_true, ite_false, eq_self, ne_eq, reduceCtorEq, ↓reduceIte, ↓reduceDIte, Nat.reduceEqDiff, Nat.reduceAdd, Nat.reduceSub, Nat.reduceMul, Nat.reduceLeDiff, Nat.reduceLT, Int.reduceEq, Int.reduceLT, Int.reduceLE, Int.reduceToNat, Int.reduceAdd, Int.reduceNeg, Int.reduceSub, Int.reduceMul, Int.reduceNe, Nat.reduceBEq, Int.reduceBEq, tysXSize2_SizesOfI, ayield, Option.bind_some, Option.bind_none, t0, t13, t14, t4, t15, b12, hkid, h1', h2', h5', hll, hlt', hle, hw2, Tok.cs]) <;> exact rfl)); (with_reducible (first | refine vc_id ?_ | refine gqT ?_ | refine gqF ?_ | refine gqF' ?_ | refine gqU ?_ | refine iqT ?_ | refine iqF ?_)))
              | fail)
            (apply s_callS rfl; (focus (first | exact rfl | ((simp only [vsB, aev, absV, absS, upd_at, if_true, if_false, ite_true, ite_false, eq_self, ne_eq, reduceCtorEq, ↓reduceIte, ↓reduceDIte, Nat.reduceEqDiff, Nat.reduceAdd, Nat.reduceSub, Nat.reduceMul, Nat.reduceLeDiff, Nat.reduceLT, Int.reduceEq, Int.reduceLT, Int.reduceLE, Int.reduceToNat, Int.reduceAdd, Int.reduceNeg, Int.reduceSub, Int.reduceMul, Int.reduceNe, Nat.reduceBEq, Int.reduceBEq, t0, t13, t14, t4, t15, b12]) <;> exact rfl))); (focus ((simp only [vsB, aev, absV, absS, upd_at, if_true, if_false, ite_true, ite_false, eq_self, ne_eq, reduceCtorEq, ↓reduceIte, ↓reduceDIte, Nat.reduceEqDiff, Nat.reduceAdd, Nat.reduceSub, Nat.reduceMul, Nat.reduceLeDiff, Nat.reduceLT, Int.reduceEq, Int.reduceLT, Int.reduceLE, Int.reduceToNat, Int.reduceAdd, Int.reduceNeg, Int.reduceSub, Int.reduceMul, Int.reduceNe, Nat.reduceBEq, Int.reduceBEq, t0, t13, t14, t4, t15, b12]) <;> exact rfl)); (focus (exact hnd _)))
            rintro x Hx ⟨⟨j, rfl⟩, hH⟩
            subst hH
            repeat (first
              | with_reducible refine VC.seq ?_
              | with_reducible refine VC.region ?_
              | with_reducible refine VC.opsNil ?_
              | with_reducible refine VC.block ?_
              | with_reducible refine VC.blk ?_
              | with_reducible refine VC.skip ?_
              | with_reducible refine VC.scope ?_
              | refine VC.exit rfl ?_
              | ((first | apply s_opS rfl | apply s_opN | apply s_gq rfl | apply s_iq); (focus ((simp only [vsA, vsB, aop, aev, absV, absS, upd_at, aload, rd, afieldAddr, afield, cur, abin, aarith, astr, aun, aindexAddr, aindex, aextract, alen, nv_upd, astore, anil, aconv, asrc, aappend, amake, abuildSlice, abuild, afill, aslice, abnd, Value.cells, if_true, if_false, ite_true, ite_false, eq_self, ne_eq, reduceCtorEq, ↓reduceIte, ↓reduceDIte, Nat.reduceEqDiff, Nat.reduceAdd, Nat.reduceSub, Nat.reduceMul, Nat.reduceLeDiff, Nat.reduceLT, Int.reduceEq, Int.reduceLT, Int.reduceLE, Int.reduceToNat, Int.reduceAdd, Int.reduceNeg, Int.reduceSub, Int.reduceMul, Int.reduceNe, Nat.reduceBEq, Int.reduceBEq, tysXSize2_SizesOfI, ayield, Option.bind_some, Option.bind_none, t0, t13, t14, t4, t15, b12, hkid, hll, hlt', hle, hw2, Tok.cs]) <;> exact rfl)); (with_reducible (first | refine vc_id ?_ | refine gqT ?_ | refine gqF ?_ | refine gqF' ?_ | refine gqU ?_ | refine iqT ?_ | refine iqF ?_)))
              | fail)
            refine VC.back ?_
            rw [hst]
            refine ⟨⟨k + 1, hlt', ?_⟩, ?_⟩
            · (repeat' apply And.intro) <;> (first | rfl | assumption | omega | (simp only [upd_at, Nat.reduceEqDiff, if_true, if_false, and_self, ↓reduceIte, and_true, true_and, Nat.add_left_cancel_iff, Nat.add_eq_left, aint, t0, t13, t14, t4]; done) | ((simp only [upd_at, Nat.reduceEqDiff, if_true, if_false, and_self, ↓reduceIte, and_true, true_and, Nat.add_left_cancel_iff, Nat.add_eq_left, aint, t0, t13, t14, t4]) <;> (first | rfl | assumption | omega)) | (focus (repeat (first | exact Low.refl _ _ | assumption | apply low_upd | apply low_upd0)); done))
            · (repeat' apply And.intro) <;> (first | rfl | assumption | omega | (simp only [upd_at, Nat.reduceEqDiff, if_true, if_false, and_self, ↓reduceIte, and_true, true_and, Nat.add_left_cancel_iff, Nat.add_eq_left, aint, t15, Int.toNat_natCast]; done) | ((simp only [upd_at, Nat.reduceEqDiff, if_true, if_false, and_self, ↓reduceIte, and_true, true_and, Nat.add_left_cancel_iff, Nat.add_eq_left, aint, t15, Int.toNat_natCast]) <;> (first | rfl | assumption | omega)) | (focus (repeat (first | exact Low.refl _ _ | assumption | apply low_upd | apply low_upd0)); done))
          · have h5' : decide (xs[k].kind = 5) = false := by simpa using h5
            have hsk := hsk (by rw [sizeI, if_neg h1, if_neg h2, if_neg h5])
            repeat (first
              | with_reducible refine VC.seq ?_
              | with_reducible refine VC.region ?_
              | with_reducible refine VC.opsNil ?_
              | with_reducible refine VC.block ?_
              | with_reducible refine VC.blk ?_
              | with_reducible refine VC.skip ?_
              | with_reducible refine VC.scope ?_
              | refine VC.exit rfl ?_
              | ((first | apply s_opS rfl | apply s_opN | apply s_gq rfl | apply s_iq); (focus ((simp only [vsA, vsB, aop, aev, absV, absS, upd_at, aload, rd, afieldAddr, afield, cur, abin, aarith, astr, aun, aindexAddr, aindex, aextract, alen, nv_upd, astore, anil, aconv, asrc, aappend, amake, abuildSlice, abuild, afill, aslice, abnd, Value.cells, if_true, if_false, ite_true, ite_false, eq_self, ne_eq, reduceCtorEq, ↓reduceIte, ↓reduceDIte, Nat.reduceEqDiff, Nat.reduceAdd, Nat.reduceSub, Nat.reduceMul, Nat.reduceLeDiff, Nat.reduceLT, Int.reduceEq, Int.reduceLT, Int.reduceLE, Int.reduceToNat, Int.reduceAdd, Int.reduceNeg, Int.reduceSub, Int.reduceMul, Int.reduceNe, Nat.reduceBEq, Int.reduceBEq, tysXSize2_SizesOfI, ayield, Option.bind_some, Option.bind_none, t0, t13, t14, t4, t15, b12, hkid, h1', h2', h5', hw2, Tok.cs]) <;> exact rfl)); (with_reducible (first | refine vc_id ?_ | refine gqT ?_ | refine gqF ?_ | refine gqF' ?_ | refine gqU ?_ | refine iqT ?_ | refine iqF ?_)))
              | fail)
            refine VC.back ?_
            refine ⟨⟨k + 1, hlt', ?_⟩, ?_⟩
            · rw [hsk]
              (repeat' apply And.intro) <;> (first | rfl | assumption | omega | (simp only [upd_at, Nat.reduceEqDiff, if_true, if_false, and_self, ↓reduceIte, and_true, true_and, Nat.add_left_cancel_iff, Nat.add_eq_left, aint, t0, t13, t14, t4]; done) | ((simp only [upd_at, Nat.reduceEqDiff, if_true, if_false, and_self, ↓reduceIte, and_true, true_and, Nat.add_left_cancel_iff, Nat.add_eq_left, aint, t0, t13, t14, t4]) <;> (first | rfl | assumption | omega)) | (focus (repeat (first | exact Low.refl _ _ | assumption | apply low_upd | apply low_upd0)); done))
            · (repeat' apply And.intro) <;> (first | rfl | assumption | omega | (simp only [upd_at, Nat.reduceEqDiff, if_true, if_false, and_self, ↓reduceIte, and_true, true_and, Nat.add_left_cancel_iff, Nat.add_eq_left, aint, t15, Int.toNat_natCast]; done) | ((simp only [upd_at, Nat.reduceEqDiff, if_true, if_false, and_self, ↓reduceIte, and_true, true_and, Nat.add_left_cancel_iff, Nat.add_eq_left, aint, t15, Int.toNat_natCast]) <;> (first | rfl | assumption | omega)) | (focus (repeat (first | exact Low.refl _ _ | assumption | apply low_upd | apply low_upd0)); done))
    · intro hlt
      have : k = xs.length := by omega
      subst this
      have hfa := fill_ints (sizes (sizeI xs) xs)
      rw [hzl] at hfa
      rw [hfa] at b12
      repeat (first
        | with_reducible refine VC.seq ?_
        | with_reducible refine VC.region ?_
        | with_reducible refine VC.opsNil ?_
        | with_reducible refine VC.block ?_
        | with_reducible refine VC.blk ?_
        | with_reducible refine VC.skip ?_
        | with_reducible refine VC.scope ?_
        | refine VC.exit rfl ?_
        | ((first | apply s_opS rfl | apply s_opN | apply s_gq rfl | apply s_iq); (focus ((simp only [vsA, vsB, aop, aev, absV, absS, upd_at, aload, rd, afieldAddr, afield, cur, abin, aarith, astr, aun, aindexAddr, aindex, aextract, alen, nv_upd, astore, anil, aconv, asrc, aappend, amake, abuildSlice, abuild, afill, aslice, abnd, Value.cells, if_true, if_false, ite_true, ite_false, eq_self, ne_eq, reduceCtorEq, ↓reduceIte, ↓reduceDIte, Nat.reduceEqDiff, Nat.reduceAdd, Nat.reduceSub, Nat.reduceMul, Nat.reduceLeDiff, Nat.reduceLT, Int.reduceEq, Int.reduceLT, Int.reduceLE, Int.reduceToNat, Int.reduceAdd, Int.reduceNeg, Int.reduceSub, Int.reduceMul, Int.reduceNe, Nat.reduceBEq, Int.reduceBEq, tysXSize2_SizesOfI, ayield, Option.bind_some, Option.bind_none, t0, t13, t14, t4, t15, b12]) <;> exact rfl)); (with_reducible (first | refine vc_id ?_ | refine gqT ?_ | refine gqF ?_ | refine gqF' ?_ | refine gqU ?_ | refine iqT ?_ | refine iqF ?_)))
        | fail)
      (first | apply VC.nil | apply VC.ret); (apply fin_own (H0 := H) b12 (by omega); (focus ((simp only [vsA, vsB, aop, aev, absV, absS, upd_at, aload, rd, afieldAddr, afield, cur, abin, aarith, astr, aun, aindexAddr, aindex, aextract, alen, nv_upd, astore, anil, aconv, asrc, aappend, amake, abuildSlice, abuild, afill, aslice, abnd, Value.cells, if_true, if_false, ite_true, ite_false, eq_self, ne_eq, reduceCtorEq, ↓reduceIte, ↓reduceDIte, Nat.reduceEqDiff, Nat.reduceAdd, Nat.reduceSub, Nat.reduceMul, Nat.reduceLeDiff, Nat.reduceLT, Int.reduceEq, Int.reduceLT, Int.reduceLE, Int.reduceToNat, Int.reduceAdd, Int.reduceNeg, Int.reduceSub, Int.reduceMul, Int.reduceNe, Nat.reduceBEq, Int.reduceBEq, tysXSize2_SizesOfI, ares, aresL, ares1, Try.results42, t4]) <;> exact rfl)); (focus (repeat (first | exact Low.refl _ _ | assumption | apply low_upd | apply low_upd0))); (focus (exact hn)); (focus (exact hc)))
      · exact ints_isflat _
      · exact ren_tup2 (.os (Nat.le_refl _) rfl b12 rfl (upd_same _ _ _) rfl) (.flat rfl)
      · exact ⟨rfl, rfl⟩
end Go.Proofs.Ytpdpmcllpafjbaa

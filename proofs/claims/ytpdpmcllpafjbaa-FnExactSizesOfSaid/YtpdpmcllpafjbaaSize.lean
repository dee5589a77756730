/- SizesOf of the program and of the reference, by the new walk. -/
import Derived.Test.YtpdpmcllpafjbaaMark
import Derived.Test.YtpdpmcllpafjbaaTvi
namespace Go.Proofs.Ytpdpmcllpafjbaa
open Go.RowKit
set_option linter.unusedVariables false
set_option linter.unusedSimpArgs false

def Small' (xs : List Tok) : Prop := ∀ t ∈ xs, t.text.size ≤ maxLen
theorem aI_TokensValid (xs : List Tok) (ht : ∀ t ∈ xs, t.text.size ≤ maxLen) (H : Hp) : ACalls Try.prog 22 [.is 3 (xs.map Tok.cs)] H (fun r H' => r = .b (tokensB xs) ∧ H' = H) :=
  ACalls.ofCalls ⟨_, _, Try.func22, by kernel_rfl, rfl⟩ fun M ρ w vs hs hl hv => by
    obtain ⟨v, rfl⟩ : ∃ v, vs = [v] := by
      rcases vs with _ | ⟨v, _ | ⟨u, vs⟩⟩
      · simp at hl
      · exact ⟨v, rfl⟩
      · simp at hl
    obtain ⟨A, cap, rfl, h1⟩ := V.slAt (α := Tok) hs (hv 0 (by simp) (by simp))
    refine (impl_TokensValid xs A cap w h1 ht).mono ?_
    rintro e w' ⟨v, rfl, hb, rfl⟩
    exact ⟨_, rfl, hb, _, rfl, fun M => .b _⟩
theorem aS_TokensValid (xs : List Tok) (ht : ∀ t ∈ xs, t.text.size ≤ maxLen) (H : Hp) : ACalls Try.prog 20 [.is 3 (xs.map Tok.cs)] H (fun r H' => r = .b (tokensB xs) ∧ H' = H) :=
  ACalls.ofCalls ⟨_, _, Try.func20, by kernel_rfl, rfl⟩ fun M ρ w vs hs hl hv => by
    obtain ⟨v, rfl⟩ : ∃ v, vs = [v] := by
      rcases vs with _ | ⟨v, _ | ⟨u, vs⟩⟩
      · simp at hl
      · exact ⟨v, rfl⟩
      · simp at hl
    obtain ⟨A, cap, rfl, h1⟩ := V.slAt (α := Tok) hs (hv 0 (by simp) (by simp))
    refine (spec_TokensValid xs A cap w h1 ht).mono ?_
    rintro e w' ⟨v, rfl, hb, rfl⟩
    exact ⟨_, rfl, hb, _, rfl, fun M => .b _⟩

/-- What a token needs, by the program, and by the reference. -/
def sizeI (xs : List Tok) (i : Nat) (t : Tok) : Int :=
  if t.kind = 1 then t.text.size else if t.kind = 2 then 1 else if t.kind = 5 then needF flatI xs i (closF (xs.drop i) 0 i) else 0
def sizeS (xs : List Tok) (i : Nat) (t : Tok) : Int := if t.kind = 5 then needF flatN xs i (closF (xs.drop i) 0 i) else flatN t
def sizes (f : Nat → Tok → Int) (xs : List Tok) : List Int := xs.mapIdx f
theorem sizes_len (f : Nat → Tok → Int) (xs : List Tok) : (sizes f xs).length = xs.length := by simp [sizes]
theorem sizes_get (f : Nat → Tok → Int) (xs : List Tok) (k : Nat) (h : k < (sizes f xs).length) : (sizes f xs)[k] = f k (xs[k]'(by simpa [sizes] using h)) := by simp [sizes]
theorem ints_take (zs : List Int) (k : Nat) (h : k < zs.length) : ints (zs.take (k + 1)) = ints (zs.take k) ++ [.i .i64 zs[k]] := by rw [List.take_succ_eq_append_getElem h, ints_snoc]
theorem fill_ints (zs : List Int) : (fillE (intsE zs) [.i .i64 0] zs.length).flatten = ints zs := by
  have := fillE_all (intsE zs) [.i .i64 0]
  rw [intsE_len] at this
  rw [this, ints_flat]
theorem intsE_mem (zs : List Int) : ∀ e ∈ intsE zs, e.length = 1 := fun e he => by obtain ⟨d, _, rfl⟩ := List.mem_map.1 he; rfl

theorem tysXSize_SizesOfS : type_of% (And.intro ty_tg1 (And.intro ty_tg2 (And.intro ty_sz2 (And.intro ty_in2 (And.intro ty_tg3 (And.intro ty_sz3 (And.intro ty_in3 (And.intro ty_tg4 (And.intro ty_sz4 (And.intro ty_in4 (And.intro ty_tg5 (And.intro ty_sz5 (And.intro ty_in5 (And.intro ty_tg9 (And.intro ty_sz9 (And.intro ty_in9 (And.intro ty_tg18 (And.intro ty_sz18 (And.intro ty_in18 (And.intro ty_pl18 (And.intro ty_fd18_0 (And.intro ty_tg21 (And.intro ty_sz21 (And.intro ty_in21 (And.intro ty_tg22 (And.intro ty_sz22 (And.intro ty_in22 (And.intro ty_pl22 (And.intro ty_fd22_0 (And.intro ty_fd22_1 (And.intro ty_tg23 (And.intro ty_sz23 (And.intro ty_in23 (And.intro ty_pl23 (And.intro ty_fd23_0 (And.intro ty_fd23_1 (And.intro ty_tg24 (And.intro ty_tg25 (And.intro ty_sz25 (And.intro ty_in25 (And.intro ty_pl25 (And.intro ty_fd25_0 (And.intro ty_fd25_1 (And.intro ty_tg26 (And.intro ty_tg27 (And.intro ty_tg28 (And.intro ty_sz28 (And.intro ty_in28 (And.intro ty_tg30 (And.intro ty_tg31 (And.intro ty_tg32 (And.intro ty_sz32 (And.intro ty_in32 (And.intro ty_tg33 (And.intro ty_tg34 (And.intro ty_tg35 (And.intro ty_sz35 (And.intro ty_in35 (And.intro ty_tg36 (And.intro ty_tg37 (And.intro ty_tg38 (And.intro ty_tg39 (And.intro ty_sz39 (And.intro ty_in39 (And.intro ty_tg40 (And.intro ty_tg64 (And.intro ty_sz64 (And.intro ty_in64 (And.intro ty_tg78 (And.intro ty_sz78 (And.intro ty_in78 (And.intro ty_pl78 (And.intro ty_fd78_0 (And.intro ty_fd78_1 (And.intro ty_fd78_2 (And.intro ty_tg87 (And.intro ty_sz87 (And.intro ty_in87 (And.intro ty_pl87 (And.intro ty_fd87_0 (And.intro ty_fd87_1 (And.intro ty_fd87_2 (And.intro ty_tg88 (And.intro ty_tg94 (And.intro ty_sz94 (And.intro ty_in94 (And.intro ty_pl94 (And.intro ty_fd94_0 (And.intro ty_fd94_1 (And.intro Try.underlying1 (And.intro Try.underlying2 (And.intro Try.underlying3 (And.intro Try.underlying4 (And.intro Try.underlying5 (And.intro Try.underlying6 (And.intro Try.underlying7 (And.intro Try.underlying9 (And.intro Try.underlying12 (And.intro Try.underlying13 (And.intro Try.underlying15 (And.intro Try.underlying16 (And.intro Try.underlying17 (And.intro Try.underlying18 (And.intro Try.underlying19 (And.intro Try.underlying21 (And.intro Try.underlying22 (And.intro Try.underlying23 (And.intro Try.underlying24 (And.intro Try.underlying25 (And.intro Try.underlying26 (And.intro Try.underlying27 (And.intro Try.underlying28 (And.intro Try.underlying30 (And.intro Try.underlying31 (And.intro Try.underlying32 (And.intro Try.underlying33 (And.intro Try.underlying34 (And.intro Try.underlying35 (And.intro Try.underlying36 (And.intro Try.underlying37 (And.intro Try.underlying38 (And.intro Try.underlying39 (And.intro Try.underlying40 (And.intro Try.underlying64 (And.intro Try.underlying78 (And.intro Try.underlying87 (And.intro Try.underlying88 (Try.underlying94)))))))))))))))))))))))))))))))))))))))))))))))))))))))))))))))))))))))))))))))))))))))))))))))))))))))))))))))))))))))))))))))) := And.intro ty_tg1 (And.intro ty_tg2 (And.intro ty_sz2 (And.intro ty_in2 (And.intro ty_tg3 (And.intro ty_sz3 (And.intro ty_in3 (And.intro ty_tg4 (And.intro ty_sz4 (And.intro ty_in4 (And.intro ty_tg5 (And.intro ty_sz5 (And.intro ty_in5 (And.intro ty_tg9 (And.intro ty_sz9 (And.intro ty_in9 (And.intro ty_tg18 (And.intro ty_sz18 (And.intro ty_in18 (And.intro ty_pl18 (And.intro ty_fd18_0 (And.intro ty_tg21 (And.intro ty_sz21 (And.intro ty_in21 (And.intro ty_tg22 (And.intro ty_sz22 (And.intro ty_in22 (And.intro ty_pl22 (And.intro ty_fd22_0 (And.intro ty_fd22_1 (And.intro ty_tg23 (And.intro ty_sz23 (And.intro ty_in23 (And.intro ty_pl23 (And.intro ty_fd23_0 (And.intro ty_fd23_1 (And.intro ty_tg24 (And.intro ty_tg25 (And.intro ty_sz25 (And.intro ty_in25 (And.intro ty_pl25 (And.intro ty_fd25_0 (And.intro ty_fd25_1 (And.intro ty_tg26 (And.intro ty_tg27 (And.intro ty_tg28 (And.intro ty_sz28 (And.intro ty_in28 (And.intro ty_tg30 (And.intro ty_tg31 (And.intro ty_tg32 (And.intro ty_sz32 (And.intro ty_in32 (And.intro ty_tg33 (And.intro ty_tg34 (And.intro ty_tg35 (And.intro ty_sz35 (And.intro ty_in35 (And.intro ty_tg36 (And.intro ty_tg37 (And.intro ty_tg38 (And.intro ty_tg39 (And.intro ty_sz39 (And.intro ty_in39 (And.intro ty_tg40 (And.intro ty_tg64 (And.intro ty_sz64 (And.intro ty_in64 (And.intro ty_tg78 (And.intro ty_sz78 (And.intro ty_in78 (And.intro ty_pl78 (And.intro ty_fd78_0 (And.intro ty_fd78_1 (And.intro ty_fd78_2 (And.intro ty_tg87 (And.intro ty_sz87 (And.intro ty_in87 (And.intro ty_pl87 (And.intro ty_fd87_0 (And.intro ty_fd87_1 (And.intro ty_fd87_2 (And.intro ty_tg88 (And.intro ty_tg94 (And.intro ty_sz94 (And.intro ty_in94 (And.intro ty_pl94 (And.intro ty_fd94_0 (And.intro ty_fd94_1 (And.intro Try.underlying1 (And.intro Try.underlying2 (And.intro Try.underlying3 (And.intro Try.underlying4 (And.intro Try.underlying5 (And.intro Try.underlying6 (And.intro Try.underlying7 (And.intro Try.underlying9 (And.intro Try.underlying12 (And.intro Try.underlying13 (And.intro Try.underlying15 (And.intro Try.underlying16 (And.intro Try.underlying17 (And.intro Try.underlying18 (And.intro Try.underlying19 (And.intro Try.underlying21 (And.intro Try.underlying22 (And.intro Try.underlying23 (And.intro Try.underlying24 (And.intro Try.underlying25 (And.intro Try.underlying26 (And.intro Try.underlying27 (And.intro Try.underlying28 (And.intro Try.underlying30 (And.intro Try.underlying31 (And.intro Try.underlying32 (And.intro Try.underlying33 (And.intro Try.underlying34 (And.intro Try.underlying35 (And.intro Try.underlying36 (And.intro Try.underlying37 (And.intro Try.underlying38 (And.intro Try.underlying39 (And.intro Try.underlying40 (And.intro Try.underlying64 (And.intro Try.underlying78 (And.intro Try.underlying87 (And.intro Try.underlying88 (Try.underlying94)))))))))))))))))))))))))))))))))))))))))))))))))))))))))))))))))))))))))))))))))))))))))))))))))))))))))))))))))))))))))))))))
set_option maxHeartbeats 2000000 in
theorem aS_SizesOf0 (xs : List Tok) (hx : tokensB xs = false) (ht : ∀ t ∈ xs, t.text.size ≤ maxLen) (H : Hp) (n : Nat) (hsup : Sup n H) :
    ACalls Try.prog 41 [.is 3 (xs.map Tok.cs)] H (fun r H' => r = .tup [.os n 0 0, .b false] ∧ H' = upd H n (some ⟨0, 3, 1, []⟩)) := by
  have hval := aS_TokensValid xs ht
  rw [hx] at hval
  refine ACalls.introAt Try.func41 (by kernel_rfl) rfl (Nat.le_of_ble_eq_true rfl) n hsup fun hc => ?_; have hn := hsup; have hS : ∀ k, H (n + k) = none := fun k => hn (n + k) (by omega); have hS0 : H n = none := hn n (Nat.le_refl _); have hN : ∀ k, nv H (n + k) = 0 := fun k => nv_none (hS k); (try (first | rw [ienv1] | rw [ienv2] | rw [ienv3] | rw [ienv4]))
  repeat (first
    | with_reducible refine VC.seq ?_
    | with_reducible refine VC.region ?_
    | with_reducible refine VC.opsNil ?_
    | with_reducible refine VC.block ?_
    | with_reducible refine VC.blk ?_
    | with_reducible refine VC.skip ?_
    | with_reducible refine VC.scope ?_
    | refine VC.exit rfl ?_
    | ((first | apply s_opS rfl | apply s_opN | apply s_gq rfl | apply s_iq); (focus ((simp only [vsA, vsB, aop, aev, absV, absS, upd_at, aload, rd, afieldAddr, afield, cur, abin, aarith, astr, aun, aindexAddr, aindex, aextract, alen, nv_upd, astore, anil, aconv, asrc, aappend, amake, abuildSlice, abuild, afill, aslice, abnd, Value.cells, if_true, if_false, ite_true, ite_false, eq_self, ne_eq, reduceCtorEq, ↓reduceIte, ↓reduceDIte, Nat.reduceEqDiff, Nat.reduceAdd, Nat.reduceSub, Nat.reduceMul, Nat.reduceLeDiff, Nat.reduceLT, Int.reduceEq, Int.reduceLT, Int.reduceLE, Int.reduceToNat, Int.reduceAdd, Int.reduceNeg, Int.reduceSub, Int.reduceMul, Int.reduceNe, Nat.reduceBEq, Int.reduceBEq, tysXSize_SizesOfS, ayield, Option.bind_some, Option.bind_none, hS, hN]) <;> exact rfl)); (with_reducible (first | refine vc_id ?_ | refine gqT ?_ | refine gqF ?_ | refine gqF' ?_ | refine gqU ?_ | refine iqT ?_ | refine iqF ?_)))
    | (apply s_callI rfl; (focus (exact rfl)); (focus ((simp only [vsB, aev, absV, absS, upd_at, if_true, if_false, ite_true, ite_false, eq_self, ne_eq, reduceCtorEq, ↓reduceIte, ↓reduceDIte, Nat.reduceEqDiff, Nat.reduceAdd, Nat.reduceSub, Nat.reduceMul, Nat.reduceLeDiff, Nat.reduceLT, Int.reduceEq, Int.reduceLT, Int.reduceLE, Int.reduceToNat, Int.reduceAdd, Int.reduceNeg, Int.reduceSub, Int.reduceMul, Int.reduceNe, Nat.reduceBEq, Int.reduceBEq, hS, hN]) <;> exact rfl)); (focus (exact hval _)))
    | fail)
  (first | apply VC.nil | apply VC.ret); (apply fin_own (H0 := H) (upd_same _ _ _) (by omega); (focus ((simp only [vsA, vsB, aop, aev, absV, absS, upd_at, aload, rd, afieldAddr, afield, cur, abin, aarith, astr, aun, aindexAddr, aindex, aextract, alen, nv_upd, astore, anil, aconv, asrc, aappend, amake, abuildSlice, abuild, afill, aslice, abnd, Value.cells, if_true, if_false, ite_true, ite_false, eq_self, ne_eq, reduceCtorEq, ↓reduceIte, ↓reduceDIte, Nat.reduceEqDiff, Nat.reduceAdd, Nat.reduceSub, Nat.reduceMul, Nat.reduceLeDiff, Nat.reduceLT, Int.reduceEq, Int.reduceLT, Int.reduceLE, Int.reduceToNat, Int.reduceAdd, Int.reduceNeg, Int.reduceSub, Int.reduceMul, Int.reduceNe, Nat.reduceBEq, Int.reduceBEq, tysXSize_SizesOfS, ares, aresL, ares1, Try.results41, upd_same]) <;> exact rfl)); (focus (repeat (first | exact Low.refl _ _ | assumption | apply low_upd | apply low_upd0))); (focus (exact hn)); (focus (exact hc)))
  · exact fun j h => absurd h (Nat.not_lt_zero j)
  · exact ren_tup2 (.os (Nat.le_refl _) rfl (upd_same _ _ _) rfl (upd_same _ _ _) rfl) (.flat rfl)
  · exact ⟨rfl, rfl⟩

set_option maxHeartbeats 4000000 in
theorem aS_SizesOf1 (xs : List Tok) (hx : tokensB xs = true) (hb : Small xs) (ht : ∀ t ∈ xs, t.text.size ≤ maxLen) (H : Hp) (n : Nat) (hsup : Sup n H) :
    ACalls Try.prog 41 [.is 3 (xs.map Tok.cs)] H (fun r H' => r = .tup [.os n 0 xs.length, .b true] ∧ H' = upd H n (some ⟨0, 3, 1, ints (sizes (sizeS xs) xs)⟩)) := by
  have hval := aS_TokensValid xs ht
  rw [hx] at hval
  have hzl := sizes_len (sizeS xs) xs
  have hb1 := hb.1
  refine ACalls.introAt Try.func41 (by kernel_rfl) rfl (Nat.le_of_ble_eq_true rfl) n hsup fun hc => ?_; have hn := hsup; have hS : ∀ k, H (n + k) = none := fun k => hn (n + k) (by omega); have hS0 : H n = none := hn n (Nat.le_refl _); have hN : ∀ k, nv H (n + k) = 0 := fun k => nv_none (hS k); (try (first | rw [ienv1] | rw [ienv2] | rw [ienv3] | rw [ienv4]))
  repeat (first
    | with_reducible refine VC.seq ?_
    | with_reducible refine VC.region ?_
    | with_reducible refine VC.opsNil ?_
    | with_reducible refine VC.block ?_
    | with_reducible refine VC.blk ?_
    | with_reducible refine VC.skip ?_
    | with_reducible refine VC.scope ?_
    | refine VC.exit rfl ?_
    | ((first | apply s_opS rfl | apply s_opN | apply s_gq rfl | apply s_iq); (focus ((simp only [vsA, vsB, aop, aev, absV, absS, upd_at, aload, rd, afieldAddr, afield, cur, abin, aarith, astr, aun, aindexAddr, aindex, aextract, alen, nv_upd, astore, anil, aconv, asrc, aappend, amake, abuildSlice, abuild, afill, aslice, abnd, Value.cells, if_true, if_false, ite_true, ite_false, eq_self, ne_eq, reduceCtorEq, ↓reduceIte, ↓reduceDIte, Nat.reduceEqDiff, Nat.reduceAdd, Nat.reduceSub, Nat.reduceMul, Nat.reduceLeDiff, Nat.reduceLT, Int.reduceEq, Int.reduceLT, Int.reduceLE, Int.reduceToNat, Int.reduceAdd, Int.reduceNeg, Int.reduceSub, Int.reduceMul, Int.reduceNe, Nat.reduceBEq, Int.reduceBEq, tysXSize_SizesOfS, ayield, Option.bind_some, Option.bind_none, hS, hN]) <;> exact rfl)); (with_reducible (first | refine vc_id ?_ | refine gqT ?_ | refine gqF ?_ | refine gqF' ?_ | refine gqU ?_ | refine iqT ?_ | refine iqF ?_)))
    | (apply s_callI rfl; (focus (exact rfl)); (focus ((simp only [vsB, aev, absV, absS, upd_at, if_true, if_false, ite_true, ite_false, eq_self, ne_eq, reduceCtorEq, ↓reduceIte, ↓reduceDIte, Nat.reduceEqDiff, Nat.reduceAdd, Nat.reduceSub, Nat.reduceMul, Nat.reduceLeDiff, Nat.reduceLT, Int.reduceEq, Int.reduceLT, Int.reduceLE, Int.reduceToNat, Int.reduceAdd, Int.reduceNeg, Int.reduceSub, Int.reduceMul, Int.reduceNe, Nat.reduceBEq, Int.reduceBEq, hS, hN]) <;> exact rfl)); (focus (exact hval _)))
    | fail)
  refine VC.loop (fun ta H' => ∃ (k : Nat), k ≤ xs.length ∧ ta 0 = .is 3 (xs.map Tok.cs) ∧ ta 4 = .os (n + 7) k k ∧ ta 5 = .i .i64 k ∧ H' (n + 7) = some ⟨k, 3, 1, ints ((sizes (sizeS xs) xs).take k)⟩ ∧ Low n H H')
    (fun ta _ => xs.length - (aint (ta 5)).toNat) ?_ ?_
  · refine ⟨0, by omega, ?_⟩
    (repeat' apply And.intro) <;> (first | rfl | assumption | omega | (simp only [upd_at, Nat.reduceEqDiff, if_true, if_false, and_self, ↓reduceIte, and_true, true_and, Nat.add_left_cancel_iff, Nat.add_eq_left, aint, if_true]; done) | ((simp only [upd_at, Nat.reduceEqDiff, if_true, if_false, and_self, ↓reduceIte, and_true, true_and, Nat.add_left_cancel_iff, Nat.add_eq_left, aint, if_true]) <;> (first | rfl | assumption | omega)) | (focus (repeat (first | exact Low.refl _ _ | assumption | apply low_upd | apply low_upd0)); done))
  · rintro ta H1 ⟨k, hk, t0, t4, t5, b7, low⟩
    repeat (first
      | with_reducible refine VC.seq ?_
      | with_reducible refine VC.region ?_
      | with_reducible refine VC.opsNil ?_
      | with_reducible refine VC.block ?_
      | with_reducible refine VC.blk ?_
      | with_reducible refine VC.skip ?_
      | with_reducible refine VC.scope ?_
      | refine VC.exit rfl ?_
      | ((first | apply s_opS rfl | apply s_opN | apply s_gq rfl | apply s_iq); (focus ((simp only [vsA, vsB, aop, aev, absV, absS, upd_at, aload, rd, afieldAddr, afield, cur, abin, aarith, astr, aun, aindexAddr, aindex, aextract, alen, nv_upd, astore, anil, aconv, asrc, aappend, amake, abuildSlice, abuild, afill, aslice, abnd, Value.cells, if_true, if_false, ite_true, ite_false, eq_self, ne_eq, reduceCtorEq, ↓reduceIte, ↓reduceDIte, Nat.reduceEqDiff, Nat.reduceAdd, Nat.reduceSub, Nat.reduceMul, Nat.reduceLeDiff, Nat.reduceLT, Int.reduceEq, Int.reduceLT, Int.reduceLE, Int.reduceToNat, Int.reduceAdd, Int.reduceNeg, Int.reduceSub, Int.reduceMul, Int.reduceNe, Nat.reduceBEq, Int.reduceBEq, tysXSize_SizesOfS, ayield, Option.bind_some, Option.bind_none, t0, t4, t5, b7]) <;> exact rfl)); (with_reducible (first | refine vc_id ?_ | refine gqT ?_ | refine gqF ?_ | refine gqF' ?_ | refine gqU ?_ | refine iqT ?_ | refine iqF ?_)))
      | fail)
    (apply s_if; focus ((simp only [vsB, aev, absV, absS, upd_at, if_true, if_false, ite_true, ite_false, eq_self, ne_eq, reduceCtorEq, ↓reduceIte, ↓reduceDIte, Nat.reduceEqDiff, Nat.reduceAdd, Nat.reduceSub, Nat.reduceMul, Nat.reduceLeDiff, Nat.reduceLT, Int.reduceEq, Int.reduceLT, Int.reduceLE, Int.reduceToNat, Int.reduceAdd, Int.reduceNeg, Int.reduceSub, Int.reduceMul, Int.reduceNe, Nat.reduceBEq, Int.reduceBEq, t0, t4, t5, b7]) <;> exact rfl))
    · intro hlt
      have hlt' : k < xs.length := by omega
      have hkid := List.getElem?_eq_getElem hlt'
      have hw2 := wrapN (k := k) (by omega)
      have hm : xs.length - (k + 1) < xs.length - k := by omega
      have hz := sizes_get (sizeS xs) xs k (by omega)
      have hti := ints_take (sizes (sizeS xs) xs) k (by omega)
      rw [hz] at hti
      have hil : (ints ((sizes (sizeS xs) xs).take k)).length = k := by rw [ints_len, List.length_take]; omega
      have htk : (ints ((sizes (sizeS xs) xs).take k)).take k = ints ((sizes (sizeS xs) xs).take k) := List.take_of_length_le (by omega)
      have hs1 : (k + 1) * 8 ≤ 140737488355328 := by omega
      have hs2 : k + 1 ≤ 140737488355328 := by omega
      by_cases h5 : xs[k].kind = 5
      · have h5' : decide (xs[k].kind = 5) = true := by simpa using h5
        have hn := aS_l6Size xs hb k (by omega)
        have hsz : sizeS xs k xs[k] = needF flatN xs k (closF (xs.drop k) 0 k) := by rw [sizeS, if_pos h5]
        rw [hsz] at hti
        repeat (first
          | with_reducible refine VC.seq ?_
          | with_reducible refine VC.region ?_
          | with_reducible refine VC.opsNil ?_
          | with_reducible refine VC.block ?_
          | with_reducible refine VC.blk ?_
          | with_reducible refine VC.skip ?_
          | with_reducible refine VC.scope ?_
          | refine VC.exit rfl ?_
          | ((first | apply s_opS rfl | apply s_opN | apply s_gq rfl | apply s_iq); (focus ((simp only [vsA, vsB, aop, aev, absV, absS, upd_at, aload, rd, afieldAddr, afield, cur, abin, aarith, astr, aun, aindexAddr, aindex, aextract, alen, nv_upd, astore, anil, aconv, asrc, aappend, amake, abuildSlice, abuild, afill, aslice, abnd, Value.cells, if_true, if_false, ite_true, ite_false, eq_self, ne_eq, reduceCtorEq, ↓reduceIte, ↓reduceDIte, Nat.reduceEqDiff, Nat.reduceAdd, Nat.reduceSub, Nat.reduceMul, Nat.reduceLeDiff, Nat.reduceLT, Int.reduceEq, Int.reduceLT, Int.reduceLE, Int.reduceToNat, Int.reduceAdd, Int.reduceNeg, Int.reduceSub, Int.reduceMul, Int.reduceNe, Nat.reduceBEq, Int.reduceBEq, tysXSize_SizesOfS, ayield, Option.bind_some, Option.bind_none, t0, t4, t5, b7, hkid, h5', Tok.c_take, Tok.c_len, Tok.c_all, Tok.c_head, Tok.c_d1, Tok.c_d2]) <;> exact rfl)); (with_reducible (first | refine vc_id ?_ | refine gqT ?_ | refine gqF ?_ | refine gqF' ?_ | refine gqU ?_ | refine iqT ?_ | refine iqF ?_)))
          | (apply s_callI rfl; (focus (exact rfl)); (focus ((simp only [vsB, aev, absV, absS, upd_at, if_true, if_false, ite_true, ite_false, eq_self, ne_eq, reduceCtorEq, ↓reduceIte, ↓reduceDIte, Nat.reduceEqDiff, Nat.reduceAdd, Nat.reduceSub, Nat.reduceMul, Nat.reduceLeDiff, Nat.reduceLT, Int.reduceEq, Int.reduceLT, Int.reduceLE, Int.reduceToNat, Int.reduceAdd, Int.reduceNeg, Int.reduceSub, Int.reduceMul, Int.reduceNe, Nat.reduceBEq, Int.reduceBEq, t0, t4, t5, b7, hkid, h5', Tok.c_take, Tok.c_len, Tok.c_all, Tok.c_head, Tok.c_d1, Tok.c_d2]) <;> exact rfl)); (focus (exact aS_l6Flat _ _)))
          | fail)
        (apply s_callS rfl; (focus (first | exact rfl | ((simp only [vsB, aev, absV, absS, upd_at, if_true, if_false, ite_true, ite_false, eq_self, ne_eq, reduceCtorEq, ↓reduceIte, ↓reduceDIte, Nat.reduceEqDiff, Nat.reduceAdd, Nat.reduceSub, Nat.reduceMul, Nat.reduceLeDiff, Nat.reduceLT, Int.reduceEq, Int.reduceLT, Int.reduceLE, Int.reduceToNat, Int.reduceAdd, Int.reduceNeg, Int.reduceSub, Int.reduceMul, Int.reduceNe, Nat.reduceBEq, Int.reduceBEq, t0, t4, t5, b7, Tok.c_take, Tok.c_len, Tok.c_all, Tok.c_head, Tok.c_d1, Tok.c_d2]) <;> exact rfl))); (focus ((simp only [vsB, aev, absV, absS, upd_at, if_true, if_false, ite_true, ite_false, eq_self, ne_eq, reduceCtorEq, ↓reduceIte, ↓reduceDIte, Nat.reduceEqDiff, Nat.reduceAdd, Nat.reduceSub, Nat.reduceMul, Nat.reduceLeDiff, Nat.reduceLT, Int.reduceEq, Int.reduceLT, Int.reduceLE, Int.reduceToNat, Int.reduceAdd, Int.reduceNeg, Int.reduceSub, Int.reduceMul, Int.reduceNe, Nat.reduceBEq, Int.reduceBEq, t0, t4, t5, b7, Tok.c_take, Tok.c_len, Tok.c_all, Tok.c_head, Tok.c_d1, Tok.c_d2]) <;> exact rfl)); (focus (exact hn _)))
        rintro x Hx ⟨⟨j, rfl⟩, hH⟩
        obtain rfl := hH.symm
        repeat (first
          | with_reducible refine VC.seq ?_
          | with_reducible refine VC.region ?_
          | with_reducible refine VC.opsNil ?_
          | with_reducible refine VC.block ?_
          | with_reducible refine VC.blk ?_
          | with_reducible refine VC.skip ?_
          | with_reducible refine VC.scope ?_
          | refine VC.exit rfl ?_
          | ((first | apply s_opS rfl | apply s_opN | apply s_gq rfl | apply s_iq); (focus ((simp only [vsA, vsB, aop, aev, absV, absS, upd_at, aload, rd, afieldAddr, afield, cur, abin, aarith, astr, aun, aindexAddr, aindex, aextract, alen, nv_upd, astore, anil, aconv, asrc, aappend, amake, abuildSlice, abuild, afill, aslice, abnd, Value.cells, if_true, if_false, ite_true, ite_false, eq_self, ne_eq, reduceCtorEq, ↓reduceIte, ↓reduceDIte, Nat.reduceEqDiff, Nat.reduceAdd, Nat.reduceSub, Nat.reduceMul, Nat.reduceLeDiff, Nat.reduceLT, Int.reduceEq, Int.reduceLT, Int.reduceLE, Int.reduceToNat, Int.reduceAdd, Int.reduceNeg, Int.reduceSub, Int.reduceMul, Int.reduceNe, Nat.reduceBEq, Int.reduceBEq, tysXSize_SizesOfS, ayield, Option.bind_some, Option.bind_none, t0, t4, t5, b7, hil, htk, hs1, hs2, hw2, Tok.c_take, Tok.c_len, Tok.c_all, Tok.c_head, Tok.c_d1, Tok.c_d2]) <;> exact rfl)); (with_reducible (first | refine vc_id ?_ | refine gqT ?_ | refine gqF ?_ | refine gqF' ?_ | refine gqU ?_ | refine iqT ?_ | refine iqF ?_)))
          | fail)
        refine VC.back ?_
        rw [← hti]
        refine ⟨⟨k + 1, hlt', ?_⟩, ?_⟩
        · (repeat' apply And.intro) <;> (first | rfl | assumption | omega | (simp only [upd_at, Nat.reduceEqDiff, if_true, if_false, and_self, ↓reduceIte, and_true, true_and, Nat.add_left_cancel_iff, Nat.add_eq_left, aint, t0]; done) | ((simp only [upd_at, Nat.reduceEqDiff, if_true, if_false, and_self, ↓reduceIte, and_true, true_and, Nat.add_left_cancel_iff, Nat.add_eq_left, aint, t0]) <;> (first | rfl | assumption | omega)) | (focus (repeat (first | exact Low.refl _ _ | assumption | apply low_upd | apply low_upd0)); done))
        · (repeat' apply And.intro) <;> (first | rfl | assumption | omega | (simp only [upd_at, Nat.reduceEqDiff, if_true, if_false, and_self, ↓reduceIte, and_true, true_and, Nat.add_left_cancel_iff, Nat.add_eq_left, aint, t5, Int.toNat_natCast]; done) | ((simp only [upd_at, Nat.reduceEqDiff, if_true, if_false, and_self, ↓reduceIte, and_true, true_and, Nat.add_left_cancel_iff, Nat.add_eq_left, aint, t5, Int.toNat_natCast]) <;> (first | rfl | assumption | omega)) | (focus (repeat (first | exact Low.refl _ _ | assumption | apply low_upd | apply low_upd0)); done))
      · have h5' : decide (xs[k].kind = 5) = false := by simpa using h5
        have hsz : sizeS xs k xs[k] = flatN xs[k] := by rw [sizeS, if_neg h5]
        rw [hsz] at hti
        repeat (first
          | with_reducible refine VC.seq ?_
          | with_reducible refine VC.region ?_
          | with_reducible refine VC.opsNil ?_
          | with_reducible refine VC.block ?_
          | with_reducible refine VC.blk ?_
          | with_reducible refine VC.skip ?_
          | with_reducible refine VC.scope ?_
          | refine VC.exit rfl ?_
          | ((first | apply s_opS rfl | apply s_opN | apply s_gq rfl | apply s_iq); (focus ((simp only [vsA, vsB, aop, aev, absV, absS, upd_at, aload, rd, afieldAddr, afield, cur, abin, aarith, astr, aun, aindexAddr, aindex, aextract, alen, nv_upd, astore, anil, aconv, asrc, aappend, amake, abuildSlice, abuild, afill, aslice, abnd, Value.cells, if_true, if_false, ite_true, ite_false, eq_self, ne_eq, reduceCtorEq, ↓reduceIte, ↓reduceDIte, Nat.reduceEqDiff, Nat.reduceAdd, Nat.reduceSub, Nat.reduceMul, Nat.reduceLeDiff, Nat.reduceLT, Int.reduceEq, Int.reduceLT, Int.reduceLE, Int.reduceToNat, Int.reduceAdd, Int.reduceNeg, Int.reduceSub, Int.reduceMul, Int.reduceNe, Nat.reduceBEq, Int.reduceBEq, tysXSize_SizesOfS, ayield, Option.bind_some, Option.bind_none, t0, t4, t5, b7, hkid, h5', hil, htk, hs1, hs2, hw2, Tok.c_take, Tok.c_len, Tok.c_all, Tok.c_head, Tok.c_d1, Tok.c_d2]) <;> exact rfl)); (with_reducible (first | refine vc_id ?_ | refine gqT ?_ | refine gqF ?_ | refine gqF' ?_ | refine gqU ?_ | refine iqT ?_ | refine iqF ?_)))
          | (apply s_callI rfl; (focus (exact rfl)); (focus ((simp only [vsB, aev, absV, absS, upd_at, if_true, if_false, ite_true, ite_false, eq_self, ne_eq, reduceCtorEq, ↓reduceIte, ↓reduceDIte, Nat.reduceEqDiff, Nat.reduceAdd, Nat.reduceSub, Nat.reduceMul, Nat.reduceLeDiff, Nat.reduceLT, Int.reduceEq, Int.reduceLT, Int.reduceLE, Int.reduceToNat, Int.reduceAdd, Int.reduceNeg, Int.reduceSub, Int.reduceMul, Int.reduceNe, Nat.reduceBEq, Int.reduceBEq, t0, t4, t5, b7, hkid, h5', hil, htk, hs1, hs2, hw2, Tok.c_take, Tok.c_len, Tok.c_all, Tok.c_head, Tok.c_d1, Tok.c_d2]) <;> exact rfl)); (focus (exact aS_l6Flat _ _)))
          | fail)
        refine VC.back ?_
        rw [← hti]
        refine ⟨⟨k + 1, hlt', ?_⟩, ?_⟩
        · (repeat' apply And.intro) <;> (first | rfl | assumption | omega | (simp only [upd_at, Nat.reduceEqDiff, if_true, if_false, and_self, ↓reduceIte, and_true, true_and, Nat.add_left_cancel_iff, Nat.add_eq_left, aint, t0]; done) | ((simp only [upd_at, Nat.reduceEqDiff, if_true, if_false, and_self, ↓reduceIte, and_true, true_and, Nat.add_left_cancel_iff, Nat.add_eq_left, aint, t0]) <;> (first | rfl | assumption | omega)) | (focus (repeat (first | exact Low.refl _ _ | assumption | apply low_upd | apply low_upd0)); done))
        · (repeat' apply And.intro) <;> (first | rfl | assumption | omega | (simp only [upd_at, Nat.reduceEqDiff, if_true, if_false, and_self, ↓reduceIte, and_true, true_and, Nat.add_left_cancel_iff, Nat.add_eq_left, aint, t5, Int.toNat_natCast]; done) | ((simp only [upd_at, Nat.reduceEqDiff, if_true, if_false, and_self, ↓reduceIte, and_true, true_and, Nat.add_left_cancel_iff, Nat.add_eq_left, aint, t5, Int.toNat_natCast]) <;> (first | rfl | assumption | omega)) | (focus (repeat (first | exact Low.refl _ _ | assumption | apply low_upd | apply low_upd0)); done))
    · intro hlt
      have : k = xs.length := by omega
      subst this
      rw [List.take_of_length_le (by omega)] at b7
      repeat (first
        | with_reducible refine VC.seq ?_
        | with_reducible refine VC.region ?_
        | with_reducible refine VC.opsNil ?_
        | with_reducible refine VC.block ?_
        | with_reducible refine VC.blk ?_
        | with_reducible refine VC.skip ?_
        | with_reducible refine VC.scope ?_
        | refine VC.exit rfl ?_
        | ((first | apply s_opS rfl | apply s_opN | apply s_gq rfl | apply s_iq); (focus ((simp only [vsA, vsB, aop, aev, absV, absS, upd_at, aload, rd, afieldAddr, afield, cur, abin, aarith, astr, aun, aindexAddr, aindex, aextract, alen, nv_upd, astore, anil, aconv, asrc, aappend, amake, abuildSlice, abuild, afill, aslice, abnd, Value.cells, if_true, if_false, ite_true, ite_false, eq_self, ne_eq, reduceCtorEq, ↓reduceIte, ↓reduceDIte, Nat.reduceEqDiff, Nat.reduceAdd, Nat.reduceSub, Nat.reduceMul, Nat.reduceLeDiff, Nat.reduceLT, Int.reduceEq, Int.reduceLT, Int.reduceLE, Int.reduceToNat, Int.reduceAdd, Int.reduceNeg, Int.reduceSub, Int.reduceMul, Int.reduceNe, Nat.reduceBEq, Int.reduceBEq, tysXSize_SizesOfS, ayield, Option.bind_some, Option.bind_none, t0, t4, t5, b7]) <;> exact rfl)); (with_reducible (first | refine vc_id ?_ | refine gqT ?_ | refine gqF ?_ | refine gqF' ?_ | refine gqU ?_ | refine iqT ?_ | refine iqF ?_)))
        | fail)
      (first | apply VC.nil | apply VC.ret); (apply fin_own (H0 := H) b7 (by omega); (focus ((simp only [vsA, vsB, aop, aev, absV, absS, upd_at, aload, rd, afieldAddr, afield, cur, abin, aarith, astr, aun, aindexAddr, aindex, aextract, alen, nv_upd, astore, anil, aconv, asrc, aappend, amake, abuildSlice, abuild, afill, aslice, abnd, Value.cells, if_true, if_false, ite_true, ite_false, eq_self, ne_eq, reduceCtorEq, ↓reduceIte, ↓reduceDIte, Nat.reduceEqDiff, Nat.reduceAdd, Nat.reduceSub, Nat.reduceMul, Nat.reduceLeDiff, Nat.reduceLT, Int.reduceEq, Int.reduceLT, Int.reduceLE, Int.reduceToNat, Int.reduceAdd, Int.reduceNeg, Int.reduceSub, Int.reduceMul, Int.reduceNe, Nat.reduceBEq, Int.reduceBEq, tysXSize_SizesOfS, ares, aresL, ares1, Try.results41, t4]) <;> exact rfl)); (focus (repeat (first | exact Low.refl _ _ | assumption | apply low_upd | apply low_upd0))); (focus (exact hn)); (focus (exact hc)))
      · exact ints_isflat _
      · exact ren_tup2 (.os (Nat.le_refl _) rfl b7 rfl (upd_same _ _ _) rfl) (.flat rfl)
      · exact ⟨rfl, rfl⟩
end Go.Proofs.Ytpdpmcllpafjbaa

/- Words of this seat's proofs: regions in an open order: the theorem. No program is named here. -/
import Derived.Test.YtpdpmcllpafjbaaDr
namespace Go.Proofs.Ytpdpmcllpafjbaa
open Go.RowKit
set_option linter.unusedVariables false
set_option linter.unusedSimpArgs false

/-- One operation of a region at an abstract state, with what it touches. -/
inductive OpAt (P : Program) (N n : Nat) (all : Array Oper) (o : Oper) (ta : En) (H : Hp) : AV → Hp → List Nat → Bool → Prop where
  | op {v H1} (hg : o.guard = none ∨ ∃ j w, o.guard = some (j, w) ∧ ayield all ta j = some (some w)) (hd : dstOk N o.dst = true) (h : aop P (aev ta) H (keyOf n o.dst) o.op = some (v, H1)) :
      OpAt P N n all o ta H v H1 (acc (aev ta) (keyOf n o.dst) o.op) (wr o.op)
  | skip {j w y} (hg : o.guard = some (j, w)) (hy : ayield all ta j = some y) (hne : y ≠ some w) (hd : dstOk N o.dst = true) : OpAt P N n all o ta H .un H [] false
  | call {v f args ts g caps} (ks : List Nat) (hg : o.guard = none ∨ ∃ j w, o.guard = some (j, w) ∧ ayield all ta j = some (some w)) (hd : dstOk N o.dst = true) (ho : o.op = .call { callee := .value f, args := args, argTypes := ts }) (hf : aev ta f = .fn (.func g) caps)
      (hc : ∀ H1, (∀ k ∈ ks, H1 k = H k) → ACalls P g (args.toList.map (aev ta) ++ caps) H1 (fun r H' => r = v ∧ H' = H1)) : OpAt P N n all o ta H v H ks false

theorem yield_loc {all : Array Oper} {ta ta' : En} {j : Nat} (h : ∀ t ∈ ((all[j]?).bind (·.dst)).toList, ta' t = ta t) : ayield all ta' j = ayield all ta j := by
  unfold ayield
  cases hb : (all[j]?).bind (·.dst) with
  | none => rfl
  | some t => simp only []; rw [h t (by simp [hb])]

theorem aev_loc {ta ta' : En} {x : Operand} (h : ∀ t, x = .tmp t → ta' t = ta t) : aev ta' x = aev ta x := by
  cases x with
  | tmp t => exact h t rfl
  | _ => rfl

theorem OpAt.loc {P : Program} {N n : Nat} {all : Array Oper} {o : Oper} {ta ta' : En} {H H' H1 : Hp} {v : AV} {ks : List Nat} {b : Bool} (h : OpAt P N n all o ta H v H1 ks b) (ht : ∀ t ∈ o.looksAt all, ta' t = ta t) (hk : ∀ k ∈ ks, H' k = H k) :
    ∃ H1', OpAt P N n all o ta' H' v H1' ks b ∧ (∀ k ∈ ks, H1' k = H1 k) ∧ (∀ k, k ∉ ks → H1' k = H' k ∧ H1 k = H k) := by
  have hop : ∀ x ∈ o.op.operands, aev ta' x = aev ta x := fun x hx => aev_loc fun t e => ht t (by
    subst e
    exact List.mem_append_left _ (List.mem_filterMap.2 ⟨.tmp t, by simpa using hx, rfl⟩))
  have hy : ∀ j w, o.guard = some (j, w) → ayield all ta' j = ayield all ta j := fun j w hg => yield_loc fun t h => ht t (by
    refine List.mem_append_right _ ?_
    simp only [hg]
    exact h)
  have hguard : (o.guard = none ∨ ∃ j w, o.guard = some (j, w) ∧ ayield all ta j = some (some w)) → (o.guard = none ∨ ∃ j w, o.guard = some (j, w) ∧ ayield all ta' j = some (some w)) := fun hg => by
    rcases hg with hg | ⟨j, w, hg, h1⟩
    · exact .inl hg
    · exact .inr ⟨j, w, hg, by rw [hy j w hg]; exact h1⟩
  cases h with
  | op hg hd h =>
    obtain ⟨H1', e1, e2, e3⟩ := aop_loc h hop hk
    have hacc : acc (aev ta') (keyOf n o.dst) o.op = acc (aev ta) (keyOf n o.dst) o.op := by
      have : keysOf (aev ta') o.op = keysOf (aev ta) o.op := by
        unfold keysOf
        rw [List.flatMap_def, List.flatMap_def, List.map_congr_left fun x hx => by rw [hop x (by simpa using hx)]]
      unfold acc; rw [this]
    have := OpAt.op (P := P) (N := N) (n := n) (all := all) (o := o) (ta := ta') (H := H') (hguard hg) hd e1
    rw [hacc] at this
    exact ⟨H1', this, e2, e3⟩
  | @skip j w y hg h1 hne hd => exact ⟨H', .skip hg (by rw [hy j w hg]; exact h1) hne hd, fun k h => by simp at h, fun _ _ => ⟨rfl, rfl⟩⟩
  | @call v f args ts g caps ks hg hd ho hf hc =>
    have e1 : aev ta' f = aev ta f := hop f (by rw [ho]; simp [Op.operands, Call.operands])
    have e2 : args.toList.map (aev ta') = args.toList.map (aev ta) := List.map_congr_left fun x hx => hop x (by rw [ho]; simp [Op.operands, Call.operands]; exact .inr (by simpa using hx))
    exact ⟨H', .call ks (hguard hg) hd ho (by rw [e1]; exact hf) (by rw [e2]; exact fun H1 h1 => hc H1 fun k hkk => (h1 k hkk).trans (hk k hkk)), hk, fun _ _ => ⟨rfl, rfl⟩⟩

section
variable {P : Program} {N n : Nat} {M0 : Mem} {ρ0 : Nat → Nat × Nat} {H0 : Hp} {w0 : World} {ta : En} {H : Hp} {M : Mem} {ρ : Nat → Nat × Nat} {a : Act} {w : World}

theorem ayield_run {all : Array Oper} {j : Nat} {y : Option Bool} (he : ∀ t, V M ρ H (ta t) (a.tmps.getD t undef)) (hy : ayield all ta j = some y) : yielded all a.tmps j = y := by
  unfold ayield at hy
  unfold yielded
  split at hy
  · rename_i hb; cases hy; simp [hb]
  · rename_i t hb
    have hv := he t
    split at hy
    · rename_i x hx
      cases hy
      rw [hx] at hv
      have := hv.inv_b
      have h3 : a.tmps[t]? = some (.bool x) := by
        cases ht : a.tmps[t]? with
        | none => simp [ht] at this; cases this
        | some u => simp [ht] at this; rw [this]
      simp [hb, h3]
    · rename_i hx
      cases hy
      rw [hx] at hv
      have := hv.inv_un
      cases ht : a.tmps[t]? with
      | none => simp [hb, ht]
      | some u => simp [ht] at this; subst this; simp [hb, ht, undef]
    · cases hy

theorem OpAt.run {ops : Array Oper} {Q : Exit → Act → World → Prop} {i : Nat} {o : Oper} {v : AV} {H1 : Hp} {ks : List Nat} {b : Bool} {K : Act → World → Prop} (h : OpAt P N n ops o ta H v H1 ks b) (hi : ops[i]? = some o)
    (hat : At N n M0 ρ0 H0 w0 ta H M ρ a w) (hK : ∀ M' ρ' a' w', At N n M0 ρ0 H0 w0 (aput ta o.dst v) H1 M' ρ' a' w' → K a' w') : wpOp P ops Q i K a w := by
  unfold wpOp
  simp only [hi]
  have hwant : (o.guard = none ∨ ∃ j w, o.guard = some (j, w) ∧ ayield ops ta j = some (some w)) → Region.wanted o (yielded ops a.tmps) = true := fun hg => by
    rcases hg with hg | ⟨j, w, hg, h1⟩
    · simp [Region.wanted, hg]
    · simp [Region.wanted, hg, ayield_run hat.env h1]
  cases h with
  | op hg hd h =>
    rw [if_pos (hwant hg)]
    refine .inl ?_
    obtain ⟨u, w', ρ', hr, hs, hv, hx, hf⟩ := aop_run (env := a.eval) (f := aev ta) (o := o) (fun x => aev_V hat.env x) hat.sim h
    have hat' := hat.put hd hs hv hx hf
    show Oper.upon P o a _ _ ((execOp a.eval o).run P w)
    rcases hr with hr | ⟨hr, rfl⟩
    · rw [hr]; exact hK M ρ' _ w' hat'
    · rw [hr]; exact hK M ρ' _ w' hat'
  | skip hg hy hne hd =>
    rw [if_neg (by simp [Region.wanted, hg, ayield_run hat.env hy]; exact hne)]
    exact hK M ρ _ w (hat.put (dst := o.dst) hd hat.sim (.t .un) (.refl _ _ _) (.refl _))
  | @call _ f args ts g caps ks hg hd ho hf hc =>
    rw [if_pos (hwant hg)]
    refine .inl ?_
    obtain ⟨⟨fn, c, hfn, hname, hbody⟩, hcall⟩ := hc H (fun _ _ => rfl)
    obtain ⟨vs, hvf, hvl, hvv⟩ := (hf ▸ aev_V hat.env f : V M ρ H (.fn (.func g) caps) (a.eval f)).inv_fn
    have hrun : (execOp a.eval o).run P w = .ok (.enter g ((args.toList.map a.eval) ++ vs).toArray) w := by
      have h1 : fn.name ≠ "runtime.NumGoroutine" := by simpa using hname
      have e1 : args.map a.eval ++ vs.toArray = ((args.toList.map a.eval) ++ vs).toArray := by
        apply Array.toList_inj.1; simp
      simp [execOp, ho, resolve, hvf, Deferred.ofValue, invoke, callFunc, hfn, h1, hbody, e1]
    show Oper.upon P o a _ _ ((execOp a.eval o).run P w)
    rw [hrun]
    refine (hcall M ρ w _ hat.sim (by simp [hvl]) fun j h1 h2 => ?_).mono ?_
    · simp only [List.getElem_append, List.length_map]
      split
      · simp only [List.getElem_map]; exact aev_V hat.env _
      · exact hvv _ _ _
    · rintro e w' ⟨u, av, M', ρ', H', rfl, ⟨rfl, rfl⟩, hs, hv, hx, hf'⟩
      exact hK M' ρ' _ w' (hat.put hd hs hv hx hf')
end

theorem OpAt.wr {P : Program} {N n : Nat} {all : Array Oper} {o : Oper} {ta : En} {H H1 : Hp} {v : AV} {ks : List Nat} {b : Bool} (h : OpAt P N n all o ta H v H1 ks b) (hb : b = true) : wr o.op = true := by
  cases h with
  | op => exact hb
  | skip => cases hb
  | call => cases hb
theorem aop_read {P : Program} {f : Operand → AV} {H H1 : Hp} {key : Nat} {op : Op} {v : AV} (h : aop P f H key op = some (v, H1)) (hw : Go.Proofs.Ytpdpmcllpafjbaa.wr op = false) : H1 = H := by
  cases op with
  | call c =>
    simp only [aop] at h
    split at h
    · exact (Option.map_eq_some_iff.1 h).elim fun x hx => (Prod.mk.inj hx.2).2.symm
    · rename_i c1 c2 c3
      simp [Go.Proofs.Ytpdpmcllpafjbaa.wr, c1] at hw
    · split at h
      · exact (Prod.mk.inj (Option.some.inj h)).2.symm
      · cases h
    · split at h
      · exact (Prod.mk.inj (Option.some.inj h)).2.symm
      · cases h
    · cases h
  | move x => exact (Prod.mk.inj (Option.some.inj h)).2.symm
  | assign x => exact (Prod.mk.inj (Option.some.inj h)).2.symm
  | pick c a b =>
    simp only [aop] at h
    split at h
    · exact (Prod.mk.inj (Option.some.inj h)).2.symm
    · cases h
  | makeFunc fn first caps =>
    simp only [aop] at h
    split at h
    · exact (Prod.mk.inj (Option.some.inj h)).2.symm
    · cases h
  | slice t x lo hi mx => cases mx with
    | none => exact (Option.map_eq_some_iff.1 h).elim fun x hx => (Prod.mk.inj hx.2).2.symm
    | some m => cases h
  | alloc | box | buildSlice | makeSlice | store => simp [Go.Proofs.Ytpdpmcllpafjbaa.wr] at hw
  | build | load | nilCheck | binOp | unOp | convert | fieldAddr | field | indexAddr | index | extract => exact (Option.map_eq_some_iff.1 h).elim fun x hx => (Prod.mk.inj hx.2).2.symm
  | _ => cases h
theorem OpAt.rd {P : Program} {N n : Nat} {all : Array Oper} {o : Oper} {ta : En} {H H1 : Hp} {v : AV} {ks : List Nat} {b : Bool} (h : OpAt P N n all o ta H v H1 ks b) (hb : b = false) : H1 = H := by
  cases h with
  | op hg hd h => exact aop_read h hb
  | skip => rfl
  | call => rfl

/-- The text's order. -/
inductive RR (P : Program) (N n : Nat) (all : Array Oper) : List Oper → En → Hp → List (List Nat × Bool) → En → Hp → Prop where
  | nil {ta H} : RR P N n all [] ta H [] ta H
  | cons {o os ta H v H1 ks b rs ta' H'} (h : OpAt P N n all o ta H v H1 ks b) (k : RR P N n all os (aput ta o.dst v) H1 rs ta' H') : RR P N n all (o :: os) ta H ((ks, b) :: rs) ta' H'

theorem RR.states {P : Program} {N n : Nat} {all : Array Oper} {l : List Oper} {ta : En} {H : Hp} {rs : List (List Nat × Bool)} {ta' : En} {H' : Hp} (h : RR P N n all l ta H rs ta' H') :
    rs.length = l.length ∧ ∃ (s : Nat → En × Hp) (v : Nat → AV), s 0 = (ta, H) ∧ s l.length = (ta', H') ∧ ∀ (i : Nat) (hi : i < l.length), OpAt P N n all l[i] (s i).1 (s i).2 (v i) (s (i + 1)).2 (rs.getD i ([], false)).1 (rs.getD i ([], false)).2 ∧ (s (i + 1)).1 = aput (s i).1 l[i].dst (v i) := by
  induction h with
  | nil => exact ⟨rfl, fun _ => (_, _), fun _ => .u, rfl, rfl, fun i hi => by simp at hi⟩
  | @cons o os ta H v H1 ks b rs ta' H' h k ih =>
    obtain ⟨hl, s, vs, h1, h2, h3⟩ := ih
    refine ⟨by simp [hl], fun i => match i with | 0 => (ta, H) | i + 1 => s i, fun i => match i with | 0 => v | i + 1 => vs i, rfl, h2, fun i hi => ?_⟩
    cases i with
    | zero => simp only [List.getElem_cons_zero, List.getD_cons_zero]; rw [h1]; exact ⟨h, rfl⟩
    | succ i => simpa using h3 i (by simpa using hi)

/-- i comes before j, by the edges. -/
inductive Anc (ops : Array Oper) : Nat → Nat → Prop where
  | one {i j : Nat} {o : Oper} {e : Edge} (ho : ops[j]? = some o) (he : e ∈ o.after) (hb : Region.binds .any e = true) (hi : e.on = i) : Anc ops i j
  | step {i j : Nat} {o : Oper} {e : Edge} (ho : ops[j]? = some o) (he : e ∈ o.after) (hb : Region.binds .any e = true) (h : Anc ops i e.on) : Anc ops i j

def edgesBack (ops : Array Oper) : Bool := ops.toList.zipIdx.all fun p => p.1.after.toList.all fun e => !Region.binds .any e || decide (e.on < p.2)

/-- For each operation, those that come before it. -/
def befL : List Oper → List Nat → List Nat
  | [], acc => acc
  | o :: os, acc => befL os (acc ++ [o.after.toList.foldl (fun s e => if Region.binds .any e then s ||| 2 ^ e.on ||| acc.getD e.on 0 else s) 0])

theorem befL_spec (ops : Array Oper) (heb : edgesBack ops = true) : ∀ (l : List Oper) (acc : List Nat), ops.toList = (ops.toList.take acc.length) ++ l → acc.length ≤ ops.size →
    (∀ (k i : Nat), k < acc.length → (acc.getD k 0).testBit i = true → Anc ops i k) → ∀ (k i : Nat), ((befL l acc).getD k 0).testBit i = true → Anc ops i k := by
  intro l
  induction l with
  | nil =>
    intro acc _ _ h k i hb
    simp only [befL] at hb
    by_cases hk : k < acc.length
    · exact h k i hk hb
    · rw [show acc.getD k 0 = 0 by simp [List.getD, List.getElem?_eq_none (show acc.length ≤ k by omega)]] at hb; simp at hb
  | cons o os ih =>
    intro acc hl hle h k i hb
    simp only [befL] at hb
    have hlen : acc.length < ops.size := by
      have := congrArg List.length hl
      simp at this; omega
    have ho : ops[acc.length]? = some o := by
      rw [← Array.getElem?_toList, hl, List.getElem?_append_right (by simp; omega)]
      simp [Nat.min_eq_left hle]
    refine ih _ ?_ (by simp; omega) ?_ k i hb
    · rw [List.length_append, List.length_singleton]
      have e1 : ops.toList.take (acc.length + 1) = ops.toList.take acc.length ++ [o] := by
        rw [List.take_succ_eq_append_getElem (by simpa using hlen)]
        congr 2
        have := Array.getElem?_eq_some_iff.1 ho
        simpa using this.2
      rw [e1, List.append_assoc]; exact hl
    · intro k i hk hbit
      rw [List.length_append, List.length_singleton] at hk
      by_cases hk' : k < acc.length
      · refine h k i hk' ?_
        rw [← hbit]
        simp only [List.getD, List.getElem?_append_left hk']
      · obtain rfl : k = acc.length := by omega
        simp only [List.getD, List.getElem?_append_right (Nat.le_refl _), Nat.sub_self, List.getElem?_cons_zero, Option.getD_some] at hbit
        have heb' : ∀ e ∈ o.after.toList, Region.binds .any e = true → e.on < acc.length := fun e he hbd => by
          unfold edgesBack at heb
          rw [List.all_eq_true] at heb
          have := heb (o, acc.length) (by
            rw [List.mem_zipIdx_iff_getElem?]
            simpa using ho)
          rw [List.all_eq_true] at this
          have := this e he
          simpa [hbd] using this
        have key : ∀ (es : List Edge) (s : Nat), (∀ e ∈ es, e ∈ o.after.toList) → (s.testBit i = true → Anc ops i acc.length) → ((es.foldl (fun s e => if Region.binds .any e then s ||| 2 ^ e.on ||| acc.getD e.on 0 else s) s).testBit i = true → Anc ops i acc.length) := by
          intro es
          induction es with
          | nil => intro s _ hs hb; exact hs hb
          | cons e es ihe =>
            intro s hsub hs hb
            rw [List.foldl_cons] at hb
            refine ihe _ (fun x hx => hsub x (by simp [hx])) ?_ hb
            split
            · rename_i hbd
              intro hb2
              rw [Nat.testBit_or, Nat.testBit_or, Nat.testBit_two_pow] at hb2
              have hmem : e ∈ o.after := by simpa using hsub e (by simp)
              simp only [Bool.or_eq_true, decide_eq_true_eq] at hb2
              rcases hb2 with (hb2 | hb2) | hb2
              · exact hs hb2
              · exact .one ho hmem hbd hb2
              · exact .step ho hmem hbd (h e.on i (heb' e (hsub e (by simp)) hbd) hb2)
            · exact hs
        exact key o.after.toList 0 (fun _ h => h) (by simp) hbit

def ordB (bf : List Nat) (i j : Nat) : Bool := (bf.getD j 0).testBit i || (bf.getD i 0).testBit j
/-- Operations that are not ordered have temporaries of their own. -/
def tmpsApart (ops : Array Oper) (bf : List Nat) : Bool :=
  ops.toList.zipIdx.all fun p => ops.toList.zipIdx.all fun q => p.2 == q.2 || ordB bf p.2 q.2 || p.1.apart ops q.1
/-- Those pairs that are not ordered where one writes. -/
def openPairs (ops : Array Oper) (bf : List Nat) : List (Nat × Nat) :=
  ops.toList.zipIdx.flatMap fun p => ops.toList.zipIdx.filterMap fun q => if decide (p.2 < q.2) && !ordB bf p.2 q.2 && (wr p.1.op || wr q.1.op) then some (p.2, q.2) else none
def noSel (ops : Array Oper) : Bool := ops.toList.all fun o => match o.op with | .select .. => false | _ => true

theorem RegOk.run {P : Program} (hm : P.follows .mixedOrders = true) {N n : Nat} {ops : Array Oper} {ta : En} {H : Hp} {rs : List (List Nat × Bool)} {ta' : En} {H' : Hp} {bf : List Nat} {U : List (Nat × Nat)}
    (heb : edgesBack ops = true) (hbf : befL ops.toList [] = bf) (hta : tmpsApart ops bf = true) (hU : openPairs ops bf = U) (h : RR P N n ops ops.toList ta H rs ta' H')
    (hk : ∀ p ∈ U, ∀ k ∈ (rs.getD p.1 ([], false)).1, k ∉ (rs.getD p.2 ([], false)).1) : RegOk P N n ops ta H (fun a b => a = ta' ∧ b = H') := by
  intro id M0 ρ0 H0 w0 M ρ a w Q hat hQ
  refine wp_region_any hm ?_
  obtain ⟨hrl, s, v, hs0, hsn, hs⟩ := h.states
  have hsz : ops.toList.length = ops.size := by simp
  rw [hsz] at hsn hrl
  -- what each operation writes and looks at
  have hop : ∀ i o, ops[i]? = some o → ∃ hi : i < ops.toList.length, ops.toList[i] = o := fun i o h => by
    obtain ⟨h1, h2⟩ := Array.getElem?_eq_some_iff.1 h
    exact ⟨by simpa using h1, by simpa using h2⟩
  have hanc : ∀ i j, (bf.getD j 0).testBit i = true → Anc ops i j := fun i j hb => by
    rw [← hbf] at hb
    exact befL_spec ops heb ops.toList [] (by simp) (Nat.zero_le _) (fun k i hk => by simp at hk) j i hb
  have hlt : ∀ {i j}, Anc ops i j → i < j := by
    have one : ∀ {j o e}, ops[j]? = some o → e ∈ o.after → Region.binds .any e = true → e.on < j := fun {j o e} ho he hb => by
      unfold edgesBack at heb
      rw [List.all_eq_true] at heb
      have := heb (o, j) (by rw [List.mem_zipIdx_iff_getElem?]; simpa using ho)
      rw [List.all_eq_true] at this
      have := this e (by simpa using he)
      simpa [hb] using this
    intro i j h
    induction h with
    | one ho he hb hi => subst hi; exact one ho he hb
    | step ho he hb _ ih => have := one ho he hb; omega
  have tA : ∀ i j oi oj, ops[i]? = some oi → ops[j]? = some oj → i < j → Anc ops i j ∨ oi.apart ops oj = true := fun i j oi oj hi hj hij => by
    unfold tmpsApart at hta
    rw [List.all_eq_true] at hta
    have h1 := hta (oi, i) (by rw [List.mem_zipIdx_iff_getElem?]; simpa using hi)
    rw [List.all_eq_true] at h1
    have h2 := h1 (oj, j) (by rw [List.mem_zipIdx_iff_getElem?]; simpa using hj)
    simp only [Bool.or_eq_true, beq_iff_eq] at h2
    rcases h2 with (h2 | h2) | h2
    · omega
    · unfold ordB at h2
      rw [Bool.or_eq_true] at h2
      rcases h2 with h2 | h2
      · exact .inl (hanc _ _ h2)
      · have := hlt (hanc _ _ h2); omega
    · exact .inr h2
  have tB : ∀ i j oi oj, ops[i]? = some oi → ops[j]? = some oj → j < i → Anc ops j i ∨ oi.apart ops oj = true := fun i j oi oj hi hj hij => by
    unfold tmpsApart at hta
    rw [List.all_eq_true] at hta
    have h1 := hta (oi, i) (by rw [List.mem_zipIdx_iff_getElem?]; simpa using hi)
    rw [List.all_eq_true] at h1
    have h2 := h1 (oj, j) (by rw [List.mem_zipIdx_iff_getElem?]; simpa using hj)
    simp only [Bool.or_eq_true, beq_iff_eq] at h2
    rcases h2 with (h2 | h2) | h2
    · omega
    · unfold ordB at h2
      rw [Bool.or_eq_true] at h2
      rcases h2 with h2 | h2
      · have := hlt (hanc _ _ h2); omega
      · exact .inl (hanc _ _ h2)
    · exact .inr h2
  -- the keys that an operation touches, and writes
  let K (i : Nat) : List Nat := (rs.getD i ([], false)).1
  let B (i : Nat) : Bool := (rs.getD i ([], false)).2
  have wrB : ∀ i o, ops[i]? = some o → B i = true → wr o.op = true := fun i o hi hb => by
    obtain ⟨h1, h2⟩ := hop i o hi
    obtain ⟨h3, _⟩ := hs i h1
    rw [h2] at h3
    exact h3.wr hb
  have kA : ∀ i j oi oj, ops[i]? = some oi → ops[j]? = some oj → i < j → (B i = true ∨ B j = true) → Anc ops i j ∨ ∀ k ∈ K i, k ∉ K j := fun i j oi oj hi hj hij hb => by
    by_cases ho : ordB bf i j = true
    · unfold ordB at ho
      rw [Bool.or_eq_true] at ho
      rcases ho with ho | ho
      · exact .inl (hanc _ _ ho)
      · have := hlt (hanc _ _ ho); omega
    · refine .inr (hk (i, j) ?_)
      rw [← hU]
      unfold openPairs
      rw [List.mem_flatMap]
      refine ⟨(oi, i), by rw [List.mem_zipIdx_iff_getElem?]; simpa using hi, ?_⟩
      rw [List.mem_filterMap]
      refine ⟨(oj, j), by rw [List.mem_zipIdx_iff_getElem?]; simpa using hj, ?_⟩
      have hw : (wr oi.op || wr oj.op) = true := by
        rw [Bool.or_eq_true]
        rcases hb with hb | hb
        · exact .inl (wrB i oi hi hb)
        · exact .inr (wrB j oj hj hb)
      have ho' : ordB bf i j = false := by simpa using ho
      simp [hij, ho', hw]
  -- the frame of one step of the text
  have frT : ∀ i (hi : i < ops.size) t, (ops[i]).dst ≠ some t → (s (i + 1)).1 t = (s i).1 t := fun i hi t hne => by
    have := (hs i (by simpa using hi)).2
    rw [this]
    simp only [Array.getElem_toList]
    cases hd : (ops[i]).dst with
    | none => rfl
    | some d => exact upd_ne _ _ (fun e => hne (by rw [hd, e]))
  have frK : ∀ i (hi : i < ops.size) k, (k ∉ K i ∨ B i = false) → (s (i + 1)).2 k = (s i).2 k := fun i hi k hne => by
    have h3 := (hs i (by simpa using hi)).1
    obtain ⟨H1', _, e2, e3⟩ := h3.loc (ta' := (s i).1) (H' := (s i).2) (fun _ _ => rfl) (fun _ _ => rfl)
    by_cases hm : k ∈ K i
    · rw [h3.rd (hne.resolve_left (fun h => h hm))]
    · exact (e3 k hm).2
  -- what holds when the operations that are listed have run
  let Inv (listed : Array Bool) (ta : En) (H : Hp) : Prop :=
    (∀ t m, m ≤ ops.size → (∀ j o, ops[j]? = some o → o.dst = some t → (listed.getD j true = true ↔ j < m)) → ta t = (s m).1 t) ∧
    (∀ k m, m ≤ ops.size → (∀ j o, ops[j]? = some o → k ∈ K j → B j = true → (listed.getD j true = true ↔ j < m)) → H k = (s m).2 k)
  let DC (listed : Array Bool) : Prop := listed.size = ops.size ∧ ∀ j o, ops[j]? = some o → listed.getD j true = true → ∀ e ∈ o.after, Region.binds .any e = true → listed.getD e.on false = true
  have dcAnc : ∀ listed, DC listed → ∀ i j, Anc ops i j → listed.getD j true = true → listed.getD i false = true := by
    intro listed hdc i j ha
    induction ha with
    | one ho he hb hi => intro hl; subst hi; exact hdc.2 _ _ ho hl _ he hb
    | @step j o e ho he hb ha ih =>
      intro hl
      have h1 := hdc.2 _ _ ho hl _ he hb
      refine ih ?_
      cases hx : listed[e.on]? with
      | none => simp [hx] at h1
      | some x => simp [hx] at h1 ⊢; exact h1
  have getDT : ∀ (listed : Array Bool) j, listed.getD j false = true → listed.getD j true = true := fun listed j h => by
    cases hx : listed[j]? with
    | none => simp [hx] at h
    | some x => simp [hx] at h ⊢; exact h
  have main : ∀ (fuel : Nat) (listed : Array Bool) (ta : En) (H : Hp) (M : Mem) (ρ : Nat → Nat × Nat) (a : Act) (w : World), DC listed → Inv listed ta H → At N n M0 ρ0 H0 w0 ta H M ρ a w →
      (List.range ops.size).countP (fun j => !listed.getD j true) ≤ fuel → wpAny P .any ops Q fuel listed a w := by
    have done : ∀ (listed : Array Bool) (ta : En) (H : Hp) (M : Mem) (ρ : Nat → Nat × Nat) (a : Act) (w : World), DC listed → Inv listed ta H → At N n M0 ρ0 H0 w0 ta H M ρ a w → Region.ready .any ops listed = [] → Q .normal a w := by
      intro listed ta H M ρ a w hdc hinv hat hr
      have hall : ∀ j, j < ops.size → listed.getD j true = true := by
        intro j
        induction j using Nat.strongRecOn with
        | _ j ih =>
          intro hj
          cases hl : listed.getD j true with
          | true => rfl
          | false =>
            have : j ∈ Region.ready .any ops listed := mem_ready.2 ⟨hl, ops[j], by simp [hj], fun e he hb => by
              have hej : e.on < j := hlt (.one (o := ops[j]) (by simp [hj]) he hb rfl)
              have h1 := ih e.on hej (by omega)
              cases hx : listed[e.on]? with
              | none =>
                have := Array.getElem?_eq_none_iff.1 hx
                have := hdc.1
                omega
              | some x => simp [hx] at h1 ⊢; exact h1⟩
            rw [hr] at this
            cases this
      have e1 : ta = ta' := by
        funext t
        have := hinv.1 t ops.size (Nat.le_refl _) fun j o ho _ => ⟨fun _ => (Array.getElem?_eq_some_iff.1 ho).1, fun hj => hall j hj⟩
        rw [hsn] at this; exact this
      have e2 : H = H' := by
        funext k
        have := hinv.2 k ops.size (Nat.le_refl _) fun j o ho _ _ => ⟨fun _ => (Array.getElem?_eq_some_iff.1 ho).1, fun hj => hall j hj⟩
        rw [hsn] at this; exact this
      exact hQ ta' H' M ρ a w ⟨rfl, rfl⟩ (e1 ▸ e2 ▸ hat)
    intro fuel
    induction fuel with
    | zero =>
      intro listed ta H M ρ a w hdc hinv hat hc
      have hr : Region.ready .any ops listed = [] := by
        cases hr : Region.ready .any ops listed with
        | nil => rfl
        | cons i is =>
          have hi : i ∈ Region.ready .any ops listed := by rw [hr]; simp
          obtain ⟨h1, o, ho, _⟩ := mem_ready.1 hi
          have : 0 < (List.range ops.size).countP (fun j => !listed.getD j true) := List.countP_pos_iff.2 ⟨i, List.mem_range.2 (Array.getElem?_eq_some_iff.1 ho).1, by rw [h1]; rfl⟩
          omega
      exact ⟨hr, done listed ta H M ρ a w hdc hinv hat hr⟩
    | succ fuel ih =>
      intro listed ta H M ρ a w hdc hinv hat hc
      refine ⟨done listed ta H M ρ a w hdc hinv hat, fun i hi => ?_⟩
      obtain ⟨hun, o, ho, hpre⟩ := mem_ready.1 hi
      obtain ⟨hil, hio⟩ := hop i o ho
      have hisz : i < ops.size := by simpa using hil
      obtain ⟨hopat, hst⟩ := hs i hil
      rw [hio] at hopat hst
      have pre : ∀ j, Anc ops j i → listed.getD j true = true := fun j ha => by
        cases ha with
        | one ho' he hb hj =>
          rw [ho] at ho'; cases ho'
          subst hj
          exact getDT _ _ (hpre _ he hb)
        | step ho' he hb ha =>
          rw [ho] at ho'; cases ho'
          exact getDT _ _ (dcAnc listed hdc _ _ ha (getDT _ _ (hpre _ he hb)))
      have notAft : ∀ j, Anc ops i j → listed.getD j true = false := fun j ha => by
        cases hl : listed.getD j true with
        | false => rfl
        | true =>
          have := getDT _ _ (dcAnc listed hdc _ _ ha hl)
          rw [this] at hun; cases hun
      -- the operation sees what it saw in the text's order
      have hT : ∀ t ∈ o.looksAt ops, ta t = (s i).1 t := fun t ht => hinv.1 t i (by omega) fun j oj hoj hd => by
        rcases Nat.lt_trichotomy j i with hji | hji | hji
        · refine ⟨fun _ => hji, fun _ => ?_⟩
          rcases tB i j o oj ho hoj hji with h1 | h1
          · exact pre j h1
          · obtain ⟨_, _, h3⟩ := Oper.apart_spec h1
            exact absurd ht (h3 t hd)
        · subst hji
          exact ⟨fun h => (by rw [h] at hun; cases hun), fun h => absurd h (Nat.lt_irrefl _)⟩
        · refine ⟨fun hl => ?_, fun h => by omega⟩
          rcases tA i j o oj ho hoj hji with h1 | h1
          · rw [notAft j h1] at hl; cases hl
          · obtain ⟨_, _, h3⟩ := Oper.apart_spec h1
            exact absurd ht (h3 t hd)
      have hK : ∀ k ∈ K i, H k = (s i).2 k := fun k hk' => hinv.2 k i (by omega) fun j oj hoj hkj hbj => by
        rcases Nat.lt_trichotomy j i with hji | hji | hji
        · refine ⟨fun _ => hji, fun _ => ?_⟩
          rcases kA j i oj o hoj ho hji (.inl hbj) with h1 | h1
          · exact pre j h1
          · exact absurd hk' (h1 k hkj)
        · subst hji
          exact ⟨fun h => (by rw [h] at hun; cases hun), fun h => absurd h (Nat.lt_irrefl _)⟩
        · refine ⟨fun hl => ?_, fun h => by omega⟩
          rcases kA i j o oj ho hoj hji (.inr hbj) with h1 | h1
          · rw [notAft j h1] at hl; cases hl
          · exact absurd hkj (h1 k hk')
      obtain ⟨H1', q1, q2, q3⟩ := hopat.loc hT hK
      refine q1.run ho hat fun M' ρ' a' w' hat' => ih _ _ H1' M' ρ' a' w' ?_ ?_ hat' ?_
      · -- downward closed
        refine ⟨by simp [hdc.1], fun j oj hoj hl e he hb => ?_⟩
        by_cases hij : i = j
        · subst hij
          rw [ho] at hoj; cases hoj
          exact getD_set_true (hpre e he hb)
        · rw [getD_set_ne true hij] at hl
          exact getD_set_true (hdc.2 j oj hoj hl e he hb)
      · refine ⟨fun t m hmz hw => ?_, fun k m hmz hw => ?_⟩
        · by_cases hd : o.dst = some t
          · have him : i < m := (hw i o ho hd).1 (by
              have : i < listed.size := by rw [hdc.1]; exact hisz
              simp [this])
            have e1 : aput ta o.dst (v i) t = (s (i + 1)).1 t := by
              rw [hst, hd]; simp [aput, upd]
            rw [e1]
            have step : ∀ d, i + 1 + d ≤ m → (s (i + 1 + d)).1 t = (s (i + 1)).1 t := by
              intro d
              induction d with
              | zero => intro _; rfl
              | succ d ihd =>
                intro hle
                rw [← ihd (by omega), show i + 1 + (d + 1) = (i + 1 + d) + 1 by omega]
                have hjs : i + 1 + d < ops.size := by omega
                refine frT (i + 1 + d) hjs t fun hdd => ?_
                have hj := (hw (i + 1 + d) ops[i + 1 + d] (by simp [hjs]) hdd).2 (by omega)
                rw [getD_set_ne true (by omega)] at hj
                rcases tA i (i + 1 + d) o (ops[i + 1 + d]) ho (by simp [hjs]) (by omega) with h1 | h1
                · rw [notAft _ h1] at hj; cases hj
                · obtain ⟨_, h2, _⟩ := Oper.apart_spec h1
                  exact h2 t hd hdd
            have := step (m - (i + 1)) (by omega)
            rw [show i + 1 + (m - (i + 1)) = m by omega] at this
            exact this.symm
          · have e1 : aput ta o.dst (v i) t = ta t := by
              cases hdd : o.dst with
              | none => rfl
              | some d => exact upd_ne _ _ (fun e => hd (by rw [hdd, e]))
            rw [e1]
            refine hinv.1 t m hmz fun j oj hoj hdj => ?_
            have hij : i ≠ j := fun e => by subst e; rw [ho] at hoj; cases hoj; exact hd hdj
            have := hw j oj hoj hdj
            rwa [getD_set_ne true hij] at this
        · by_cases hkb : k ∈ K i ∧ B i = true
          · obtain ⟨hki, hbi⟩ := hkb
            have him : i < m := (hw i o ho hki hbi).1 (by
              have : i < listed.size := by rw [hdc.1]; exact hisz
              simp [this])
            rw [q2 k hki]
            have step : ∀ d, i + 1 + d ≤ m → (s (i + 1 + d)).2 k = (s (i + 1)).2 k := by
              intro d
              induction d with
              | zero => intro _; rfl
              | succ d ihd =>
                intro hle
                rw [← ihd (by omega), show i + 1 + (d + 1) = (i + 1 + d) + 1 by omega]
                have hjs : i + 1 + d < ops.size := by omega
                refine frK (i + 1 + d) hjs k ?_
                by_cases hkj : k ∈ K (i + 1 + d)
                · refine .inr ?_
                  cases hbj : B (i + 1 + d) with
                  | false => rfl
                  | true =>
                    exfalso
                    have hj := (hw (i + 1 + d) ops[i + 1 + d] (by simp [hjs]) hkj hbj).2 (by omega)
                    rw [getD_set_ne true (by omega)] at hj
                    rcases kA i (i + 1 + d) o (ops[i + 1 + d]) ho (by simp [hjs]) (by omega) (.inl hbi) with h1 | h1
                    · rw [notAft _ h1] at hj; cases hj
                    · exact h1 k hki hkj
                · exact .inl hkj
            have := step (m - (i + 1)) (by omega)
            rw [show i + 1 + (m - (i + 1)) = m by omega] at this
            exact this.symm
          · have hsame : H1' k = H k := by
              by_cases hki : k ∈ K i
              · have hbi : B i = false := by
                  cases hb : B i with
                  | false => rfl
                  | true => exact absurd ⟨hki, hb⟩ hkb
                rw [q2 k hki, frK i hisz k (.inr hbi), hK k hki]
              · exact (q3 k hki).1
            rw [hsame]
            refine hinv.2 k m hmz fun j oj hoj hkj hbj => ?_
            have hij : i ≠ j := fun e => by subst e; exact hkb ⟨hkj, hbj⟩
            have := hw j oj hoj hkj hbj
            rwa [getD_set_ne true hij] at this
      · -- fewer are left
        have hlt' : i < listed.size := by rw [hdc.1]; exact hisz
        have hcount : ∀ (l : List Nat), l.Nodup → i ∈ l → l.countP (fun j => !(listed.setIfInBounds i true).getD j true) + 1 ≤ l.countP (fun j => !listed.getD j true) := by
          intro l
          induction l with
          | nil => intro _ h; cases h
          | cons x l ihl =>
            intro hnd hm
            obtain ⟨hx, hnd'⟩ := List.nodup_cons.1 hnd
            rw [List.countP_cons, List.countP_cons]
            rcases List.mem_cons.1 hm with rfl | hm
            · have e0 : l.countP (fun j => !(listed.setIfInBounds i true).getD j true) = l.countP (fun j => !listed.getD j true) := List.countP_congr fun j hj => by
                have : i ≠ j := fun e => hx (e ▸ hj)
                rw [getD_set_ne true this]
              have e1 : (listed.setIfInBounds i true).getD i true = true := by simp [hlt']
              rw [e0, e1, hun]; simp
            · have hix : i ≠ x := fun e => hx (e ▸ hm)
              have := ihl hnd' hm
              rw [getD_set_ne true hix]
              omega
        have := hcount (List.range ops.size) List.nodup_range (List.mem_range.2 hisz)
        omega
  refine main ops.size _ ta H M ρ a _ ⟨by simp, fun j o ho hl => ?_⟩ ⟨fun t m hmz hw => ?_, fun k m hmz hw => ?_⟩ ?_ ?_
  · have := (Array.getElem?_eq_some_iff.1 ho).1
    simp [this] at hl
  · have step : ∀ d, d ≤ m → (s d).1 t = (s 0).1 t := by
      intro d
      induction d with
      | zero => intro _; rfl
      | succ d ihd =>
        intro hle
        rw [← ihd (by omega)]
        have hd : d < ops.size := by omega
        refine frT d hd t fun hdd => ?_
        have := (hw d ops[d] (by simp [hd]) hdd).2 (by omega)
        simp [hd] at this
    rw [step m (Nat.le_refl _), hs0]
  · have step : ∀ d, d ≤ m → (s d).2 k = (s 0).2 k := by
      intro d
      induction d with
      | zero => intro _; rfl
      | succ d ihd =>
        intro hle
        rw [← ihd (by omega)]
        have hd : d < ops.size := by omega
        refine frK d hd k ?_
        by_cases hkd : k ∈ K d
        · refine .inr ?_
          cases hb : B d with
          | false => rfl
          | true =>
            exfalso
            have := (hw d ops[d] (by simp [hd]) hkd hb).2 (by omega)
            simp [hd] at this
        · exact .inl hkd
    rw [step m (Nat.le_refl _), hs0]
  · exact ⟨hat.sim.draws _, hat.env, hat.size, hat.defers, hat.ext, hat.fr.trans ⟨rfl, rfl, rfl, Nat.le_refl _⟩⟩
  · have := List.countP_le_length (p := fun j => !(Array.replicate ops.size false).getD j true) (l := List.range ops.size)
    simpa using this
end Go.Proofs.Ytpdpmcllpafjbaa

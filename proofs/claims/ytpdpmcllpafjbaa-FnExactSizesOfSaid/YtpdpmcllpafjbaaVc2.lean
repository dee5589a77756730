/- Words of this seat's proofs: the walk itself, and its soundness. No program is named here. -/
import Derived.Test.YtpdpmcllpafjbaaVc
namespace Go.Proofs.Ytpdpmcllpafjbaa
open Go.RowKit
set_option linter.unusedVariables false
set_option linter.unusedSimpArgs false

inductive It where
  | c (x : Code)
  | blk (id : Nat)
  | ops (all : Array Oper) (l : List Oper)
  | back (J : En → Hp → Prop)

def unw (id : Nat) : List It → Option (List It)
  | [] => none
  | .blk i :: r => if id = i then some r else unw id r
  | .c _ :: r => unw id r
  | .ops _ _ :: r => unw id r
  | .back _ :: r => unw id r

def dstOk (N : Nat) : Option Nat → Bool
  | none => true
  | some d => decide (d < N)
def aput (ta : En) : Option Nat → AV → En
  | none, _ => ta
  | some d, v => upd ta d v
def keyOf (n : Nat) : Option Nat → Nat
  | none => n
  | some d => n + d
def ayield (all : Array Oper) (ta : En) (j : Nat) : Option (Option Bool) :=
  match (all[j]?).bind (·.dst) with
  | none => some none
  | some t => match ta t with
    | .b x => some (some x)
    | .un => some none
    | _ => none

structure ExtN (n : Nat) (M : Mem) (ρ : Nat → Nat × Nat) (H : Hp) (M' : Mem) (ρ' : Nat → Nat × Nat) (H' : Hp) : Prop where
  mem : MemLe M M'
  key : ∀ b, b < n → ∀ blk, H b = some blk → ∃ blk', H' b = some blk' ∧ blk.ver ≤ blk'.ver ∧ (blk.ver = blk'.ver → ρ' b = ρ b)
theorem ExtN.refl (n : Nat) (M : Mem) (ρ : Nat → Nat × Nat) (H : Hp) : ExtN n M ρ H M ρ H := ⟨.refl M, fun b _ blk h => ⟨blk, h, Nat.le_refl _, fun _ => rfl⟩⟩
theorem ExtN.trans {n : Nat} {M M1 M2 : Mem} {ρ ρ1 ρ2 : Nat → Nat × Nat} {H H1 H2 : Hp} (h : ExtN n M ρ H M1 ρ1 H1) (k : ExtN n M1 ρ1 H1 M2 ρ2 H2) : ExtN n M ρ H M2 ρ2 H2 :=
  ⟨h.mem.trans k.mem, fun b hn blk hb => by
    obtain ⟨b1, h1, h2, h3⟩ := h.key b hn blk hb
    obtain ⟨b2, k1, k2, k3⟩ := k.key b hn b1 h1
    exact ⟨b2, k1, by omega, fun e => by rw [k3 (by omega), h3 (by omega)]⟩⟩
theorem Ext.toN {n : Nat} {M M' : Mem} {ρ ρ' : Nat → Nat × Nat} {H H' : Hp} (h : Ext M ρ H M' ρ' H') : ExtN n M ρ H M' ρ' H' := ⟨h.mem, fun b _ blk hb => h.key b blk hb⟩

/-- A call, over abstract values. -/
structure ACalls (P : Program) (g : FuncId) (args : List AV) (H : Hp) (R : AV → Hp → Prop) : Prop where
  fn : ∃ fn c, P.funcs[g]? = some fn ∧ (fn.name == "runtime.NumGoroutine") = false ∧ fn.body = some c
  run : ∀ (M : Mem) (ρ : Nat → Nat × Nat) (w : World) (vs : List Value), Sim M ρ H w → args.length = vs.length → (∀ (j : Nat) (h1 : j < args.length) (h2 : j < vs.length), V M ρ H args[j] vs[j]) →
    Calls P g vs.toArray w fun e w' => ∃ v av M' ρ' H', e = .returned v ∧ R av H' ∧ Sim M' ρ' H' w' ∧ V M' ρ' H' av v ∧ Ext M ρ H M' ρ' H' ∧ Fr w w'

theorem ACalls.mono {P : Program} {g : FuncId} {args : List AV} {H : Hp} {R R' : AV → Hp → Prop} (h : ACalls P g args H R) (k : ∀ r H', R r H' → R' r H') : ACalls P g args H R' :=
  ⟨h.1, fun M ρ w vs hs hl hv => (h.2 M ρ w vs hs hl hv).mono fun e w' ⟨v, av, M', ρ', H', h1, h2, h3⟩ => ⟨v, av, M', ρ', H', h1, k _ _ h2, h3⟩⟩

/-- Another view of the same state. -/
def Shift (n : Nat) (ta : En) (H : Hp) (ta' : En) (H' : Hp) : Prop :=
  ∀ (M : Mem) (ρ : Nat → Nat × Nat) (w : World) (tm : Nat → Value), Sim M ρ H w → (∀ t, V M ρ H (ta t) (tm t)) → ∃ M' ρ', Sim M' ρ' H' w ∧ (∀ t, V M' ρ' H' (ta' t) (tm t)) ∧ ExtN n M ρ H M' ρ' H'

/-- A state of the run that an abstract state stands for; M0, ρ0, H0, w0 is where the call began. -/
structure At (N n : Nat) (M0 : Mem) (ρ0 : Nat → Nat × Nat) (H0 : Hp) (w0 : World) (ta : En) (H : Hp) (M : Mem) (ρ : Nat → Nat × Nat) (a : Act) (w : World) : Prop where
  sim : Sim M ρ H w
  env : ∀ t, V M ρ H (ta t) (a.tmps.getD t undef)
  size : a.tmps.size = N
  defers : a.defers = []
  ext : ExtN n M0 ρ0 H0 M ρ H
  fr : Fr w0 w

/-- A region whose operations come in an open order. -/
def RegOk (P : Program) (N n : Nat) (ops : Array Oper) (ta : En) (H : Hp) (R : En → Hp → Prop) : Prop :=
  ∀ (id : Nat) (M0 : Mem) (ρ0 : Nat → Nat × Nat) (H0 : Hp) (w0 : World) (M : Mem) (ρ : Nat → Nat × Nat) (a : Act) (w : World) (Q : Exit → Act → World → Prop), At N n M0 ρ0 H0 w0 ta H M ρ a w →
    (∀ ta' H' M' ρ' a' w', R ta' H' → At N n M0 ρ0 H0 w0 ta' H' M' ρ' a' w' → Q .normal a' w') → (Code.region id ops true).wp P Q a w

inductive VC (P : Program) (N n : Nat) (F : En → Hp → Prop) : List It → En → Hp → Prop where
  | nil {ta H} (h : F ta H) : VC P N n F [] ta H
  | ret {r ta H} (h : F ta H) : VC P N n F (.c .ret :: r) ta H
  | skip {r ta H} (h : VC P N n F r ta H) : VC P N n F (.c .skip :: r) ta H
  | seq {a b r ta H} (h : VC P N n F (.c a :: .c b :: r) ta H) : VC P N n F (.c (.seq a b) :: r) ta H
  | cond {c x y r ta H} {t : Bool} (hc : aev ta c = .b t) (hx : t = true → VC P N n F (.c x :: r) ta H) (hy : t = false → VC P N n F (.c y :: r) ta H) : VC P N n F (.c (.cond c x y) :: r) ta H
  | block {id c r ta H} (h : VC P N n F (.c c :: .blk id :: r) ta H) : VC P N n F (.c (.block id c) :: r) ta H
  | scope {c r ta H} (h : VC P N n F (.c c :: r) ta H) : VC P N n F (.c (.scope c) :: r) ta H
  | blk {id r ta H} (h : VC P N n F r ta H) : VC P N n F (.blk id :: r) ta H
  | exit {id r r' ta H} (hu : unw id r = some r') (h : VC P N n F r' ta H) : VC P N n F (.c (.exit id) :: r) ta H
  | loop {body r ta H} (J : En → Hp → Prop) (μ : En → Hp → Nat) (h0 : J ta H) (hr : ∀ ta H, J ta H → VC P N n F (.c body :: .back (fun ta' H' => J ta' H' ∧ μ ta' H' < μ ta H) :: r) ta H) : VC P N n F (.c (.loop body) :: r) ta H
  | back {J r ta H} (h : J ta H) : VC P N n F (.back J :: r) ta H
  | cut {c r ta H} (J : En → Hp → Prop) (h : VC P N n F (.c c :: .back J :: r) ta H) (k : ∀ ta' H', J ta' H' → VC P N n F r ta' H') : VC P N n F (.c c :: r) ta H
  | region {id ops r ta H} (h : VC P N n F (.ops ops ops.toList :: r) ta H) : VC P N n F (.c (.region id ops false) :: r) ta H
  | drawn {id ops r ta H} (R : En → Hp → Prop) (h : RegOk P N n ops ta H R) (k : ∀ ta' H', R ta' H' → VC P N n F r ta' H') : VC P N n F (.c (.region id ops true) :: r) ta H
  | opsNil {all r ta H} (h : VC P N n F r ta H) : VC P N n F (.ops all [] :: r) ta H
  | op {all o os r ta H av H'} (hg : o.guard = none) (hd : dstOk N o.dst = true) (ho : aop P (aev ta) H (keyOf n o.dst) o.op = some (av, H')) (h : VC P N n F (.ops all os :: r) (aput ta o.dst av) H') :
      VC P N n F (.ops all (o :: os) :: r) ta H
  | call {all o os r ta H f args ts g caps} (R : AV → Hp → Prop) (hg : o.guard = none) (hd : dstOk N o.dst = true) (ho : o.op = .call { callee := .value f, args := args, argTypes := ts }) (hf : aev ta f = .fn (.func g) caps)
      (hc : ACalls P g (args.toList.map (aev ta) ++ caps) H R) (h : ∀ x H', R x H' → VC P N n F (.ops all os :: r) (aput ta o.dst x) H') : VC P N n F (.ops all (o :: os) :: r) ta H
  | guard {all os r ta H dst op ty pos after j want y} (hy : ayield all ta j = some y) (hd : dstOk N dst = true)
      (h1 : y = some want → VC P N n F (.ops all (⟨dst, op, ty, pos, after, none⟩ :: os) :: r) ta H) (h2 : y ≠ some want → VC P N n F (.ops all os :: r) (aput ta dst .un) H) :
      VC P N n F (.ops all (⟨dst, op, ty, pos, after, some (j, want)⟩ :: os) :: r) ta H
  | shift {items ta H ta' H'} (hs : Shift n ta H ta' H') (h : VC P N n F items ta' H') : VC P N n F items ta H

/-- What stands behind: the items that are left, met with an exit. -/
def Aft (P : Program) (Q : Exit → Act → World → Prop) (BK : (En → Hp → Prop) → Act → World → Prop) : List It → Exit → Act → World → Prop
  | [], e, a, w => match e with
    | .normal => Q .normal a w
    | .ret => Q .ret a w
    | _ => False
  | it :: r, e, a, w => match e with
    | .normal => match it with
      | .c x => x.wp P (Aft P Q BK r) a w
      | .blk _ => Aft P Q BK r .normal a w
      | .ops all l => wpList P all (Aft P Q BK r) l a w
      | .back J => BK J a w
    | .ret => Q .ret a w
    | .exit id => match it with
      | .blk i => if id = i then Aft P Q BK r .normal a w else Aft P Q BK r (.exit id) a w
      | _ => Aft P Q BK r (.exit id) a w
    | _ => False

section
variable {P : Program} {Q : Exit → Act → World → Prop} {BK : (En → Hp → Prop) → Act → World → Prop}

theorem Aft_ret (r : List It) (a : Act) (w : World) : Aft P Q BK r .ret a w = Q .ret a w := by cases r <;> rfl
theorem Aft_panic (r : List It) (ch : List PanicEntry) (a : Act) (w : World) : Aft P Q BK r (.panic ch) a w = False := by cases r <;> rfl
theorem Aft_goto (r : List It) (l : Nat) (a : Act) (w : World) : Aft P Q BK r (.goto l) a w = False := by cases r <;> rfl
theorem Aft_out (r : List It) (a : Act) (w : World) : Aft P Q BK r .outgrown a w = False := by cases r <;> rfl

theorem Aft_exit {id : Nat} : ∀ {r r' : List It} {a : Act} {w : World}, unw id r = some r' → Aft P Q BK r' .normal a w → Aft P Q BK r (.exit id) a w := by
  intro r
  induction r with
  | nil => intro r' a w h; cases h
  | cons it r ih =>
    intro r' a w h hk
    cases it with
    | blk i =>
      simp only [unw] at h
      show (if id = i then Aft P Q BK r .normal a w else Aft P Q BK r (.exit id) a w)
      split
      · rename_i e; rw [if_pos e] at h; cases h; exact hk
      · rename_i e; rw [if_neg e] at h; exact ih h hk
    | c x => exact ih h hk
    | ops all l => exact ih h hk
    | back J => exact ih h hk

/-- To go from what stands behind two items to what stands behind one. -/
theorem Aft_pass {it : It} {r : List It} {e : Exit} {a : Act} {w : World} (hb : ∀ i, it ≠ .blk i) (he : e ≠ .normal) (h : Aft P Q BK (it :: r) e a w) : Aft P Q BK r e a w := by
  cases e with
  | normal => exact absurd rfl he
  | ret => rw [Aft_ret] at h ⊢; exact h
  | exit id =>
    cases it with
    | blk i => exact absurd rfl (hb i)
    | c x => exact h
    | ops all l => exact h
    | back J => exact h
  | goto l => rw [Aft_goto] at h; exact h.elim
  | panic ch => rw [Aft_panic] at h; exact h.elim
  | outgrown => rw [Aft_out] at h; exact h.elim

/-- In front of a round. -/
def LoopW (P : Program) (c : Code) (Q : Exit → Act → World → Prop) (a : Act) (w : World) : Prop :=
  ∀ (b : Frame) (k : List Item) (cs : List Frame), ∃ e a' w', Q e a' w' ∧ Arrives P (lone (b.at a (.code c :: .inLoop c :: k)) cs w) b k cs e a' w'
theorem LoopW.wp {c : Code} {a : Act} {w : World} (h : LoopW P c Q a w) : (Code.loop c).wp P Q a w := fun b k cs => by
  obtain ⟨e, a', w', hq, harr⟩ := h b k cs
  exact ⟨e, a', w', hq, .of_steps (.one step_loop) harr⟩
theorem LoopW.round {c : Code} {a : Act} {w : World} (h : c.wp P (Exit.then (LoopW P c Q) Q) a w) : LoopW P c Q a w := fun b k cs => by
  obtain ⟨e, a₁, w₁, hq, harr⟩ := h b (.inLoop c :: k) cs
  cases e with
  | normal =>
    obtain ⟨e₂, a₂, w₂, hq₂, harr₂⟩ := hq b k cs
    exact ⟨e₂, a₂, w₂, hq₂, .of_steps (Steps.trans harr (.one step_inLoop)) harr₂⟩
  | exit id => exact ⟨_, a₁, w₁, hq, .pass (x := .inLoop c) rfl (fun _ _ => .inl (by simp)) harr⟩
  | goto l => exact ⟨_, a₁, w₁, hq, .pass (x := .inLoop c) rfl (fun _ _ => .inl (by simp)) harr⟩
  | ret => exact ⟨_, a₁, w₁, hq, .pass (x := .inLoop c) rfl (fun _ _ => .inl (by simp)) harr⟩
  | panic ch => exact ⟨_, a₁, w₁, hq, .pass (x := .inLoop c) rfl (fun _ _ => .inl (by simp)) harr⟩
  | outgrown => exact ⟨_, a₁, w₁, hq, .pass (x := .inLoop c) rfl (fun _ _ => .inl (by simp)) harr⟩
end

section
variable {N n : Nat} {M0 : Mem} {ρ0 : Nat → Nat × Nat} {H0 : Hp} {w0 : World} {ta : En} {H : Hp} {M : Mem} {ρ : Nat → Nat × Nat} {a : Act} {w : World}

theorem At.put (h : At N n M0 ρ0 H0 w0 ta H M ρ a w) {M' : Mem} {ρ' : Nat → Nat × Nat} {H' : Hp} {w' : World} {dst : Option Nat} {av : AV} {v : Value} (hd : dstOk N dst = true) (hs : Sim M' ρ' H' w') (hv : V M' ρ' H' av v)
    (hx : Ext M ρ H M' ρ' H') (hf : Fr w w') : At N n M0 ρ0 H0 w0 (aput ta dst av) H' M' ρ' (a.put dst v) w' := by
  refine ⟨hs, fun t => ?_, ?_, ?_, h.ext.trans hx.toN, h.fr.trans hf⟩
  · cases dst with
    | none => exact (h.env t).ext hx
    | some d =>
      have hd' : d < N := by simpa [dstOk] using hd
      simp only [aput, Act.put]
      by_cases e : t = d
      · subst e
        rw [upd_same]
        have : (a.tmps.setIfInBounds t v).getD t undef = v := by simp [h.size, hd']
        rw [this]; exact hv
      · rw [upd_ne _ _ e]
        have : (a.tmps.setIfInBounds d v).getD t undef = a.tmps.getD t undef := by simp [Array.getElem?_setIfInBounds_ne (Ne.symm e)]
        rw [this]; exact (h.env t).ext hx
  · cases dst <;> simp [Act.put, h.size]
  · cases dst <;> simp [Act.put, h.defers]
end

/-- Soundness: what the walk shows, the run does. -/
theorem VC.sound {P : Program} {N n : Nat} {F : En → Hp → Prop} {items : List It} {ta : En} {H : Hp} (h : VC P N n F items ta H) {M0 : Mem} {ρ0 : Nat → Nat × Nat} {H0 : Hp} {w0 : World} :
    ∀ (M : Mem) (ρ : Nat → Nat × Nat) (a : Act) (w : World), At N n M0 ρ0 H0 w0 ta H M ρ a w →
      Aft P (fun _ a w => ∃ ta H M ρ, F ta H ∧ At N n M0 ρ0 H0 w0 ta H M ρ a w) (fun J a w => ∃ ta H M ρ, J ta H ∧ At N n M0 ρ0 H0 w0 ta H M ρ a w) items .normal a w := by
  induction h with
  | nil h => intro M ρ a w hat; exact ⟨_, _, M, ρ, h, hat⟩
  | ret h => intro M ρ a w hat; refine wp_ret ?_; rw [Aft_ret]; exact ⟨_, _, M, ρ, h, hat⟩
  | skip h ih => intro M ρ a w hat; exact wp_skip (ih M ρ a w hat)
  | seq h ih =>
    intro M ρ a w hat
    refine wp_seq (wp_mono (ih M ρ a w hat) fun e a' w' he => ?_)
    cases e with
    | normal => exact he
    | _ => exact Aft_pass (fun i => by simp) (by simp) he
  | @cond c x y r ta H t hc hx hy ihx ihy =>
    intro M ρ a w hat
    have hv : a.eval c = .bool t := (hc ▸ aev_V hat.env c : V M ρ H (.b t) (a.eval c)).inv_b
    exact wp_cond_split hv (fun e => ihx e M ρ a w hat) (fun e => ihy e M ρ a w hat)
  | @block id c r ta H h ih =>
    intro M ρ a w hat
    refine wp_block (wp_mono (ih M ρ a w hat) fun e a' w' he => ?_)
    cases e with
    | normal => exact he
    | exit id' => exact he
    | ret => rw [Aft_ret] at he; show Aft _ _ _ _ _ _ _; rw [Aft_ret]; exact he
    | goto l => rw [Aft_goto] at he; exact he.elim
    | panic ch => rw [Aft_panic] at he; exact he.elim
    | outgrown => rw [Aft_out] at he; exact he.elim
  | @scope c r ta H h ih =>
    intro M ρ a w hat
    refine wp_scope_straight (wp_mono (ih M ρ a w hat) fun e a' w' he => ?_)
    cases e with
    | goto l => rw [Aft_goto] at he; exact he.elim
    | _ => exact he
  | blk h ih => intro M ρ a w hat; exact ih M ρ a w hat
  | exit hu h ih => intro M ρ a w hat; exact wp_exit (Aft_exit hu (ih M ρ a w hat))
  | @loop body r ta H J μ h0 hr ih =>
    intro M ρ a w hat
    have key : ∀ m ta H, μ ta H = m → J ta H → ∀ M ρ a w, At N n M0 ρ0 H0 w0 ta H M ρ a w →
        LoopW P body (Aft P (fun _ a w => ∃ ta H M ρ, F ta H ∧ At N n M0 ρ0 H0 w0 ta H M ρ a w) (fun J a w => ∃ ta H M ρ, J ta H ∧ At N n M0 ρ0 H0 w0 ta H M ρ a w) r) a w := by
      intro m
      induction m using Nat.strongRecOn with
      | _ m ihm =>
        intro ta H hm hJ M ρ a w hat
        refine LoopW.round (wp_mono (ih ta H hJ M ρ a w hat) fun e a' w' he => ?_)
        cases e with
        | normal =>
          obtain ⟨ta', H', M', ρ', ⟨hJ', hlt⟩, hat'⟩ := he
          exact ihm _ (hm ▸ hlt) ta' H' rfl hJ' M' ρ' a' w' hat'
        | _ => exact Aft_pass (fun i => by simp) (by simp) he
    exact (key _ ta H rfl h0 M ρ a w hat).wp
  | back h => intro M ρ a w hat; exact ⟨_, _, M, ρ, h, hat⟩
  | @cut c r ta H J h k ih ihk =>
    intro M ρ a w hat
    refine wp_mono (ih M ρ a w hat) fun e a' w' he => ?_
    cases e with
    | normal =>
      obtain ⟨ta', H', M', ρ', hJ, hat'⟩ := he
      exact ihk ta' H' hJ M' ρ' a' w' hat'
    | _ => exact Aft_pass (fun i => by simp) (by simp) he
  | region h ih => intro M ρ a w hat; exact wp_region_list (ih M ρ a w hat)
  | drawn R h k ih => intro M ρ a w hat; exact h _ M0 ρ0 H0 w0 M ρ a w _ hat fun ta' H' M' ρ' a' w' hR hat' => ih ta' H' hR M' ρ' a' w' hat'
  | opsNil h ih => intro M ρ a w hat; exact ih M ρ a w hat
  | @op all o os r ta H av H' hg hd ho h ih =>
    intro M ρ a w hat
    show wpList P all _ (o :: os) a w
    unfold wpList
    rw [if_pos (by simp [Region.wanted, hg])]
    refine .inl ?_
    obtain ⟨v, w', ρ', hr, hs, hv, hx, hf⟩ := aop_run (env := a.eval) (f := aev ta) (o := o) (fun x => aev_V hat.env x) hat.sim ho
    have hat' := hat.put hd hs hv hx hf
    rcases hr with hr | ⟨hr, rfl⟩
    · show Oper.upon P o a _ _ ((execOp a.eval o).run P w); rw [hr]; exact ih M ρ' _ w' hat'
    · show Oper.upon P o a _ _ ((execOp a.eval o).run P w); rw [hr]; exact ih M ρ' _ w' hat'
  | @call all o os r ta H f args ts g caps R hg hd ho hf hc h ih =>
    intro M ρ a w hat
    show wpList P all _ (o :: os) a w
    unfold wpList
    rw [if_pos (by simp [Region.wanted, hg])]
    refine .inl ?_
    obtain ⟨⟨fn, c, hfn, hname, hbody⟩, hcall⟩ := hc
    obtain ⟨vs, hvf, hvl, hvv⟩ := (hf ▸ aev_V hat.env f : V M ρ H (.fn (.func g) caps) (a.eval f)).inv_fn
    have hrun : (execOp a.eval o).run P w = .ok (.enter g ((args.toList.map a.eval) ++ vs).toArray) w := by
      have h1 : fn.name ≠ "runtime.NumGoroutine" := by simpa using hname
      have e1 : args.map a.eval ++ vs.toArray = ((args.toList.map a.eval) ++ vs).toArray := by
        apply Array.toList_inj.1; simp
      simp [execOp, ho, resolve, hvf, Deferred.ofValue, invoke, callFunc, hfn, h1, hbody, e1]
    show Oper.upon P o a _ _ ((execOp a.eval o).run P w)
    rw [hrun]
    refine (hcall M ρ w _ hat.sim (by simp [hvl]) fun j h1 h2 => ?_).mono ?_
    · simp only [List.getElem_append, List.length_map]
      split
      · simp only [List.getElem_map]; exact aev_V hat.env _
      · exact hvv _ _ _
    · rintro e w' ⟨v, av, M', ρ', H', rfl, hR, hs, hv, hx, hf'⟩
      exact ih av H' hR M' ρ' _ w' (hat.put hd hs hv hx hf')
  | @guard all os r ta H dst op ty pos after j want y hy hd h1 h2 ih1 ih2 =>
    intro M ρ a w hat
    have hyv : yielded all a.tmps j = y := by
      unfold ayield at hy
      unfold yielded
      split at hy
      · rename_i hb; cases hy; simp [hb]
      · rename_i t hb
        have hv := hat.env t
        split at hy
        · rename_i x hx
          cases hy
          rw [hx] at hv
          have := hv.inv_b
          have h3 : a.tmps[t]? = some (.bool x) := by
            cases ht : a.tmps[t]? with
            | none => simp [ht] at this; cases this
            | some u => simp [ht] at this; rw [this]
          simp [hb, h3]
        · rename_i hx
          cases hy
          rw [hx] at hv
          have := hv.inv_un
          cases ht : a.tmps[t]? with
          | none => simp [hb, ht]
          | some u => simp [ht] at this; subst this; simp [hb, ht, undef]
        · cases hy
    show wpList P all _ (_ :: os) a w
    unfold wpList
    by_cases hw : y = some want
    · rw [if_pos (by simp [Region.wanted, hyv, hw])]
      have := ih1 hw M ρ a w hat
      have h3 : wpList P all _ (⟨dst, op, ty, pos, after, none⟩ :: os) a w := this
      unfold wpList at h3
      rw [if_pos (by simp [Region.wanted])] at h3
      exact h3
    · rw [if_neg (by simp [Region.wanted, hyv]; exact hw)]
      exact ih2 hw M ρ _ w (hat.put (dst := dst) hd hat.sim (.t .un) (.refl _ _ _) (.refl _))
  | shift hs h ih =>
    intro M ρ a w hat
    obtain ⟨M', ρ', k1, k2, k3⟩ := hs M ρ w _ hat.sim hat.env
    exact ih M' ρ' a w ⟨k1, k2, hat.size, hat.defers, hat.ext.trans k3, hat.fr⟩
end Go.Proofs.Ytpdpmcllpafjbaa

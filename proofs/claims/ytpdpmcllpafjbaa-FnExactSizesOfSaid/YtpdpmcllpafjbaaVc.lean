/- Words of this seat's proofs: a walk of a function's code over abstract values, and that the model's run does the same. No program is named here. -/
import Derived.Test.YtpdpmcllpafjbaaAop4
import Derived.Scope
namespace Go.Proofs.Ytpdpmcllpafjbaa
open Go.RowKit
set_option linter.unusedVariables false
set_option linter.unusedSimpArgs false

def anil (H : Hp) (x : AV) : Option AV :=
  match x with
  | .p b ver off => if cur H b ver then some x else none
  | .pi cells => some x
  | .fn (.func g) caps => some x
  | _ => none

/-- One operation that is no call of a Go function. -/
def aop (P : Program) (f : Operand → AV) (H : Hp) (key : Nat) (o : Op) : Option (AV × Hp) :=
  match o with
  | .move x => some (f x, H)
  | .assign x => some (f x, H)
  | .pick c a b => match f c with
    | .b x => some (if x = true then f a else f b, H)
    | _ => none
  | .alloc t => match tinfo P t with
    | some (z, _, _) => if (absV z).solid = true then some (.p key (nv H key) 0, upd H key (some ⟨nv H key, t, 0, (absV z).cells⟩)) else none
    | none => none
  | .box t x => if (f x).solid = true then some (.p key (nv H key) 0, upd H key (some ⟨nv H key, t, 0, (f x).cells⟩)) else none
  | .build t ps => (abuild P t (ps.toList.map fun p => (p.1, f p.2))).map fun v => (v, H)
  | .buildSlice t n ps => abuildSlice P H key t n (ps.toList.map fun p => (p.1, f p.2))
  | .load t a => (aload P H t (f a)).map fun v => (v, H)
  | .store t a x => (astore P H t (f a) (f x)).map fun h => (.un, h)
  | .nilCheck x => (anil H (f x)).map fun v => (v, H)
  | .binOp op t x y _ => (abin P op t (f x) (f y)).map fun v => (v, H)
  | .unOp op _ x => (aun op (f x)).map fun v => (v, H)
  | .convert s d x => (aconv P H s d (f x)).map fun v => (v, H)
  | .makeFunc fn first caps => if first.size = 0 then some (.fn fn (caps.toList.map f), H) else none
  | .makeSlice t l c => amake P H key t (f l) (f c)
  | .slice t x lo hi mx => match mx with
    | none => (aslice P H t (f x) (lo.map f) (hi.map f)).map fun v => (v, H)
    | some _ => none
  | .fieldAddr t x i => (afieldAddr P H t i (f x)).map fun v => (v, H)
  | .field t x i => (afield P t i (f x)).map fun v => (v, H)
  | .indexAddr t x i => (aindexAddr P H t (f x) (f i)).map fun v => (v, H)
  | .index t x i => (aindex P t (f x) (f i)).map fun v => (v, H)
  | .extract x i => (aextract (f x) i).map fun v => (v, H)
  | .call c => match c.callee, c.args.toList, c.argTypes.toList with
    | .builtin .len, [x], [t] => (alen P H t (f x)).map fun v => (v, H)
    | .builtin .append, [x, y], [t, u] => if t = u then aappend P H key t (f x) (f y) else none
    | .builtin .max, [x, y], _ => match f x, f y with
      | .i k a, .i _ b => some (.i k (if a < b then b else a), H)
      | _, _ => none
    | .builtin .min, [x, y], _ => match f x, f y with
      | .i k a, .i _ b => some (.i k (if b < a then b else a), H)
      | _, _ => none
    | _, _, _ => none
  | _ => none

section
variable {P : Program} {M : Mem} {ρ : Nat → Nat × Nat} {H : Hp} {w : World}

theorem lift_good {av : AV} {H' : Hp} {o : Option AV} {s : Sem Value} (h : o.map (fun v => (v, H)) = some (av, H')) (k : ∀ v, o = some v → GoodV M ρ H w v H (s.run P w)) : Good M ρ H w av H' ((do pure (Next.value (← s)) : Sem Next).run P w) := by
  cases o with
  | none => cases h
  | some v => cases h; exact (k _ rfl).next

theorem aop_run {o : Oper} {key : Nat} {env : Operand → Value} {f : Operand → AV} (hf : ∀ x, V M ρ H (f x) (env x)) {av : AV} {H' : Hp} (hs : Sim M ρ H w) (h : aop P f H key o.op = some (av, H')) :
    Good M ρ H w av H' ((execOp env o).run P w) := by
  obtain ⟨dst, op, type, pos, after, guard⟩ := o
  simp only at h
  have mv : ∀ x, some (f x, H) = some (av, H') → Good M ρ H w av H' ((pure (Next.value (env x)) : Sem Next).run P w) := fun x hx => by
    cases hx; exact ⟨env x, w, ρ, .inl rfl, hs, hf x, .refl _ _ _, .refl _⟩
  cases op with
  | move x => exact mv x h
  | assign x => exact mv x h
  | pick c a b =>
    have hc := hf c
    simp only [aop] at h
    split at h
    · rename_i x hx
      rw [hx] at hc
      have hc' := hc.inv_b
      cases h
      refine ⟨if x = true then env a else env b, w, ρ, .inl ?_, hs, ?_, .refl _ _ _, .refl _⟩
      · simp [execOp, hc', asBool]
      · split
        · exact hf a
        · exact hf b
    · cases h
  | alloc t =>
    simp only [aop] at h
    split at h
    · rename_i z n b hi
      obtain ⟨i, hi1, hi2, -, -⟩ := tinfo_some hi
      split at h
      · rename_i hso
        cases h
        have hc := (V.t (ρ := ρ) (H := H) (absV_T M z)).cellsOf hso
        exact (alloc_good (cap := 0) (sz := 0) hs hc.2 (by simp [Instr.alloc, zeroValue, typeInfo, hi1, hi2, newVar, newRow]) (.inl rfl) (Nat.zero_le _) (.inl ⟨rfl, rfl⟩) : GoodV M ρ H w _ _ ((Instr.alloc t true (.tuple #[])).run P w)).next
      · cases h
    · cases h
  | box t x =>
    simp only [aop] at h
    split at h
    · rename_i hso
      cases h
      have hc := (hf x).cellsOf hso
      exact (alloc_good (cap := 0) (sz := 0) hs hc.2 (by simp [Instr.box, newVar, newRow]) (.inl rfl) (Nat.zero_le _) (.inl ⟨rfl, rfl⟩) : GoodV M ρ H w _ _ ((Instr.box t (env x)).run P w)).next
    · cases h
  | build t ps => exact lift_good h fun v hv => abuild_run hf hs hv
  | buildSlice t n ps => exact (abuildSlice_run hf hs h).next
  | load t a => exact lift_good h fun v hv => aload_run hs hv (hf a)
  | store t a x =>
    simp only [aop] at h
    cases ha : astore P H t (f a) (f x) with
    | none => rw [ha] at h; cases h
    | some h' =>
      rw [ha] at h
      cases h
      obtain ⟨w', h1, h2, h3, h4⟩ := astore_run hs ha (hf a) (hf x)
      exact ⟨undef, w', ρ, .inr ⟨by simp [execOp, h1], rfl⟩, h2, .t .un, h3, h4⟩
  | nilCheck x =>
    simp only [aop] at h
    have hx := hf x
    cases ha : anil H (f x) with
    | none => rw [ha] at h; cases h
    | some v =>
      rw [ha] at h
      cases h
      have key : ∀ u, env x = u → V M ρ H av u → (execOp env { dst, op := .nilCheck x, type, pos, after, guard }).run P w = .ok (.value u) w → Good M ρ H w av H ((execOp env { dst, op := .nilCheck x, type, pos, after, guard }).run P w) :=
        fun u _ h1 h2 => ⟨u, w, ρ, .inl h2, hs, h1, .refl _ _ _, .refl _⟩
      unfold anil at ha
      split at ha
      · rename_i b ver off hfx
        split at ha
        · rename_i hc
          cases ha
          obtain ⟨blk, hb, he⟩ := cur_of hc
          rw [hfx] at hx
          have hv := hx.inv_p hb he
          exact key _ hv (by rw [hfx]; exact hv ▸ hx) (by simp [execOp, hv])
        · cases ha
      · rename_i cells hfx
        cases ha
        rw [hfx] at hx
        obtain ⟨us, g, o, cs, el, fz, hv, _⟩ := hx.inv_pi
        exact key _ hv (by rw [hfx]; exact hv ▸ hx) (by simp [execOp, hv])
      · rename_i g caps hfx
        cases ha
        rw [hfx] at hx
        obtain ⟨vs, hv, _⟩ := hx.inv_fn
        exact key _ hv (by rw [hfx]; exact hv ▸ hx) (by simp [execOp, hv])
      · cases ha
  | binOp op t x y ty => exact lift_good h fun v hv => abin_run hs hv (hf x) (hf y)
  | unOp op t x => exact lift_good h fun v hv => aun_run hs hv (hf x)
  | convert s d x => exact lift_good h fun v hv => aconv_run hs hv (hf x)
  | makeFunc fn first caps =>
    simp only [aop] at h
    split at h
    · rename_i h0
      cases h
      have e0 : first = #[] := Array.eq_empty_of_size_eq_zero h0
      subst e0
      have hv : V M ρ H (.fn fn (caps.toList.map f)) (.func fn #[] (caps.toList.map env).toArray) := .fn fn (by simp) fun j h1 h2 => by simpa using hf _
      refine ⟨.func fn #[] (caps.toList.map env).toArray, w, ρ, .inl ?_, hs, hv, .refl _ _ _, .refl _⟩
      have : (caps.toList.map env).toArray = caps.map env := by rw [← Array.toList_map]
      rw [this]
      simp [execOp, Instr.makeFunc]
    · cases h
  | makeSlice t l c => exact (amake_run hs h (hf l) (hf c)).next
  | slice t x lo hi mx =>
    cases mx with
    | none => exact lift_good h fun v hv => aslice_run hf lo hi hs hv (hf x)
    | some m => cases h
  | fieldAddr t x i => exact lift_good h fun v hv => afieldAddr_run hs hv (hf x)
  | field t x i => exact lift_good h fun v hv => afield_run hs hv (hf x)
  | indexAddr t x i => exact lift_good h fun v hv => aindexAddr_run hs hv (hf x) (hf i)
  | index t x i => exact lift_good h fun v hv => aindex_run hs hv (hf x) (hf i)
  | extract x i => exact lift_good h fun v hv => aextract_run hs hv (hf x)
  | call c =>
    obtain ⟨callee, args, argTypes⟩ := c
    simp only [aop] at h
    split at h
    · rename_i x t ha ht
      have hargs : args = #[x] := by apply Array.toList_inj.1; simpa using ha
      have hts : argTypes = #[t] := by apply Array.toList_inj.1; simpa using ht
      subst hargs; subst hts
      have := lift_good (s := Builtin.len_ #[t] type #[env x]) h fun v hv => alen_run (P := P) (w := w) (ty := type) (ts := #[t]) rfl hs hv (hf x)
      simpa [execOp, resolve, invoke, builtin] using this
    · rename_i x y t u ha ht
      have hargs : args = #[x, y] := by apply Array.toList_inj.1; simpa using ha
      have hts : argTypes = #[t, u] := by apply Array.toList_inj.1; simpa using ht
      subst hargs; subst hts
      split at h
      · rename_i htu
        subst htu
        have := (aappend_run (ty := type) hs h (hf x) (hf y)).next
        simpa [execOp, resolve, invoke, builtin] using this
      · cases h
    · rename_i x y ha
      have hargs : args = #[x, y] := by apply Array.toList_inj.1; simpa using ha
      subst hargs
      split at h
      · rename_i k a k' b hx hy
        cases h
        have e1 := (hx ▸ hf x : V M ρ H (.i k a) (env x)).inv_i
        have e2 := (hy ▸ hf y : V M ρ H (.i k' b) (env y)).inv_i
        refine ⟨.int k (if a < b then b else a), w, ρ, .inl ?_, hs, .t (.i _ _), .refl _ _ _, .refl _⟩
        simp [execOp, resolve, invoke, builtin, Builtin.max_, Builtin.max2, e1, e2]
      · cases h
    · rename_i x y ha
      have hargs : args = #[x, y] := by apply Array.toList_inj.1; simpa using ha
      subst hargs
      split at h
      · rename_i k a k' b hx hy
        cases h
        have e1 := (hx ▸ hf x : V M ρ H (.i k a) (env x)).inv_i
        have e2 := (hy ▸ hf y : V M ρ H (.i k' b) (env y)).inv_i
        refine ⟨.int k (if b < a then b else a), w, ρ, .inl ?_, hs, .t (.i _ _), .refl _ _ _, .refl _⟩
        simp [execOp, resolve, invoke, builtin, Builtin.min_, Builtin.min2, e1, e2]
      · cases h
    · cases h
  | _ => cases h
end
end Go.Proofs.Ytpdpmcllpafjbaa

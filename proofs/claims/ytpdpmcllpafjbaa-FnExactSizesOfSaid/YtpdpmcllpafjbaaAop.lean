/- Words of this seat's proofs: operations on abstract values, and that the model's operations do the same. No program is named here. -/
import Derived.Test.YtpdpmcllpafjbaaAv
import Derived.Lib.Hide
namespace Go.Proofs.Ytpdpmcllpafjbaa
open Go.RowKit
set_option linter.unusedVariables false
set_option linter.unusedSimpArgs false

theorem Sim.put {M : Mem} {ρ : Nat → Nat × Nat} {H : Hp} {w w' : World} (h : Sim M ρ H w) (b g cap : Nat) (blk : Blk) (cs : Array Value)
    (hrow : w'.heap[g]? = some (.cells cs blk.e (0, 0))) (hoth : ∀ k, k < w.heap.size → k ≠ g → (∀ old, H b = some old → k ≠ (ρ b).1) → w'.heap[k]? = w.heap[k]?)
    (hg : M g = none) (hne : ∀ b2 blk2, H b2 = some blk2 → b2 ≠ b → (ρ b2).1 ≠ g)
    (hv : ∀ old, H b = some old → old.ver ≤ blk.ver ∧ (old.ver = blk.ver → ρ b = (g, cap)))
    (hc : Cells M ρ H blk.cells cs) (hs : blk.sz = 0 ∨ cs.size = cap * blk.sz) (hcap : cap ≤ maxLen) :
    Sim M (upd ρ b (g, cap)) (upd H b (some blk)) w' ∧ Ext M ρ H M (upd ρ b (g, cap)) (upd H b (some blk)) := by
  have hx : Ext M ρ H M (upd ρ b (g, cap)) (upd H b (some blk)) := ⟨.refl M, fun b2 bk hb => by
    by_cases e : b2 = b
    · subst e
      have := hv _ hb
      exact ⟨blk, upd_same _ _ _, this.1, fun e => by rw [upd_same]; exact (this.2 e).symm⟩
    · exact ⟨bk, by rw [upd_ne _ _ e]; exact hb, Nat.le_refl _, fun _ => upd_ne _ _ e⟩⟩
  refine ⟨⟨fun g' o hm => ?_, fun b2 bk hb => ?_, fun b1 b2 bk bk' hb hb' he => ?_, fin_upd h.fin _ _⟩, hx⟩
  · rw [hoth _ (h.lt hm) (by rintro rfl; rw [hg] at hm; cases hm) (fun old ho e => by obtain ⟨_, _, h2, _⟩ := h.own b old ho; rw [e] at hm; rw [h2] at hm; cases hm)]; exact h.mem g' o hm
  · by_cases e : b2 = b
    · subst e
      rw [upd_same] at hb
      cases hb
      rw [upd_same]
      exact ⟨cs, hrow, hg, hc.ext hx, hs, hcap⟩
    · rw [upd_ne _ _ e] at hb ⊢
      obtain ⟨c0, h1, h2, h3, h4⟩ := h.own b2 bk hb
      exact ⟨c0, by rw [hoth _ (h.ltOwn hb) (hne _ _ hb e) (fun old ho e2 => e (h.inj _ _ _ _ hb ho e2))]; exact h1, h2, h3.ext hx, h4⟩
  · by_cases e : b1 = b
    · by_cases e' : b2 = b
      · rw [e, e']
      · rw [upd_ne _ _ e'] at hb' he
        rw [e, upd_same] at he
        exact absurd he.symm (hne _ _ hb' e')
    · rw [upd_ne _ _ e] at hb he
      by_cases e' : b2 = b
      · rw [e', upd_same] at he
        exact absurd he (hne _ _ hb e)
      · rw [upd_ne _ _ e'] at hb' he
        exact h.inj b1 b2 bk bk' hb hb' he

theorem Sim.fresh {M : Mem} {ρ : Nat → Nat × Nat} {H : Hp} {w : World} (h : Sim M ρ H w) {g : Nat} (hg : w.heap.size ≤ g) : M g = none ∧ ∀ b2 blk2, H b2 = some blk2 → (ρ b2).1 ≠ g :=
  ⟨by cases hm : M g with
    | none => rfl
    | some o => exact absurd (h.lt hm) (by omega), fun b2 bk hb e => by have := h.ltOwn hb; omega⟩

def nv (H : Hp) (k : Nat) : Nat := match H k with | none => 0 | some b => b.ver + 1
theorem nv_none {H : Hp} {k : Nat} (h : H k = none) : nv H k = 0 := by simp [nv, h]
theorem nv_upd (H : Hp) (j : Nat) (b : Blk) (k : Nat) : nv (upd H j (some b)) k = if k = j then b.ver + 1 else nv H k := by
  unfold nv upd; by_cases h : k = j
  · simp [h]
  · simp only [h, if_false]
theorem nv_lt {H : Hp} {k : Nat} {old : Blk} (h : H k = some old) : old.ver < nv H k := by simp [nv, h]

/-- What a step leaves. -/
def Good (M : Mem) (ρ : Nat → Nat × Nat) (H : Hp) (w : World) (av : AV) (H' : Hp) (r : Result Next) : Prop :=
  ∃ v w' ρ', (r = .ok (.value v) w' ∨ (r = .ok .skip w' ∧ v = undef)) ∧ Sim M ρ' H' w' ∧ V M ρ' H' av v ∧ Ext M ρ H M ρ' H' ∧ Fr w w'
/-- The same for a run that gives a value. -/
def GoodV (M : Mem) (ρ : Nat → Nat × Nat) (H : Hp) (w : World) (av : AV) (H' : Hp) (r : Result Value) : Prop :=
  ∃ v w' ρ', r = .ok v w' ∧ Sim M ρ' H' w' ∧ V M ρ' H' av v ∧ Ext M ρ H M ρ' H' ∧ Fr w w'

section
variable {P : Program} {M : Mem} {ρ : Nat → Nat × Nat} {H : Hp} {w : World}

theorem GoodV.next {av : AV} {H' : Hp} {s : Sem Value} (h : GoodV M ρ H w av H' (s.run P w)) : Good M ρ H w av H' ((do pure (Next.value (← s)) : Sem Next).run P w) := by
  obtain ⟨v, w', ρ', h1, h2⟩ := h
  exact ⟨v, w', ρ', .inl (by simp [h1]), h2⟩
theorem GoodV.same {av : AV} {v : Value} {r : Result Value} (hr : r = .ok v w) (hs : Sim M ρ H w) (hv : V M ρ H av v) : GoodV M ρ H w av H r :=
  ⟨v, w, ρ, hr, hs, hv, .refl _ _ _, .refl _⟩

/- what a value is, by its abstract form -/
theorem V.inv_b {x : Bool} {v : Value} (h : V M ρ H (.b x) v) : v = .bool x := by cases h with | t t => cases t; rfl
theorem V.inv_i {k : IntKind} {n : Int} {v : Value} (h : V M ρ H (.i k n) v) : v = .int k n := by cases h with | t t => cases t; rfl
theorem V.inv_s {x : ByteArray} {v : Value} (h : V M ρ H (.s x) v) : v = .string x := by cases h with | t t => cases t; rfl
theorem V.inv_ns {v : Value} (h : V M ρ H .ns v) : v = .slice none 0 0 := by cases h with | t t => cases t; rfl
theorem V.inv_np {v : Value} (h : V M ρ H .np v) : v = .pointer none := by cases h with | t t => cases t; rfl
theorem V.inv_nf {v : Value} (h : V M ρ H .nf v) : v = .nilFunc := by cases h with | t t => cases t; rfl
theorem V.inv_un {v : Value} (h : V M ρ H .un v) : v = undef := by cases h with | t t => cases t; rfl
theorem V.inv_agg {cells : List AV} {v : Value} (h : V M ρ H (.agg cells) v) : ∃ vs : List Value, v = .agg vs.toArray ∧ cells.length = vs.length ∧ ∀ (j : Nat) (h1 : j < cells.length) (h2 : j < vs.length), V M ρ H cells[j] vs[j] := by
  cases h with
  | t t => cases t with | agg hl hT => exact ⟨_, rfl, hl, fun j h1 h2 => .t (hT j h1 h2)⟩
  | agg hl hT => exact ⟨_, rfl, hl, hT⟩
theorem V.inv_tup {cells : List AV} {v : Value} (h : V M ρ H (.tup cells) v) : ∃ vs : List Value, v = .tuple vs.toArray ∧ cells.length = vs.length ∧ ∀ (j : Nat) (h1 : j < cells.length) (h2 : j < vs.length), V M ρ H cells[j] vs[j] := by
  cases h with
  | t t => cases t with | tup hl hT => exact ⟨_, rfl, hl, fun j h1 h2 => .t (hT j h1 h2)⟩
  | tup hl hT => exact ⟨_, rfl, hl, hT⟩
theorem V.inv_fn {f : Fn} {cells : List AV} {v : Value} (h : V M ρ H (.fn f cells) v) : ∃ vs : List Value, v = .func f #[] vs.toArray ∧ cells.length = vs.length ∧ ∀ (j : Nat) (h1 : j < cells.length) (h2 : j < vs.length), V M ρ H cells[j] vs[j] := by
  cases h with
  | t t => cases t with | fn f hl hT => exact ⟨_, rfl, hl, fun j h1 h2 => .t (hT j h1 h2)⟩
  | fn f hl hT => exact ⟨_, rfl, hl, hT⟩
theorem V.inv_p {b ver off : Nat} {v : Value} {blk : Blk} (h : V M ρ H (.p b ver off) v) (hb : H b = some blk) (hv : ver = blk.ver) : v = .pointer (some ⟨(ρ b).1, off, none⟩) := by
  cases h with
  | t t => cases t
  | p hb' _ _ h => rw [hb] at hb'; cases hb'; exact h hv
theorem V.inv_os {b ver len : Nat} {v : Value} {blk : Blk} (h : V M ρ H (.os b ver len) v) (hb : H b = some blk) (hv : ver = blk.ver) : v = .slice (some ⟨(ρ b).1, 0, none⟩) len (ρ b).2 ∧ len ≤ (ρ b).2 := by
  cases h with
  | t t => cases t
  | os hb' _ _ h => rw [hb] at hb'; cases hb'; exact h hv
theorem V.inv_pi {cells : List AV} {v : Value} (h : V M ρ H (.pi cells) v) : ∃ (us : List Value) (g o : Nat) (cs : Array Value) (el : TypeId) (fz : Nat × Nat), v = .pointer (some ⟨g, o, none⟩) ∧ M g = some (.cells cs el fz) ∧ cells.length = us.length ∧
    (∀ (j : Nat) (h1 : j < cells.length) (h2 : j < us.length), T M cells[j] us[j]) ∧ (∀ (j : Nat) (h : j < us.length), cs[o + j]? = some us[j]) := by
  cases h with | t t => cases t with | pi hm hl hT hc => exact ⟨_, _, _, _, _, _, rfl, hm, hl, hT, hc⟩
theorem V.inv_is {sz : Nat} {es : List (List AV)} {v : Value} (h : V M ρ H (.is sz es) v) : ∃ A cap, v = .slice A es.length cap ∧ es.length ≤ cap ∧ cap ≤ maxLen ∧ (es = [] ∨ ∃ (us : List Value) (g o : Nat) (cs : Array Value) (el : TypeId) (fz : Nat × Nat),
    A = some ⟨g, o, none⟩ ∧ M g = some (.cells cs el fz) ∧ (∀ e ∈ es, e.length = sz) ∧ es.flatten.length = us.length ∧
    (∀ (j : Nat) (h1 : j < es.flatten.length) (h2 : j < us.length), T M es.flatten[j] us[j]) ∧ (∀ (j : Nat) (h : j < us.length), cs[o + j]? = some us[j])) := by
  cases h with
  | t t =>
    cases t with
    | is0 _ A cap hc => exact ⟨A, cap, rfl, by simp, hc, .inl rfl⟩
    | is hm hsz hle hcap hl hT hc => exact ⟨_, _, rfl, hle, hcap, .inr ⟨_, _, _, _, _, _, rfl, hm, hsz, hl, hT, hc⟩⟩

/- types -/
def tinfo (P : Program) (t : TypeId) : Option (Value × Nat × Nat) := (P.info? t).bind fun i => i.zero.map fun z => (z, i.size, i.bytes)
def tagg (P : Program) (t : TypeId) : Option (Bool × Nat) :=
  match P.underlying t, P.info? t with
  | some (.struct _), some i => some (true, i.size)
  | some (.array _ _), some i => some (true, i.size)
  | some _, some i => some (false, i.size)
  | _, _ => none
theorem tinfo_some {t : TypeId} {z : Value} {n m : Nat} (h : tinfo P t = some (z, n, m)) : ∃ i, P.info? t = some i ∧ i.zero = some z ∧ i.size = n ∧ i.bytes = m := by
  unfold tinfo at h
  cases hi : P.info? t with
  | none => simp [hi] at h
  | some i =>
    cases hz : i.zero with
    | none => simp [hi, hz] at h
    | some z' =>
      simp [hi, hz] at h
      exact ⟨i, rfl, by rw [hz, h.1], h.2.1, h.2.2⟩
theorem tagg_run {t : TypeId} {g : Bool} {n : Nat} (h : tagg P t = some (g, n)) (w : World) : (isAgg t).run P w = .ok g w ∧ (sizeOf t).run P w = .ok n w := by
  unfold tagg at h
  cases hi : P.info? t with
  | none => cases hu : P.underlying t with
    | none => simp [hi, hu] at h
    | some d => cases d <;> simp [hi, hu] at h
  | some i =>
    cases hu : P.underlying t with
    | none => simp [hi, hu] at h
    | some d =>
      cases d <;> simp only [hi, hu, Option.some.injEq, Prod.mk.injEq] at h <;> obtain ⟨rfl, rfl⟩ := h <;> exact ⟨by simp [isAgg, run_underlying hu], by simp [sizeOf, typeInfo, hi]⟩

theorem cell_of {w : World} {g o : Nat} {cs : Array Value} {el : TypeId} {fz : Nat × Nat} (h : w.heap[g]? = some (.cells cs el fz)) : w.cell? ⟨g, o, none⟩ = cs[o]? := by simp [World.cell?, h]
theorem add_none (g o j : Nat) : (⟨g, o, none⟩ : Addr).add j = ⟨g, o + j, none⟩ := by unfold Addr.add; split <;> simp_all

/-- Cells that lie one behind the other. -/
def Lies (M : Mem) (ρ : Nat → Nat × Nat) (H : Hp) (w : World) (g o : Nat) (as : List AV) : Prop :=
  ∃ us : List Value, as.length = us.length ∧ (∀ (j : Nat) (h1 : j < as.length) (h2 : j < us.length), V M ρ H as[j] us[j]) ∧ ∀ (j : Nat) (h : j < us.length), w.cell? ⟨g, o + j, none⟩ = some us[j]

def rd (P : Program) (t : TypeId) (cells : List AV) : Option AV :=
  match tagg P t with
  | some (true, n) => if n ≤ cells.length then some (.agg (cells.take n)) else none
  | some (false, _) => cells.head?
  | none => none

theorem rd_run {t : TypeId} {as : List AV} {av : AV} {g o : Nat} (hr : rd P t as = some av) (hl : Lies M ρ H w g o as) :
    ∃ v, (loadVar t ⟨g, o, none⟩).run P w = .ok v w ∧ V M ρ H av v := by
  obtain ⟨us, h1, h2, h3⟩ := hl
  unfold rd at hr
  split at hr
  · rename_i n ht
    obtain ⟨ha, hs⟩ := tagg_run ht w
    split at hr
    · rename_i hn
      cases hr
      refine ⟨.agg (us.take n).toArray, ?_, .agg (by simp [h1]) fun j h4 h5 => ?_⟩
      · have := run_loadCells_list (P := P) w ⟨g, o, none⟩ (us.take n) fun j v hv => by
          rw [add_none]
          rw [List.getElem?_take] at hv
          split at hv
          · obtain ⟨h6, rfl⟩ := List.getElem?_eq_some_iff.1 hv
            exact h3 j h6
          · cases hv
        have hlen : (us.take n).length = n := by rw [List.length_take]; omega
        rw [hlen] at this
        simp [loadVar, ha, hs, this]
      · simp only [List.getElem_take]
        exact h2 j _ _
    · cases hr
  · rename_i n ht
    obtain ⟨ha, hs⟩ := tagg_run ht w
    match as, us, h1 with
    | a :: as, u :: us, h1 =>
      simp at hr
      subst hr
      have h4 := h3 0 (by simp)
      refine ⟨u, ?_, h2 0 (by simp) (by simp)⟩
      simp only [Nat.add_zero, List.getElem_cons_zero] at h4
      simp [loadVar, ha, h4]
  · cases hr

theorem Lies.drop {g o : Nat} {as : List AV} (h : Lies M ρ H w g o as) (n : Nat) : Lies M ρ H w g (o + n) (as.drop n) := by
  obtain ⟨us, h1, h2, h3⟩ := h
  refine ⟨us.drop n, by simp [h1], fun j h4 h5 => ?_, fun j h4 => ?_⟩
  · simp only [List.getElem_drop]; exact h2 _ _ _
  · simp only [List.getElem_drop]; rw [Nat.add_assoc]; exact h3 _ _
theorem Lies.own {b : Nat} {blk : Blk} (h : Sim M ρ H w) (hb : H b = some blk) : Lies M ρ H w (ρ b).1 0 blk.cells := by
  obtain ⟨cs, h1, h2, h3, h4⟩ := h.own b blk hb
  refine ⟨cs.toList.take blk.cells.length, by have := h3.1; simp; omega, fun j h5 h6 => ?_, fun j h5 => ?_⟩
  · simp only [List.getElem_take, Array.getElem_toList]
    exact h3.2 j h5 (by have := h3.1; omega)
  · rw [cell_of h1, Nat.zero_add]
    simp only [List.getElem_take, Array.getElem_toList]
    simp
theorem Lies.imm (h : Sim M ρ H w) {g o : Nat} {cs : Array Value} {el : TypeId} {fz : Nat × Nat} (hm : M g = some (.cells cs el fz)) {as : List AV} {us : List Value} (hl : as.length = us.length)
    (hT : ∀ (j : Nat) (h1 : j < as.length) (h2 : j < us.length), T M as[j] us[j]) (hc : ∀ (j : Nat) (h : j < us.length), cs[o + j]? = some us[j]) : Lies M ρ H w g o as :=
  ⟨us, hl, fun j h1 h2 => .t (hT j h1 h2), fun j h1 => by rw [cell_of (h.mem g _ hm)]; exact hc j h1⟩

def aload (P : Program) (H : Hp) (t : TypeId) : AV → Option AV
  | .p b ver off => match H b with
    | some blk => if ver = blk.ver then rd P t (blk.cells.drop off) else none
    | none => none
  | .pi cells => rd P t cells
  | _ => none

theorem aload_run {t : TypeId} {a av : AV} {v : Value} (hs : Sim M ρ H w) (h : aload P H t a = some av) (hv : V M ρ H a v) : GoodV M ρ H w av H ((Instr.loadAt t v).run P w) := by
  unfold aload at h
  split at h
  · rename_i b ver off
    split at h
    · rename_i blk hb
      split at h
      · rename_i he
        obtain rfl := hv.inv_p hb he
        obtain ⟨u, h1, h2⟩ := rd_run h (by simpa using (Lies.own hs hb).drop off)
        exact .same (by simp [Instr.loadAt, Instr.sureAddr, h1]) hs h2
      · cases h
    · cases h
  · rename_i cells
    obtain ⟨us, g, o, cs, el, fz, rfl, h1, h2, h3, h4⟩ := hv.inv_pi
    obtain ⟨u, h5, h6⟩ := rd_run h (Lies.imm hs h1 h2 h3 h4)
    exact .same (by simp [Instr.loadAt, Instr.sureAddr, h5]) hs h6
  · cases h

def astore (P : Program) (H : Hp) (t : TypeId) (a x : AV) : Option Hp :=
  match a with
  | .p b ver off => match H b with
    | some blk => match tagg P t with
      | some (_, n) => if ver = blk.ver ∧ x.solid = true ∧ x.cells.length = n ∧ x.cells.all AV.one = true ∧ off + n ≤ blk.cells.length then
          some (upd H b (some ⟨blk.ver, blk.e, blk.sz, blk.cells.take off ++ x.cells ++ blk.cells.drop (off + n)⟩)) else none
      | none => none
    | none => none
  | _ => none

theorem setRow_other (w : World) (g : Nat) (cs : Array Value) (k : Nat) (h : k ≠ g) : (w.setRow g cs).heap[k]? = w.heap[k]? := by
  simp only [World.setRow, Array.getElem?_modify]; rw [if_neg (by omega)]
theorem setRow_size (w : World) (g : Nat) (cs : Array Value) : (w.setRow g cs).heap.size = w.heap.size := by simp [World.setRow]

theorem splice_cells {as xs : List AV} {cs ys : Array Value} {off : Nat} (h : Cells M ρ H as cs) (hx : Cells M ρ H xs ys) (hl : xs.length = ys.size) (ho : off + ys.size ≤ as.length) :
    Cells M ρ H (as.take off ++ xs ++ as.drop (off + xs.length)) (cs.toList.take off ++ ys.toList ++ cs.toList.drop (off + ys.size)).toArray := by
  obtain ⟨h1, h2⟩ := h
  refine ⟨by simp; omega, fun j h3 h4 => ?_⟩
  simp only [List.getElem_toArray, List.getElem_append, List.length_append, List.length_take, Array.length_toList, List.getElem_take, List.getElem_drop, Array.getElem_toList]
  simp only [List.length_append, List.length_take, List.length_drop, List.size_toArray, Array.length_toList] at h3 h4
  have e1 : min off as.length = off := by omega
  have e2 : min off cs.size = off := by omega
  simp only [e1, e2]
  by_cases c1 : j < off
  · simp only [show j < off + xs.length by omega, show j < off + ys.size by omega, c1, dite_true]
    exact h2 j (by omega) (by omega)
  · by_cases c2 : j < off + ys.size
    · simp only [show j < off + xs.length by omega, c2, c1, dite_true, dite_false]
      exact hx.2 _ _ _
    · simp only [show ¬ j < off + xs.length by omega, c2, dite_false]
      have := h2 (off + xs.length + (j - (off + xs.length))) (by omega) (by omega)
      simp only [hl] at this ⊢
      exact this

theorem astore_run {t : TypeId} {a x : AV} {v u : Value} {H' : Hp} (hs : Sim M ρ H w) (h : astore P H t a x = some H') (hv : V M ρ H a v) (hu : V M ρ H x u) :
    ∃ w', (Instr.storeAt t v u).run P w = .ok () w' ∧ Sim M ρ H' w' ∧ Ext M ρ H M ρ H' ∧ Fr w w' := by
  unfold astore at h
  split at h
  · rename_i b ver off
    split at h
    · rename_i blk hb
      split at h
      · rename_i g n ht
        split at h
        · rename_i hc
          obtain ⟨he, hso, hn, ho, hle⟩ := hc
          cases h
          obtain rfl := hv.inv_p hb he
          obtain ⟨ha, hsz⟩ := tagg_run ht w
          obtain ⟨hc1, hc2⟩ := hu.cellsOf hso
          obtain ⟨cs, h1, h2, h3, h4, h5⟩ := hs.own b blk hb
          have hone : ∀ y ∈ u.cells.toList, y.oneCell' = true := fun y hy => by
            obtain ⟨j, hj, rfl⟩ := List.getElem_of_mem hy
            have hj' : j < u.cells.size := by simpa using hj
            have := hc2.2 j (by omega) hj'
            exact this.one (List.all_eq_true.1 ho _ (List.getElem_mem _))
          have hrun := run_storeCells_at (P := P) (ρ b).1 off blk.e u.cells.toList 0 cs w h1 (by have := h3.1; simp; omega) hone
          simp only [Nat.add_zero, Array.length_toList] at hrun
          have hput := Sim.put (w' := w.setRow (ρ b).1 (cs.toList.take off ++ u.cells.toList ++ cs.toList.drop (off + u.cells.size)).toArray) hs b (ρ b).1 (ρ b).2
            ⟨blk.ver, blk.e, blk.sz, blk.cells.take off ++ x.cells ++ blk.cells.drop (off + n)⟩ _ (setRow_heap w _ cs _ _ _ h1) (fun k _ hk _ => setRow_other w _ _ k hk) h2
            (fun b2 bk2 hb2 hne e => hne (hs.inj _ _ _ _ hb2 hb e)) (fun old ho => by rw [hb] at ho; cases ho; exact ⟨Nat.le_refl _, fun _ => rfl⟩)
            (by rw [← hn]; exact splice_cells h3 hc2 hc1 (by omega)) (by
              rcases h4 with h4 | h4
              · exact .inl h4
              · refine .inr ?_
                rw [← h4]
                have := h3.1
                simp; omega) h5
          rw [upd_id ρ b _ rfl] at hput
          refine ⟨_, ?_, hput.1, hput.2, ⟨rfl, rfl, rfl, by rw [setRow_size]; exact Nat.le_refl _⟩⟩
          have hsize : u.cells.size = n := by omega
          simp [Instr.storeAt, Instr.sureAddr, storeVar, hsz, hsize, hrun]
        · cases h
      · cases h
    · cases h
  · cases h

theorem alloc_good {key cap : Nat} {e : TypeId} {sz : Nat} {as : List AV} {cs : Array Value} {av : AV} {v : Value} {r : Result Value} (hs : Sim M ρ H w) (hc : Cells M ρ H as cs)
    (hr : r = .ok v (w.alloc (.cells cs e))) (hsz : sz = 0 ∨ cs.size = cap * sz) (hcap : cap ≤ maxLen)
    (hv : (av = .p key (nv H key) 0 ∧ v = .pointer (some ⟨w.heap.size, 0, none⟩)) ∨ ∃ len, av = .os key (nv H key) len ∧ v = .slice (some ⟨w.heap.size, 0, none⟩) len cap ∧ len ≤ cap) :
    GoodV M ρ H w av (upd H key (some ⟨nv H key, e, sz, as⟩)) r := by
  obtain ⟨h1, h2⟩ := Sim.alloc hs key cap ⟨nv H key, e, sz, as⟩ cs (fun old ho => nv_lt ho) hc hsz hcap
  refine ⟨v, _, _, hr, h1, ?_, h2, ⟨rfl, rfl, rfl, by simp⟩⟩
  rcases hv with ⟨rfl, rfl⟩ | ⟨len, rfl, rfl, hle⟩
  · exact .p (upd_same _ _ _) (Nat.le_refl _) rfl fun _ => by rw [upd_same]
  · exact .os (upd_same _ _ _) (Nat.le_refl _) rfl fun _ => by rw [upd_same]; exact ⟨rfl, hle⟩

end
end Go.Proofs.Ytpdpmcllpafjbaa

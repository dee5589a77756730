/- Words of this seat's proofs: abstract values and an abstract heap, and how they stand for those of the model. No program is named here. -/
import Derived.Test.YtpdpmcllpafjbaaBase
import Derived.Maps.AppendAt
namespace Go.Proofs.Ytpdpmcllpafjbaa
open Go.RowKit
set_option linter.unusedVariables false

/-- A value, seen without addresses: a slice that nobody writes is a list of elements (each a list of cells); memory of the call's own is named by a key. -/
inductive AV where
  | b (x : Bool)
  | i (k : IntKind) (n : Int)
  | s (x : ByteArray)
  | u
  | un
  | np
  | ns
  | nf
  | p (blk ver off : Nat)
  | pi (cells : List AV)
  | is (sz : Nat) (es : List (List AV))
  | os (blk ver len : Nat)
  | fn (f : Fn) (caps : List AV)
  | agg (cells : List AV)
  | tup (vs : List AV)

structure Blk where
  ver : Nat
  e : TypeId
  sz : Nat
  cells : List AV

abbrev Hp := Nat → Option Blk
abbrev En := Nat → AV
abbrev Mem := Nat → Option Obj

def upd {β : Type} (f : Nat → β) (k : Nat) (x : β) : Nat → β := fun j => if j = k then x else f j
theorem upd_at {β : Type} (f : Nat → β) (k : Nat) (x : β) (j : Nat) : upd f k x j = if j = k then x else f j := rfl
theorem upd_same {β : Type} (f : Nat → β) (k : Nat) (x : β) : upd f k x k = x := by simp [upd]
theorem upd_ne {β : Type} (f : Nat → β) {k j : Nat} (x : β) (h : j ≠ k) : upd f k x j = f j := by simp [upd, h]
theorem upd_upd {β : Type} (f : Nat → β) (k : Nat) (x y : β) : upd (upd f k x) k y = upd f k y := by funext j; simp only [upd]; split <;> rfl
theorem upd_comm {β : Type} (f : Nat → β) {k j : Nat} (x y : β) (h : k ≠ j) : upd (upd f k x) j y = upd (upd f j y) k x := by
  funext i; simp only [upd]; split <;> split <;> first | rfl | (exfalso; omega)
theorem upd_id {β : Type} (f : Nat → β) (k : Nat) (x : β) (h : f k = x) : upd f k x = f := by
  funext j; simp only [upd]; split
  · rename_i e; rw [e, h]
  · rfl

/-- The memory that nobody writes any more, and a value that reads in it. -/
inductive T (M : Mem) : AV → Value → Prop where
  | b (x : Bool) : T M (.b x) (.bool x)
  | i (k : IntKind) (n : Int) : T M (.i k n) (.int k n)
  | s (x : ByteArray) : T M (.s x) (.string x)
  | u (v : Value) : T M .u v
  | un : T M .un undef
  | np : T M .np (.pointer none)
  | ns : T M .ns (.slice none 0 0)
  | nf : T M .nf .nilFunc
  | pi {cells : List AV} {us : List Value} {g o : Nat} {cs : Array Value} {el : TypeId} {fz : Nat × Nat} (hm : M g = some (.cells cs el fz)) (hl : cells.length = us.length)
      (hT : ∀ (j : Nat) (h1 : j < cells.length) (h2 : j < us.length), T M cells[j] us[j]) (hc : ∀ (j : Nat) (h : j < us.length), cs[o + j]? = some us[j]) : T M (.pi cells) (.pointer (some ⟨g, o, none⟩))
  | is0 (sz : Nat) (A : Option Addr) (cap : Nat) (hcap : cap ≤ maxLen) : T M (.is sz []) (.slice A 0 cap)
  | is {sz : Nat} {es : List (List AV)} {us : List Value} {g o cap : Nat} {cs : Array Value} {el : TypeId} {fz : Nat × Nat} (hm : M g = some (.cells cs el fz)) (hsz : ∀ e ∈ es, e.length = sz)
      (hle : es.length ≤ cap) (hcap : cap ≤ maxLen) (hl : es.flatten.length = us.length)
      (hT : ∀ (j : Nat) (h1 : j < es.flatten.length) (h2 : j < us.length), T M es.flatten[j] us[j]) (hc : ∀ (j : Nat) (h : j < us.length), cs[o + j]? = some us[j]) : T M (.is sz es) (.slice (some ⟨g, o, none⟩) es.length cap)
  | fn (f : Fn) {caps : List AV} {vs : List Value} (hl : caps.length = vs.length) (hT : ∀ (j : Nat) (h1 : j < caps.length) (h2 : j < vs.length), T M caps[j] vs[j]) : T M (.fn f caps) (.func f #[] vs.toArray)
  | agg {cells : List AV} {vs : List Value} (hl : cells.length = vs.length) (hT : ∀ (j : Nat) (h1 : j < cells.length) (h2 : j < vs.length), T M cells[j] vs[j]) : T M (.agg cells) (.agg vs.toArray)
  | tup {cells : List AV} {vs : List Value} (hl : cells.length = vs.length) (hT : ∀ (j : Nat) (h1 : j < cells.length) (h2 : j < vs.length), T M cells[j] vs[j]) : T M (.tup cells) (.tuple vs.toArray)

/-- A value that may name memory of the call's own: a stale name (an older version) says nothing. -/
inductive V (M : Mem) (ρ : Nat → Nat × Nat) (H : Hp) : AV → Value → Prop where
  | t {av : AV} {v : Value} (h : T M av v) : V M ρ H av v
  | p {b ver off : Nat} {blk : Blk} {v : Value} (hb : H b = some blk) (hle : ver ≤ blk.ver) (h1 : v.oneCell' = true) (hv : ver = blk.ver → v = .pointer (some ⟨(ρ b).1, off, none⟩)) : V M ρ H (.p b ver off) v
  | os {b ver len : Nat} {blk : Blk} {v : Value} (hb : H b = some blk) (hle : ver ≤ blk.ver) (h1 : v.oneCell' = true)
      (hv : ver = blk.ver → v = .slice (some ⟨(ρ b).1, 0, none⟩) len (ρ b).2 ∧ len ≤ (ρ b).2) : V M ρ H (.os b ver len) v
  | fn (f : Fn) {caps : List AV} {vs : List Value} (hl : caps.length = vs.length) (hT : ∀ (j : Nat) (h1 : j < caps.length) (h2 : j < vs.length), V M ρ H caps[j] vs[j]) : V M ρ H (.fn f caps) (.func f #[] vs.toArray)
  | agg {cells : List AV} {vs : List Value} (hl : cells.length = vs.length) (hT : ∀ (j : Nat) (h1 : j < cells.length) (h2 : j < vs.length), V M ρ H cells[j] vs[j]) : V M ρ H (.agg cells) (.agg vs.toArray)
  | tup {cells : List AV} {vs : List Value} (hl : cells.length = vs.length) (hT : ∀ (j : Nat) (h1 : j < cells.length) (h2 : j < vs.length), V M ρ H cells[j] vs[j]) : V M ρ H (.tup cells) (.tuple vs.toArray)

def MemLe (M M' : Mem) : Prop := ∀ g o, M g = some o → M' g = some o
theorem MemLe.refl (M : Mem) : MemLe M M := fun _ _ h => h
theorem MemLe.trans {a b c : Mem} (h : MemLe a b) (k : MemLe b c) : MemLe a c := fun g o x => k g o (h g o x)

theorem T.mono {M M' : Mem} (h : MemLe M M') {av : AV} {v : Value} (t : T M av v) : T M' av v := by
  induction t with
  | b x => exact .b x
  | i k n => exact .i k n
  | s x => exact .s x
  | u v => exact .u v
  | un => exact .un
  | np => exact .np
  | ns => exact .ns
  | nf => exact .nf
  | pi hm hl _ hc ih => exact .pi (h _ _ hm) hl ih hc
  | is0 sz A cap hcap => exact .is0 sz A cap hcap
  | is hm hsz hle hcap hl _ hc ih => exact .is (h _ _ hm) hsz hle hcap hl ih hc
  | fn f hl _ ih => exact .fn f hl ih
  | agg hl _ ih => exact .agg hl ih
  | tup hl _ ih => exact .tup hl ih

/-- What may become of a view: memory that stays, keys that keep their block while their version stays. -/
structure Ext (M : Mem) (ρ : Nat → Nat × Nat) (H : Hp) (M' : Mem) (ρ' : Nat → Nat × Nat) (H' : Hp) : Prop where
  mem : MemLe M M'
  key : ∀ b blk, H b = some blk → ∃ blk', H' b = some blk' ∧ blk.ver ≤ blk'.ver ∧ (blk.ver = blk'.ver → ρ' b = ρ b)

theorem Ext.refl (M : Mem) (ρ : Nat → Nat × Nat) (H : Hp) : Ext M ρ H M ρ H := ⟨.refl M, fun b blk h => ⟨blk, h, Nat.le_refl _, fun _ => rfl⟩⟩
theorem Ext.trans {M M1 M2 : Mem} {ρ ρ1 ρ2 : Nat → Nat × Nat} {H H1 H2 : Hp} (h : Ext M ρ H M1 ρ1 H1) (k : Ext M1 ρ1 H1 M2 ρ2 H2) : Ext M ρ H M2 ρ2 H2 :=
  ⟨h.mem.trans k.mem, fun b blk hb => by
    obtain ⟨b1, h1, h2, h3⟩ := h.key b blk hb
    obtain ⟨b2, k1, k2, k3⟩ := k.key b b1 h1
    exact ⟨b2, k1, by omega, fun e => by rw [k3 (by omega), h3 (by omega)]⟩⟩

theorem V.ext {M M' : Mem} {ρ ρ' : Nat → Nat × Nat} {H H' : Hp} (x : Ext M ρ H M' ρ' H') {av : AV} {v : Value} (t : V M ρ H av v) : V M' ρ' H' av v := by
  induction t with
  | t h => exact .t (h.mono x.mem)
  | p hb hle h1 hv =>
    obtain ⟨b', k1, k2, k3⟩ := x.key _ _ hb
    exact .p k1 (by omega) h1 fun e => by rw [k3 (by omega)]; exact hv (by omega)
  | os hb hle h1 hv =>
    obtain ⟨b', k1, k2, k3⟩ := x.key _ _ hb
    exact .os k1 (by omega) h1 fun e => by rw [k3 (by omega)]; exact hv (by omega)
  | fn f hl _ ih => exact .fn f hl ih
  | agg hl _ ih => exact .agg hl ih
  | tup hl _ ih => exact .tup hl ih

def Cells (M : Mem) (ρ : Nat → Nat × Nat) (H : Hp) (as : List AV) (cs : Array Value) : Prop :=
  as.length ≤ cs.size ∧ ∀ (j : Nat) (h1 : j < as.length) (h2 : j < cs.size), V M ρ H as[j] cs[j]

structure Sim (M : Mem) (ρ : Nat → Nat × Nat) (H : Hp) (w : World) : Prop where
  mem : ∀ g o, M g = some o → w.heap[g]? = some o
  own : ∀ b blk, H b = some blk → ∃ cs, w.heap[(ρ b).1]? = some (.cells cs blk.e (0, 0)) ∧ M (ρ b).1 = none ∧ Cells M ρ H blk.cells cs ∧ (blk.sz = 0 ∨ cs.size = (ρ b).2 * blk.sz) ∧ (ρ b).2 ≤ maxLen
  inj : ∀ b b' blk blk', H b = some blk → H b' = some blk' → (ρ b).1 = (ρ b').1 → b = b'
  fin : ∃ n, ∀ k, n ≤ k → H k = none

theorem Cells.ext {M M' : Mem} {ρ ρ' : Nat → Nat × Nat} {H H' : Hp} (x : Ext M ρ H M' ρ' H') {as : List AV} {cs : Array Value} (h : Cells M ρ H as cs) : Cells M' ρ' H' as cs :=
  ⟨h.1, fun j h1 h2 => (h.2 j h1 h2).ext x⟩

theorem Sim.lt {M : Mem} {ρ : Nat → Nat × Nat} {H : Hp} {w : World} (h : Sim M ρ H w) {g : Nat} {o : Obj} (hm : M g = some o) : g < w.heap.size :=
  (Array.getElem?_eq_some_iff.1 (h.mem g o hm)).1
theorem Sim.ltOwn {M : Mem} {ρ : Nat → Nat × Nat} {H : Hp} {w : World} (h : Sim M ρ H w) {b : Nat} {blk : Blk} (hb : H b = some blk) : (ρ b).1 < w.heap.size := by
  obtain ⟨cs, h1, _⟩ := h.own b blk hb
  exact (Array.getElem?_eq_some_iff.1 h1).1

/-- What a step leaves alone besides the memory. -/
structure Fr (w w' : World) : Prop where
  os : w'.os = w.os
  tape : w'.tape = w.tape
  output : w'.output = w.output
  size : w.heap.size ≤ w'.heap.size
theorem Fr.refl (w : World) : Fr w w := ⟨rfl, rfl, rfl, Nat.le_refl _⟩
theorem Fr.trans {a b c : World} (h : Fr a b) (k : Fr b c) : Fr a c := ⟨k.os.trans h.os, k.tape.trans h.tape, k.output.trans h.output, Nat.le_trans h.size k.size⟩

theorem Sim.draws {M : Mem} {ρ : Nat → Nat × Nat} {H : Hp} {w : World} (h : Sim M ρ H w) (n : Nat) : Sim M ρ H { w with drawn := n } := ⟨h.mem, h.own, h.inj, h.fin⟩
theorem fin_upd {H : Hp} (h : ∃ n, ∀ k, n ≤ k → H k = none) (b : Nat) (x : Option Blk) : ∃ n, ∀ k, n ≤ k → upd H b x k = none := by
  obtain ⟨n, hn⟩ := h
  exact ⟨n + b + 1, fun k hk => by rw [upd_ne _ _ (by omega)]; exact hn k (by omega)⟩

/-- A new block under a key. -/
theorem Sim.alloc {M : Mem} {ρ : Nat → Nat × Nat} {H : Hp} {w : World} (h : Sim M ρ H w) (k cap : Nat) (blk : Blk) (cs : Array Value) (hv : ∀ old, H k = some old → old.ver < blk.ver)
    (hc : Cells M ρ H blk.cells cs) (hs : blk.sz = 0 ∨ cs.size = cap * blk.sz) (hcap : cap ≤ maxLen) :
    Sim M (upd ρ k (w.heap.size, cap)) (upd H k (some blk)) (w.alloc (.cells cs blk.e)) ∧ Ext M ρ H M (upd ρ k (w.heap.size, cap)) (upd H k (some blk)) := by
  have hx : Ext M ρ H M (upd ρ k (w.heap.size, cap)) (upd H k (some blk)) := ⟨.refl M, fun b bk hb => by
    by_cases e : b = k
    · subst e
      have := hv _ hb
      exact ⟨blk, upd_same _ _ _, by omega, fun e => by omega⟩
    · exact ⟨bk, by rw [upd_ne _ _ e]; exact hb, Nat.le_refl _, fun _ => upd_ne _ _ e⟩⟩
  refine ⟨⟨fun g o hm => ?_, fun b bk hb => ?_, fun b b' bk bk' hb hb' he => ?_, fin_upd h.fin _ _⟩, hx⟩
  · rw [Below.heap_alloc _ _ _ (h.lt hm)]; exact h.mem g o hm
  · by_cases e : b = k
    · subst e
      rw [upd_same] at hb
      cases hb
      refine ⟨cs, ?_, ?_, hc.ext hx, ?_, ?_⟩
      · rw [upd_same]; exact heap_alloc_new w _
      · rw [upd_same]
        cases hm : M w.heap.size with
        | none => rfl
        | some o => exact absurd (h.lt hm) (Nat.lt_irrefl _)
      · rw [upd_same]; exact hs
      · rw [upd_same]; exact hcap
    · rw [upd_ne _ _ e] at hb ⊢
      obtain ⟨c0, h1, h2, h3, h4⟩ := h.own b bk hb
      exact ⟨c0, by rw [Below.heap_alloc _ _ _ (h.ltOwn hb)]; exact h1, h2, h3.ext hx, h4⟩
  · by_cases e : b = k
    · by_cases e' : b' = k
      · rw [e, e']
      · rw [upd_ne _ _ e'] at hb' he
        rw [e, upd_same] at he
        have h0 := h.ltOwn hb'
        have he' : w.heap.size = (ρ b').1 := he
        omega
    · rw [upd_ne _ _ e] at hb he
      by_cases e' : b' = k
      · rw [e', upd_same] at he
        have h0 := h.ltOwn hb
        have he' : (ρ b).1 = w.heap.size := he
        omega
      · rw [upd_ne _ _ e'] at hb' he
        exact h.inj b b' bk bk' hb hb' he

/-- A cell of an own block is written. -/
theorem Sim.store {M : Mem} {ρ : Nat → Nat × Nat} {H : Hp} {w : World} (h : Sim M ρ H w) {b off : Nat} {blk : Blk} (hb : H b = some blk) (ho : off < blk.cells.length) {av : AV} {v : Value} (hv : V M ρ H av v) :
    Sim M ρ (upd H b (some { blk with cells := blk.cells.set off av })) (w.setCell ⟨(ρ b).1, off, none⟩ v) ∧ Ext M ρ H M ρ (upd H b (some { blk with cells := blk.cells.set off av })) := by
  have hx : Ext M ρ H M ρ (upd H b (some { blk with cells := blk.cells.set off av })) := ⟨.refl M, fun b' bk hb' => by
    by_cases e : b' = b
    · subst e
      rw [hb] at hb'
      cases hb'
      exact ⟨_, upd_same _ _ _, Nat.le_refl _, fun _ => rfl⟩
    · exact ⟨bk, by rw [upd_ne _ _ e]; exact hb', Nat.le_refl _, fun _ => rfl⟩⟩
  refine ⟨⟨fun g o hm => ?_, fun b' bk hb' => ?_, fun b1 b2 k1 k2 h1 h2 he => ?_, fin_upd h.fin _ _⟩, hx⟩
  · obtain ⟨cs, h1, h2, _⟩ := h.own b blk hb
    rw [Below.heap_setCell _ _ _ _ (by intro e; simp at e; rw [e] at hm; rw [h2] at hm; cases hm)]
    exact h.mem g o hm
  · by_cases e : b' = b
    · subst e
      rw [upd_same] at hb'
      cases hb'
      obtain ⟨cs, h1, h2, h3, h4, h5⟩ := h.own _ blk hb
      refine ⟨cs.setIfInBounds off v, ?_, h2, ⟨by simp; exact h3.1, fun j h6 h7 => ?_⟩, by simpa using h4, h5⟩
      · simp [World.setCell, Array.getElem?_modify, h1]
      · have h7' : j < cs.size := by simpa using h7
        rw [List.getElem_set, Array.getElem_setIfInBounds h7']
        split
        · exact hv.ext hx
        · exact (h3.2 j (by simpa using h6) h7').ext hx
    · rw [upd_ne _ _ e] at hb'
      obtain ⟨cs, h1, h2, h3, h4⟩ := h.own b' bk hb'
      refine ⟨cs, ?_, h2, h3.ext hx, h4⟩
      rw [Below.heap_setCell _ _ _ _ (by intro e2; exact e (h.inj b' b bk blk hb' hb e2))]
      exact h1
  · have f1 : ∃ k, H b1 = some k := by
      by_cases e : b1 = b
      · exact ⟨blk, by rw [e]; exact hb⟩
      · rw [upd_ne _ _ e] at h1; exact ⟨_, h1⟩
    have f2 : ∃ k, H b2 = some k := by
      by_cases e : b2 = b
      · exact ⟨blk, by rw [e]; exact hb⟩
      · rw [upd_ne _ _ e] at h2; exact ⟨_, h2⟩
    exact h.inj b1 b2 _ _ f1.choose_spec f2.choose_spec he

/-- The cells of a value. -/
def AV.cells : AV → List AV
  | .agg cs => cs
  | v => [v]
def AV.one : AV → Bool
  | .u => false
  | .un => false
  | .agg _ => false
  | .tup _ => false
  | _ => true
def AV.solid : AV → Bool
  | .u => false
  | _ => true

theorem one_b (x : Bool) : AV.one (.b x) = true := rfl
theorem solid_b (x : Bool) : AV.solid (.b x) = true := rfl
theorem cells_b (x : Bool) : AV.cells (.b x) = [.b x] := rfl
theorem one_i (k : IntKind) (n : Int) : AV.one (.i k n) = true := rfl
theorem solid_i (k : IntKind) (n : Int) : AV.solid (.i k n) = true := rfl
theorem cells_i (k : IntKind) (n : Int) : AV.cells (.i k n) = [.i k n] := rfl
theorem one_s (x : ByteArray) : AV.one (.s x) = true := rfl
theorem solid_s (x : ByteArray) : AV.solid (.s x) = true := rfl
theorem cells_s (x : ByteArray) : AV.cells (.s x) = [.s x] := rfl
theorem one_np  : AV.one (.np) = true := rfl
theorem solid_np  : AV.solid (.np) = true := rfl
theorem cells_np  : AV.cells (.np) = [.np] := rfl
theorem one_ns  : AV.one (.ns) = true := rfl
theorem solid_ns  : AV.solid (.ns) = true := rfl
theorem cells_ns  : AV.cells (.ns) = [.ns] := rfl
theorem one_nf  : AV.one (.nf) = true := rfl
theorem solid_nf  : AV.solid (.nf) = true := rfl
theorem cells_nf  : AV.cells (.nf) = [.nf] := rfl
theorem one_p (a b c : Nat) : AV.one (.p a b c) = true := rfl
theorem solid_p (a b c : Nat) : AV.solid (.p a b c) = true := rfl
theorem cells_p (a b c : Nat) : AV.cells (.p a b c) = [.p a b c] := rfl
theorem one_pi (c : List AV) : AV.one (.pi c) = true := rfl
theorem solid_pi (c : List AV) : AV.solid (.pi c) = true := rfl
theorem cells_pi (c : List AV) : AV.cells (.pi c) = [.pi c] := rfl
theorem one_is (a : Nat) (e : List (List AV)) : AV.one (.is a e) = true := rfl
theorem solid_is (a : Nat) (e : List (List AV)) : AV.solid (.is a e) = true := rfl
theorem cells_is (a : Nat) (e : List (List AV)) : AV.cells (.is a e) = [.is a e] := rfl
theorem one_os (a b c : Nat) : AV.one (.os a b c) = true := rfl
theorem solid_os (a b c : Nat) : AV.solid (.os a b c) = true := rfl
theorem cells_os (a b c : Nat) : AV.cells (.os a b c) = [.os a b c] := rfl
theorem one_fn (f : Fn) (c : List AV) : AV.one (.fn f c) = true := rfl
theorem solid_fn (f : Fn) (c : List AV) : AV.solid (.fn f c) = true := rfl
theorem cells_fn (f : Fn) (c : List AV) : AV.cells (.fn f c) = [.fn f c] := rfl
theorem solid_agg (c : List AV) : AV.solid (.agg c) = true := rfl
theorem solid_tup (c : List AV) : AV.solid (.tup c) = true := rfl
theorem cells_agg (c : List AV) : AV.cells (.agg c) = c := rfl
theorem one_agg (c : List AV) : AV.one (.agg c) = false := rfl
theorem cells_one {v : AV} (h : v.one = true) : v.cells = [v] := by cases v <;> first | rfl | (simp [AV.one] at h)
theorem solid_one {v : AV} (h : v.one = true) : v.solid = true := by cases v <;> first | rfl | (simp [AV.one] at h)
theorem V.one {M : Mem} {ρ : Nat → Nat × Nat} {H : Hp} {av : AV} {v : Value} (h : V M ρ H av v) (h1 : av.one = true) : v.oneCell' = true := by
  cases h with
  | t t => cases t <;> first | rfl | (simp [AV.one] at h1)
  | p _ _ h _ => exact h
  | os _ _ h _ => exact h
  | fn => rfl
  | agg => simp [AV.one] at h1
  | tup => simp [AV.one] at h1

theorem cells_of_one {v : Value} (h : v.oneCell' = true) : v.cells = #[v] := by cases v <;> first | rfl | (simp [Value.oneCell'] at h)

/-- The cells of an abstract value stand for the cells of the value. -/
theorem V.cellsOf {M : Mem} {ρ : Nat → Nat × Nat} {H : Hp} {av : AV} {v : Value} (h : V M ρ H av v) (hs : av.solid = true) :
    av.cells.length = v.cells.size ∧ Cells M ρ H av.cells v.cells := by
  have key : ∀ (as : List AV) (vs : List Value), as.length = vs.length → (∀ (j : Nat) (h1 : j < as.length) (h2 : j < vs.length), V M ρ H as[j] vs[j]) → as.length = vs.toArray.size ∧ Cells M ρ H as vs.toArray :=
    fun as vs hl hv => ⟨by simpa using hl, by simpa using Nat.le_of_eq hl, fun j h1 h2 => by simpa using hv j h1 (by simpa using h2)⟩
  have one : v.cells = #[v] → av.cells = [av] → av.cells.length = v.cells.size ∧ Cells M ρ H av.cells v.cells := fun h1 h2 => by
    rw [h1, h2]
    exact key [av] [v] rfl fun j h1 h2 => by
      obtain rfl : j = 0 := by simp at h1; exact h1
      exact h
  cases h with
  | t t =>
    cases t with
    | agg hl hT => exact key _ _ hl fun j h1 h2 => .t (hT j h1 h2)
    | u => simp [AV.solid] at hs
    | _ => exact one rfl rfl
  | p _ _ h _ => exact one (cells_of_one h) rfl
  | os _ _ h _ => exact one (cells_of_one h) rfl
  | fn => exact one rfl rfl
  | agg hl hT => exact key _ _ hl hT
  | tup => exact one rfl rfl

/-- A constant. -/
def absS : Value → AV
  | .bool b => .b b
  | .int k n => .i k n
  | .string s => .s s
  | .pointer none => .np
  | .slice none 0 0 => .ns
  | .nilFunc => .nf
  | _ => .u
def absV : Value → AV
  | .agg cs => .agg (cs.toList.map absS)
  | .tuple vs => .tup (vs.toList.map absS)
  | v => absS v
theorem absS_T (M : Mem) (v : Value) : T M (absS v) v := by
  unfold absS
  split <;> constructor
theorem absV_T (M : Mem) (v : Value) : T M (absV v) v := by
  unfold absV
  split
  · rename_i cs
    have := T.agg (M := M) (cells := cs.toList.map absS) (vs := cs.toList) (by simp) fun j h1 h2 => by simpa using absS_T M _
    simpa using this
  · rename_i cs
    have := T.tup (M := M) (cells := cs.toList.map absS) (vs := cs.toList) (by simp) fun j h1 h2 => by simpa using absS_T M _
    simpa using this
  · exact absS_T M _

def aev (ta : En) : Operand → AV
  | .tmp t => ta t
  | .const v => absV v
  | .global _ => .u
  | .func f => .fn (.func f) []

theorem aev_V {M : Mem} {ρ : Nat → Nat × Nat} {H : Hp} {ta : En} {a : Act} (h : ∀ t, V M ρ H (ta t) (a.tmps.getD t undef)) (x : Operand) : V M ρ H (aev ta x) (a.eval x) := by
  cases x with
  | tmp t => exact h t
  | const v => exact .t (absV_T M v)
  | global g => exact .t (.u _)
  | func f => exact .t (.fn (.func f) (caps := []) (vs := []) rfl fun j h1 h2 => by simp at h1)
end Go.Proofs.Ytpdpmcllpafjbaa

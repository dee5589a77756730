/- Words of this seat's proofs: more operations on abstract values. No program is named here. -/
import Derived.Test.YtpdpmcllpafjbaaAop
namespace Go.Proofs.Ytpdpmcllpafjbaa
open Go.RowKit
set_option linter.unusedVariables false
set_option linter.unusedSimpArgs false

section
variable {P : Program} {M : Mem} {ρ : Nat → Nat × Nat} {H : Hp} {w : World}

/-- A pointer into an own block, of its present version. -/
def cur (H : Hp) (b ver : Nat) : Bool := match H b with | some blk => ver == blk.ver | none => false
theorem cur_of {b ver : Nat} (h : cur H b ver = true) : ∃ blk, H b = some blk ∧ ver = blk.ver := by
  unfold cur at h
  split at h
  · rename_i blk hb; exact ⟨blk, hb, by simpa using h⟩
  · cases h

/- parts of a build -/
def afill (place : Nat → Option (Nat × Nat)) (cells : List AV) : List (Nat × AV) → Option (List AV)
  | [] => some cells
  | (i, a) :: rest => match place i with
    | none => none
    | some (off, size) => if a.solid = true ∧ a.cells.length = size ∧ off + size ≤ cells.length then afill place (cells.take off ++ a.cells ++ cells.drop (off + size)) rest else none

def Full (M : Mem) (ρ : Nat → Nat × Nat) (H : Hp) (as : List AV) (cs : Array Value) : Prop := as.length = cs.size ∧ Cells M ρ H as cs

theorem fold_set (off : Nat) : ∀ (l : List Value) (k : Nat) (cs : Array Value), off + k + l.length ≤ cs.size →
    (l.zipIdx k).foldl (fun (cs : Array Value) (p : Value × Nat) => cs.setIfInBounds (off + p.2) p.1) cs = (cs.toList.take (off + k) ++ l ++ cs.toList.drop (off + k + l.length)).toArray := by
  intro l
  induction l with
  | nil => intro k cs h; simp
  | cons v l ih =>
    intro k cs h
    rw [List.zipIdx_cons, List.foldl_cons, ih _ _ (by simp at h ⊢; omega)]
    simp only [Array.toList_setIfInBounds]
    congr 1
    apply List.ext_getElem?
    intro m
    simp only [List.length_cons] at h
    simp only [List.getElem?_append, List.length_append, List.length_take, List.length_set, Array.length_toList, List.length_cons, List.getElem?_take, List.getElem?_set, List.getElem?_drop, List.getElem?_cons,
      Nat.min_eq_left (show off + (k + 1) ≤ cs.size by omega), Nat.min_eq_left (show off + k ≤ cs.size by omega)]
    by_cases h1 : m < off + k
    · simp [h1, show m < off + (k + 1) by omega, show m < off + (k + 1) + l.length by omega, show m < off + k + (l.length + 1) by omega, show ¬ off + k = m by omega]
    · by_cases h2 : m = off + k
      · subst h2
        simp [show off + k < off + (k + 1) by omega, show off + k < off + (k + 1) + l.length by omega, show off + k < cs.size by omega]
      · by_cases h3 : m < off + k + (l.length + 1)
        · simp [h1, h3, show ¬ m < off + (k + 1) by omega, show m < off + (k + 1) + l.length by omega, show ¬ m - (off + k) = 0 by omega, show m - (off + (k + 1)) = m - (off + k) - 1 by omega]
        · simp [h1, h3, show ¬ m < off + (k + 1) by omega, show ¬ m < off + (k + 1) + l.length by omega]
          rw [show off + (k + 1) + l.length + (m - (off + (k + 1) + l.length)) = m by omega, show off + k + (l.length + 1) + (m - (off + k + (l.length + 1))) = m by omega, if_neg (by omega)]

theorem afill_run {place : Nat → Option (Nat × Nat)} {env : Operand → Value} {f : Operand → AV} (hf : ∀ x, V M ρ H (f x) (env x)) : ∀ (parts : List (Nat × Operand)) (as as' : List AV) (cs : Array Value),
    Full M ρ H as cs → afill place as (parts.map fun p => (p.1, f p.2)) = some as' → ∃ cs', Instr.fill place cs (parts.map fun p => (p.1, env p.2)) = some cs' ∧ Full M ρ H as' cs' := by
  intro parts
  induction parts with
  | nil => intro as as' cs hc h; simp [afill] at h; subst h; exact ⟨cs, rfl, hc⟩
  | cons p parts ih =>
    intro as as' cs hc h
    obtain ⟨i, x⟩ := p
    simp only [List.map_cons, afill] at h
    cases hp : place i with
    | none => simp [hp] at h
    | some os =>
      obtain ⟨off, size⟩ := os
      simp only [hp] at h
      split at h
      · rename_i hcond
        obtain ⟨h1, h2, h3⟩ := hcond
        obtain ⟨h4, h5⟩ := (hf x).cellsOf h1
        have hle : off + (env x).cells.size ≤ cs.size := by have := hc.1; omega
        have hfold := fold_set off (env x).cells.toList 0 cs (by simpa using hle)
        have hnext := ih _ as' (cs.toList.take off ++ (env x).cells.toList ++ cs.toList.drop (off + (env x).cells.size)).toArray
          ⟨by have := hc.1; simp; omega, by rw [← h2]; exact splice_cells hc.2 h5 h4 (by have := hc.1; omega)⟩ h
        obtain ⟨cs', h6, h7⟩ := hnext
        refine ⟨cs', ?_, h7⟩
        simp only [List.map_cons, Instr.fill, hp]
        rw [if_neg (by simp; omega)]
        have e2 : (env x).cells.zipIdx.foldl (fun (cs : Array Value) (p : Value × Nat) => cs.setIfInBounds (off + p.2) p.1) cs = (cs.toList.take off ++ (env x).cells.toList ++ cs.toList.drop (off + (env x).cells.size)).toArray := by
          rw [← Array.foldl_toList, Array.toList_zipIdx]
          simpa using hfold
        rw [e2]
        exact h6
      · cases h

/- struct fields -/
def tfield (P : Program) (t : TypeId) (i : Nat) : Option (Nat × TypeId × Nat) :=
  match P.underlying t with
  | some (.struct fs) => match fs[i]? with
    | some f => (P.info? f.type).map fun j => (f.offset, f.type, j.size)
    | none => none
  | _ => none
theorem tfield_some {t : TypeId} {i off : Nat} {ft : TypeId} {n : Nat} (h : tfield P t i = some (off, ft, n)) : ∃ fs f j, P.underlying t = some (.struct fs) ∧ fs[i]? = some f ∧ f.offset = off ∧ f.type = ft ∧ P.info? ft = some j ∧ j.size = n := by
  unfold tfield at h
  split at h
  · rename_i fs hu
    split at h
    · rename_i f hf
      cases hj : P.info? f.type with
      | none => simp [hj] at h
      | some j => simp [hj] at h; exact ⟨fs, f, j, hu, hf, h.1, h.2.1, h.2.1 ▸ hj, h.2.2⟩
    · cases h
  · cases h

def afieldAddr (P : Program) (H : Hp) (t : TypeId) (i : Nat) (x : AV) : Option AV :=
  match tfield P t i with
  | some (off, _, n) => if n = 0 then none else match x with
    | .p b ver o => if cur H b ver then some (.p b ver (o + off)) else none
    | .pi cells => if off ≤ cells.length then some (.pi (cells.drop off)) else none
    | _ => none
  | none => none

theorem afieldAddr_run {t : TypeId} {i : Nat} {x av : AV} {v : Value} (hs : Sim M ρ H w) (h : afieldAddr P H t i x = some av) (hv : V M ρ H x v) : GoodV M ρ H w av H ((Instr.fieldAt t v i).run P w) := by
  unfold afieldAddr at h
  split at h
  · rename_i off ft n ht
    obtain ⟨fs, f, j, hu, hfi, rfl, rfl, hj, rfl⟩ := tfield_some ht
    split at h
    · cases h
    · rename_i hn
      split at h
      · rename_i b ver o
        split at h
        · rename_i hc
          cases h
          obtain ⟨blk, hb, he⟩ := cur_of hc
          obtain rfl := hv.inv_p hb he
          refine .same (v := .pointer (some ⟨(ρ b).1, o + f.offset, none⟩)) ?_ hs (.p hb (Nat.le_of_eq he) rfl fun _ => rfl)
          simp [Instr.fieldAt, run_underlying hu, hfi, Instr.sureAddr, fieldPlace, sizeOf, typeInfo, hj, hn, add_none]
        · cases h
      · rename_i cells
        split at h
        · rename_i hle
          cases h
          obtain ⟨us, g, o, cs, el, fz, rfl, h1, h2, h3, h4⟩ := hv.inv_pi
          refine .same (v := .pointer (some ⟨g, o + f.offset, none⟩)) ?_ hs (.t (.pi (us := us.drop f.offset) h1 (by simp [h2]) (fun j h5 h6 => ?_) fun j h5 => ?_))
          · simp [Instr.fieldAt, run_underlying hu, hfi, Instr.sureAddr, fieldPlace, sizeOf, typeInfo, hj, hn, add_none]
          · simp only [List.getElem_drop]; exact h3 _ _ _
          · simp only [List.getElem_drop]; rw [Nat.add_assoc]; exact h4 _ _
        · cases h
      · cases h
  · cases h

/- values of an aggregate -/
def apart (P : Program) (t : TypeId) (cells : List AV) : Option AV := rd P t cells
theorem part_run {t : TypeId} {cells : List AV} {vs : List Value} {off : Nat} {av : AV} (hl : cells.length = vs.length) (hv : ∀ (j : Nat) (h1 : j < cells.length) (h2 : j < vs.length), V M ρ H cells[j] vs[j])
    (h : rd P t (cells.drop off) = some av) : ∃ v, (part t vs.toArray off).run P w = .ok v w ∧ V M ρ H av v := by
  unfold rd at h
  split at h
  · rename_i n ht
    obtain ⟨ha, hsz⟩ := tagg_run ht w
    split at h
    · rename_i hn
      cases h
      refine ⟨.agg ((vs.drop off).take n).toArray, ?_, .agg (by simp [hl]) fun j h4 h5 => ?_⟩
      · simp [part, ha, hsz]
      · simp only [List.getElem_take, List.getElem_drop]
        exact hv _ _ _
    · cases h
  · rename_i n ht
    obtain ⟨ha, hsz⟩ := tagg_run ht w
    rw [List.head?_drop] at h
    obtain ⟨h1, rfl⟩ := List.getElem?_eq_some_iff.1 h
    refine ⟨vs[off], ?_, hv off h1 (by omega)⟩
    simp [part, ha, show off < vs.length by omega]
  · cases h

def afield (P : Program) (t : TypeId) (i : Nat) (x : AV) : Option AV :=
  match tfield P t i, x with
  | some (off, ft, _), .agg cells => rd P ft (cells.drop off)
  | _, _ => none
theorem afield_run {t : TypeId} {i : Nat} {x av : AV} {v : Value} (hs : Sim M ρ H w) (h : afield P t i x = some av) (hv : V M ρ H x v) : GoodV M ρ H w av H ((Instr.field t v i).run P w) := by
  unfold afield at h
  split at h
  · rename_i off ft n cells ht
    obtain ⟨fs, f, j, hu, hfi, rfl, rfl, hj, rfl⟩ := tfield_some ht
    obtain ⟨vs, rfl, h1, h2⟩ := hv.inv_agg
    obtain ⟨u, h3, h4⟩ := part_run (w := w) h1 h2 h
    exact .same (by simp [Instr.field, run_underlying hu, hfi, asAgg, h3]) hs h4
  · cases h

/- indexes -/
def tsz (P : Program) (t : TypeId) : Option Nat := (P.info? t).map (·.size)
theorem tsz_run {t : TypeId} {n : Nat} (h : tsz P t = some n) (w : World) : (sizeOf t).run P w = .ok n w := by
  unfold tsz at h
  cases hi : P.info? t with
  | none => simp [hi] at h
  | some i => simp [hi] at h; simp [sizeOf, typeInfo, hi, h]

def aindexAddr (P : Program) (H : Hp) (t : TypeId) (x i : AV) : Option AV :=
  match P.underlying t, x, i with
  | some (.slice e), .is sz es, .i _ n => if tsz P e = some sz ∧ 0 ≤ n then (es[n.toNat]?).map .pi else none
  | some (.slice e), .os b ver len, .i _ n => match tsz P e with
    | some s => if cur H b ver = true ∧ 0 ≤ n ∧ n < len then some (.p b ver (n.toNat * s)) else none
    | none => none
  | some (.array m e), .p b ver off, .i _ n => match tsz P e with
    | some s => if cur H b ver = true ∧ 0 ≤ n ∧ n < m then some (.p b ver (off + n.toNat * s)) else none
    | none => none
  | _, _, _ => none

theorem flat_get : ∀ (es : List (List AV)) (sz : Nat), (∀ e ∈ es, e.length = sz) → ∀ (n j : Nat) (h : n < es.length), j < sz → ∃ h2 : n * sz + j < es.flatten.length, es.flatten[n * sz + j] = (es[n])[j]?.getD .u ∧ j < es[n].length := by
  intro es sz
  induction es with
  | nil => intro _ n j h; simp at h
  | cons e es ih =>
    intro he n j h hj
    have h0 := he e (by simp)
    cases n with
    | zero => exact ⟨by simp; omega, by simp only [List.flatten_cons, Nat.zero_mul, Nat.zero_add]; rw [List.getElem_append_left (by omega)]; simp [show j < e.length by omega], by simp; omega⟩
    | succ n =>
      obtain ⟨h1, h2, h3⟩ := ih (fun x hx => he x (by simp [hx])) n j (by simpa using h) hj
      refine ⟨by simp only [List.flatten_cons, List.length_append, Nat.add_mul]; omega, ?_, by simpa using h3⟩
      simp only [List.flatten_cons]
      rw [List.getElem_append_right (by rw [Nat.add_mul]; omega)]
      have e3 : (n + 1) * sz + j - e.length = n * sz + j := by rw [Nat.add_mul]; omega
      simp only [e3]
      simpa using h2

theorem flat_len : ∀ (es : List (List AV)) (sz : Nat), (∀ e ∈ es, e.length = sz) → es.flatten.length = es.length * sz := by
  intro es sz
  induction es with
  | nil => intro _; simp
  | cons e es ih =>
    intro he
    rw [List.flatten_cons, List.length_append, ih (fun x hx => he x (by simp [hx])), he e (by simp), List.length_cons, Nat.add_mul]; omega

theorem aindexAddr_run {t : TypeId} {x i av : AV} {v u : Value} (hs : Sim M ρ H w) (h : aindexAddr P H t x i = some av) (hv : V M ρ H x v) (hu : V M ρ H i u) :
    GoodV M ρ H w av H ((Instr.indexAt t v u).run P w) := by
  unfold aindexAddr at h
  split at h
  · rename_i e sz es k n ht
    obtain rfl := hu.inv_i
    split at h
    · rename_i hc
      obtain ⟨hsz, h0⟩ := hc
      have hr := tsz_run hsz w
      cases hes : es[n.toNat]? with
      | none => simp [hes] at h
      | some c =>
        simp [hes] at h
        subst h
        obtain ⟨hlt, rfl⟩ := List.getElem?_eq_some_iff.1 hes
        obtain ⟨A, cap, rfl, hle, hcap, hrest⟩ := hv.inv_is
        rcases hrest with rfl | ⟨us, g, o, cs, el, fz, rfl, h1, h2, h3, h4, h5⟩
        · simp at hlt
        · have hn : n < (es.length : Int) := by omega
          refine .same (v := .pointer (some ⟨g, o + n.toNat * sz, none⟩)) ?_ hs (.t (.pi (us := (us.drop (n.toNat * sz)).take sz) h1 ?_ (fun j h6 h7 => ?_) fun j h6 => ?_))
          · simp [Instr.indexAt, asIntOf, run_underlying ht, hr, h0, hn, add_none]
          · have := h2 es[n.toNat] (List.getElem_mem hlt)
            have h8 := flat_len es sz h2
            have h9 := Nat.mul_le_mul_right sz (show n.toNat + 1 ≤ es.length by omega)
            rw [Nat.add_mul, Nat.one_mul] at h9
            simp; omega
          · have hj : j < sz := by have := h2 es[n.toNat] (List.getElem_mem hlt); omega
            obtain ⟨h8, h9, h10⟩ := flat_get es sz h2 n.toNat j hlt hj
            have := h4 _ h8 (by omega)
            rw [h9] at this
            simp only [List.getElem?_eq_getElem h10, Option.getD_some] at this
            simp only [List.getElem_take, List.getElem_drop]
            exact this
          · simp only [List.length_take, List.length_drop] at h6
            simp only [List.getElem_take, List.getElem_drop]
            rw [Nat.add_assoc]; exact h5 _ _
    · cases h
  · rename_i e b ver len k n ht
    obtain rfl := hu.inv_i
    split at h
    · rename_i s hsz
      have hr := tsz_run hsz w
      split at h
      · rename_i hc
        obtain ⟨hcu, h0, hn⟩ := hc
        cases h
        obtain ⟨blk, hb, he⟩ := cur_of hcu
        obtain ⟨rfl, hle⟩ := hv.inv_os hb he
        refine .same (v := .pointer (some ⟨(ρ b).1, n.toNat * s, none⟩)) ?_ hs (.p hb (Nat.le_of_eq he) rfl fun _ => rfl)
        simp [Instr.indexAt, asIntOf, run_underlying ht, hr, h0, hn, add_none]
      · cases h
    · cases h
  · rename_i m e b ver off k n ht
    obtain rfl := hu.inv_i
    split at h
    · rename_i s hsz
      have hr := tsz_run hsz w
      split at h
      · rename_i hc
        obtain ⟨hcu, h0, hn⟩ := hc
        cases h
        obtain ⟨blk, hb, he⟩ := cur_of hcu
        obtain rfl := hv.inv_p hb he
        refine .same (v := .pointer (some ⟨(ρ b).1, off + n.toNat * s, none⟩)) ?_ hs (.p hb (Nat.le_of_eq he) rfl fun _ => rfl)
        simp [Instr.indexAt, asIntOf, run_underlying ht, hr, h0, hn, add_none, Instr.sureAddr]
      · cases h
    · cases h
  · cases h

def aindex (P : Program) (t : TypeId) (x i : AV) : Option AV :=
  match P.underlying t, x, i with
  | some .string, .s y, .i _ n => if h : 0 ≤ n ∧ n.toNat < y.size then some (.i .u8 (y[n.toNat]'h.2).toNat) else none
  | some (.array m e), .agg cs, .i _ n => match tsz P e with
    | some s => if 0 ≤ n ∧ n < m then rd P e (cs.drop (n.toNat * s)) else none
    | none => none
  | _, _, _ => none
theorem aindex_run {t : TypeId} {x i av : AV} {v u : Value} (hs : Sim M ρ H w) (h : aindex P t x i = some av) (hv : V M ρ H x v) (hu : V M ρ H i u) :
    GoodV M ρ H w av H ((Instr.index t v u).run P w) := by
  unfold aindex at h
  split at h
  · rename_i y k n ht
    obtain rfl := hu.inv_i
    obtain rfl := hv.inv_s
    split at h
    · rename_i hc
      cases h
      refine .same (v := .int .u8 (y[n.toNat]'hc.2).toNat) ?_ hs (.t (.i _ _))
      have e1 : y[n.toNat]? = some (y[n.toNat]'hc.2) := getElem?_pos y n.toNat hc.2
      simp [Instr.index, asIntOf, run_underlying ht, hc.1, e1]
    · cases h
  · rename_i m e cs k n ht
    obtain rfl := hu.inv_i
    split at h
    · rename_i s hsz
      have hr := tsz_run hsz w
      split at h
      · rename_i hc
        obtain ⟨vs, rfl, h1, h2⟩ := hv.inv_agg
        obtain ⟨u, h3, h4⟩ := part_run (w := w) h1 h2 h
        exact .same (by simp [Instr.index, asIntOf, run_underlying ht, hc.1, hc.2, hr, h3]) hs h4
      · cases h
    · cases h
  · cases h

def aextract (x : AV) (i : Nat) : Option AV := match x with | .tup vs => vs[i]? | _ => none
theorem aextract_run {x av : AV} {i : Nat} {v : Value} (hs : Sim M ρ H w) (h : aextract x i = some av) (hv : V M ρ H x v) : GoodV M ρ H w av H ((Instr.extract v i).run P w) := by
  unfold aextract at h
  split at h
  · rename_i vs
    obtain ⟨us, rfl, h1, h2⟩ := hv.inv_tup
    obtain ⟨h3, rfl⟩ := List.getElem?_eq_some_iff.1 h
    exact .same (v := us[i]'(by omega)) (by simp [Instr.extract, show i < us.length by omega]) hs (h2 i h3 (by omega))
  · cases h

def alen (P : Program) (H : Hp) (t : TypeId) (x : AV) : Option AV :=
  match P.underlying t, x with
  | some .string, .s y => some (.i .i64 y.size)
  | some (.slice _), .is _ es => some (.i .i64 es.length)
  | some (.slice _), .os b ver len => if cur H b ver then some (.i .i64 len) else none
  | some (.slice _), .ns => some (.i .i64 0)
  | some (.array n _), _ => some (.i .i64 n)
  | _, _ => none
theorem alen_run {t ty : TypeId} {ts : Array TypeId} {x av : AV} {v : Value} (h0 : ts[0]? = some t) (hs : Sim M ρ H w) (h : alen P H t x = some av) (hv : V M ρ H x v) : GoodV M ρ H w av H ((Builtin.len_ ts ty #[v]).run P w) := by
  unfold alen at h
  split at h
  · rename_i y ht
    cases h
    obtain rfl := hv.inv_s
    exact .same (by simp [Builtin.len_, h0, run_underlying ht]; rfl) hs (.t (.i _ _))
  · rename_i e sz es ht
    cases h
    obtain ⟨A, cap, rfl, _⟩ := hv.inv_is
    exact .same (by simp [Builtin.len_, h0, run_underlying ht]; rfl) hs (.t (.i _ _))
  · rename_i e b ver len ht
    split at h
    · rename_i hc
      cases h
      obtain ⟨blk, hb, he⟩ := cur_of hc
      obtain ⟨rfl, _⟩ := hv.inv_os hb he
      exact .same (by simp [Builtin.len_, h0, run_underlying ht]; rfl) hs (.t (.i _ _))
    · cases h
  · rename_i e ht
    cases h
    obtain rfl := hv.inv_ns
    exact .same (by simp [Builtin.len_, h0, run_underlying ht]; rfl) hs (.t (.i _ _))
  · rename_i n e ht
    cases h
    exact .same (by simp [Builtin.len_, h0, run_underlying ht]; rfl) hs (.t (.i _ _))
  · cases h

/- numbers, texts, bools -/
def aarith (op : BinOp) (k : IntKind) (a b : Int) : Option AV :=
  match op with
  | .add => some (.i k (k.wrap (a + b)))
  | .sub => some (.i k (k.wrap (a - b)))
  | .mul => some (.i k (k.wrap (a * b)))
  | .quo => if b = 0 then none else some (.i k (k.wrap (a.tdiv b)))
  | .rem => if b = 0 then none else some (.i k (a.tmod b))
  | .xor => some (.i k (k.wrap (BitVec.ofInt k.bits a ^^^ BitVec.ofInt k.bits b).toNat))
  | .eql => some (.b (decide (a = b)))
  | .neq => some (.b (!decide (a = b)))
  | .lss => some (.b (decide (a < b)))
  | .leq => some (.b (decide (a ≤ b)))
  | .gtr => some (.b (decide (b < a)))
  | .geq => some (.b (decide (b ≤ a)))
  | _ => none
def astr (op : BinOp) (a b : ByteArray) : Option AV :=
  match op with
  | .add => if a.size + b.size ≤ 4611686018427387904 then some (.s (a ++ b)) else none
  | .eql => some (.b (decide (a = b)))
  | .neq => some (.b (!decide (a = b)))
  | _ => none
def abin (P : Program) (op : BinOp) (t : TypeId) (x y : AV) : Option AV :=
  match x, y with
  | .i k a, .i k' b => if k = k' then aarith op k a b else none
  | .s a, .s b => astr op a b
  | .b a, .b b => match op, P.underlying t with
    | .eql, some .bool => some (.b (a == b))
    | .neq, some .bool => some (.b (!(a == b)))
    | _, _ => none
  | .nf, .nf => match op, P.underlying t with
    | .eql, some (.func ..) => some (.b true)
    | .neq, some (.func ..) => some (.b false)
    | _, _ => none
  | .fn _ _, .nf => match op, P.underlying t with
    | .eql, some (.func ..) => some (.b false)
    | .neq, some (.func ..) => some (.b true)
    | _, _ => none
  | _, _ => none

theorem guard_skip {op : BinOp} {t : TypeId} {x y : Operand} {a b : Value} (h1 : (a matches .nilIface) = false) (h2 : (a matches .agg _) = false) : (eqGuard op t x y a b).run P w = .ok () w := by
  unfold eqGuard
  cases a <;> first
    | (exact Bool.noConfusion h1)
    | (exact Bool.noConfusion h2)
    | (split <;> rfl)

theorem aarith_run {op : BinOp} {t : TypeId} {k : IntKind} {a b : Int} {av : AV} (hs : Sim M ρ H w) (h : aarith op k a b = some av) : GoodV M ρ H w av H ((binOp op t (.int k a) (.int k b)).run P w) := by
  unfold aarith at h
  cases op
  case lss => cases h; exact .same (v := .bool (decide (a < b))) (by simp [binOp, Op.intCmp]) hs (.t (.b _))
  case leq => cases h; exact .same (v := .bool (decide (a ≤ b))) (by simp [binOp, Op.intCmp]) hs (.t (.b _))
  case gtr => cases h; exact .same (v := .bool (decide (b < a))) (by simp [binOp, Op.intCmp]) hs (.t (.b _))
  case geq => cases h; exact .same (v := .bool (decide (b ≤ a))) (by simp [binOp, Op.intCmp]) hs (.t (.b _))
  case eql => cases h; exact .same (v := .bool (decide (a = b))) (by simp [binOp, Op.intCmp]; rfl) hs (.t (.b _))
  case neq => cases h; exact .same (v := .bool (!decide (a = b))) (by simp [binOp, Op.intCmp]; rfl) hs (.t (.b _))
  case quo =>
    by_cases hb : b = 0
    · simp [hb] at h
    · simp only [hb, if_false] at h; cases h; exact .same (v := .int k (k.wrap (a.tdiv b))) (by simp [binOp, Op.intDiv, hb]) hs (.t (.i _ _))
  case rem =>
    by_cases hb : b = 0
    · simp [hb] at h
    · simp only [hb, if_false] at h; cases h; exact .same (v := .int k (a.tmod b)) (by simp [binOp, Op.intDiv, hb]) hs (.t (.i _ _))
  case xor => cases h; exact .same (v := .int k (k.wrap (BitVec.ofInt k.bits a ^^^ BitVec.ofInt k.bits b).toNat)) (by simp [binOp, Op.intBits]) hs (.t (.i _ _))
  case add => cases h; exact .same (v := .int k (k.wrap (a + b))) (by simp [binOp, Op.intArith]) hs (.t (.i _ _))
  case sub => cases h; exact .same (v := .int k (k.wrap (a - b))) (by simp [binOp, Op.intArith]) hs (.t (.i _ _))
  case mul => cases h; exact .same (v := .int k (k.wrap (a * b))) (by simp [binOp, Op.intArith]) hs (.t (.i _ _))
  all_goals cases h

theorem astr_run {op : BinOp} {t : TypeId} {a b : ByteArray} {av : AV} (hs : Sim M ρ H w) (h : astr op a b = some av) : GoodV M ρ H w av H ((binOp op t (.string a) (.string b)).run P w) := by
  unfold astr at h
  cases op
  case add =>
    by_cases hb : a.size + b.size ≤ 4611686018427387904
    · simp only [hb, if_true] at h
      cases h
      have hm : IntKind.i64.max = 9223372036854775807 := by decide
      have : ¬ IntKind.i64.max < (a.size : Int) + b.size := by omega
      exact .same (v := .string (a ++ b)) (by simp [binOp, Op.stringOp, this]; omega) hs (.t (.s _))
    · simp [hb] at h
  case eql => cases h; exact .same (v := .bool (decide (a = b))) (by simp [binOp, Op.stringOp, str_eq]) hs (.t (.b _))
  case neq => cases h; exact .same (v := .bool (!decide (a = b))) (by simp [binOp, Op.stringOp, str_eq]) hs (.t (.b _))
  all_goals cases h

theorem eqIn_bool {t : TypeId} (d : Nat) (a b : Bool) (ht : P.underlying t = some .bool) (w : World) : (Op.equalIn (d + 1) t (.bool a) (.bool b)).run P w = .ok (a == b) w := by
  simp only [Op.equalIn, Sem.run_bind, run_underlying ht, Result.andThen_ok]; rfl
theorem eqIn_nf {t : TypeId} (d : Nat) {x y : Array TypeId} {z : Bool} (ht : P.underlying t = some (.func x y z)) (w : World) : (Op.equalIn (d + 1) t .nilFunc .nilFunc).run P w = .ok true w := by
  simp only [Op.equalIn, Sem.run_bind, run_underlying ht, Result.andThen_ok]; rfl
theorem eqIn_fn {t : TypeId} (d : Nat) {x y : Array TypeId} {z : Bool} (ht : P.underlying t = some (.func x y z)) (f : Fn) (p q : Array Value) (w : World) : (Op.equalIn (d + 1) t (.func f p q) .nilFunc).run P w = .ok false w := by
  simp only [Op.equalIn, Sem.run_bind, run_underlying ht, Result.andThen_ok]; rfl

theorem eql_run {t : TypeId} {v u : Value} {r : Bool} (hb : binOp .eql t v u = (do pure (.bool (← Op.equal t v u)))) (h : ∀ d, (Op.equalIn (d + 1) t v u).run P w = .ok r w) (hs : Sim M ρ H w) :
    GoodV M ρ H w (.b r) H ((binOp .eql t v u).run P w) := by
  refine .same (v := .bool r) ?_ hs (.t (.b _))
  rw [hb]
  have := h 9999
  simp only [Op.equal, Op.maxDepth, Sem.run_bind, this, Result.andThen_ok]
  rfl
theorem neq_run {t : TypeId} {v u : Value} {r : Bool} (hb : binOp .neq t v u = (do pure (.bool (!(← Op.equal t v u))))) (h : ∀ d, (Op.equalIn (d + 1) t v u).run P w = .ok r w) (hs : Sim M ρ H w) :
    GoodV M ρ H w (.b !r) H ((binOp .neq t v u).run P w) := by
  refine .same (v := .bool !r) ?_ hs (.t (.b _))
  rw [hb]
  have := h 9999
  simp only [Op.equal, Op.maxDepth, Sem.run_bind, this, Result.andThen_ok]
  rfl

theorem GoodV.seq {av : AV} {H' : Hp} {g : Sem Unit} {s : Sem Value} (hg : g.run P w = .ok () w) (h : GoodV M ρ H w av H' (s.run P w)) : GoodV M ρ H w av H' ((do g; s : Sem Value).run P w) := by
  simpa only [Sem.run_bind, hg, Result.andThen_ok] using h

theorem abin_run {op : BinOp} {t : TypeId} {x y av : AV} {p q : Operand} {v u : Value} (hs : Sim M ρ H w) (h : abin P op t x y = some av) (hv : V M ρ H x v) (hu : V M ρ H y u) :
    GoodV M ρ H w av H ((do eqGuard op t p q v u; binOp op t v u : Sem Value).run P w) := by
  unfold abin at h
  split at h
  · rename_i k a k' b
    obtain rfl := hv.inv_i
    obtain rfl := hu.inv_i
    split at h
    · rename_i hk
      subst hk
      exact .seq (guard_skip rfl rfl) (aarith_run hs h)
    · cases h
  · obtain rfl := hv.inv_s
    obtain rfl := hu.inv_s
    exact .seq (guard_skip rfl rfl) (astr_run hs h)
  · obtain rfl := hv.inv_b
    obtain rfl := hu.inv_b
    refine .seq (guard_skip rfl rfl) ?_
    split at h
    · rename_i ht
      cases h
      exact eql_run rfl (fun d => eqIn_bool d _ _ ht w) hs
    · rename_i ht
      cases h
      exact neq_run rfl (fun d => eqIn_bool d _ _ ht w) hs
    · cases h
  · obtain rfl := hv.inv_nf
    obtain rfl := hu.inv_nf
    refine .seq (guard_skip rfl rfl) ?_
    split at h
    · rename_i ht
      cases h
      exact eql_run rfl (fun d => eqIn_nf d ht w) hs
    · rename_i ht
      cases h
      exact neq_run rfl (fun d => eqIn_nf d ht w) hs
    · cases h
  · obtain ⟨vs, rfl, _⟩ := hv.inv_fn
    obtain rfl := hu.inv_nf
    refine .seq (guard_skip rfl rfl) ?_
    split at h
    · rename_i ht
      cases h
      exact eql_run rfl (fun d => eqIn_fn d ht _ _ _ w) hs
    · rename_i ht
      cases h
      exact neq_run rfl (fun d => eqIn_fn d ht _ _ _ w) hs
    · cases h
  · cases h

def aun (op : UnOp) (x : AV) : Option AV :=
  match op, x with
  | .not, .b a => some (.b (!a))
  | .neg, .i k n => some (.i k (k.wrap (0 - n)))
  | _, _ => none
theorem aun_run {op : UnOp} {x av : AV} {v : Value} (hs : Sim M ρ H w) (h : aun op x = some av) (hv : V M ρ H x v) : GoodV M ρ H w av H ((Op.unary op v).run P w) := by
  unfold aun at h
  split at h
  · cases h
    obtain rfl := hv.inv_b
    exact .same (by simp [Op.unary]) hs (.t (.b _))
  · cases h
    obtain rfl := hv.inv_i
    exact .same (v := .int _ _) (by simp only [Op.unary, Op.intArith]; rfl) hs (.t (.i _ _))
  · cases h
end
end Go.Proofs.Ytpdpmcllpafjbaa

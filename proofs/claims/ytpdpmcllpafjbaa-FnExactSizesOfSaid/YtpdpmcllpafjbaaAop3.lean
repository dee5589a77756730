/- Words of this seat's proofs: slices made, cut and extended; all operations together. No program is named here. -/
import Derived.Test.YtpdpmcllpafjbaaAop2
namespace Go.Proofs.Ytpdpmcllpafjbaa
open Go.RowKit
set_option linter.unusedVariables false
set_option linter.unusedSimpArgs false

section
variable {P : Program} {M : Mem} {ρ : Nat → Nat × Nat} {H : Hp} {w : World}

/- cutting -/
def abnd (x : Option AV) (d : Int) : Option Int :=
  match x with
  | none => some d
  | some (.i _ n) => some n
  | _ => none
def aslice (P : Program) (H : Hp) (t : TypeId) (x : AV) (lo hi : Option AV) : Option AV :=
  match P.underlying t, x with
  | some .string, .s y => match abnd lo 0, abnd hi y.size with
    | some l, some h => if 0 ≤ l ∧ l ≤ h ∧ h ≤ y.size then some (.s (y.extract l.toNat h.toNat)) else none
    | _, _ => none
  | some (.slice e), .is sz es => match abnd lo 0, abnd hi es.length with
    | some l, some h => if tsz P e = some sz ∧ 0 ≤ l ∧ l ≤ h ∧ h ≤ es.length then some (.is sz ((es.take h.toNat).drop l.toNat)) else none
    | _, _ => none
  | some (.slice e), .os b ver len => match lo, abnd hi len, tsz P e with
    | none, some h, some _ => if cur H b ver = true ∧ 0 ≤ h ∧ h ≤ len then some (.os b ver h.toNat) else none
    | _, _, _ => none
  | some (.slice e), .ns => match abnd lo 0, abnd hi 0, tsz P e with
    | some 0, some 0, some _ => some .ns
    | _, _, _ => none
  | _, _ => none

def okB (x : Option Value) (a : Option AV) : Prop := match x, a with
  | none, none => True
  | some v, some a => ∃ k n, v = .int k n ∧ a = .i k n
  | _, _ => False

theorem bounds_run {lo hi : Option Value} {alo ahi : Option AV} {isS : Bool} {len cap : Nat} {l h : Int} (h1 : okB lo alo) (h2 : okB hi ahi) (hl : abnd alo 0 = some l) (hh : abnd ahi len = some h)
    (c0 : 0 ≤ l) (c1 : l ≤ h) (c2 : h ≤ len) (c3 : len ≤ cap) : (Instr.sliceBounds isS len cap lo hi none).run P w = .ok (l.toNat, h.toNat, cap) w := by
  have e0 : 0 ≤ h := by omega
  have e1 : h ≤ (cap : Int) := by omega
  have e2 : l ≤ ((h.toNat : Nat) : Int) := by omega
  cases lo with
  | none =>
    cases alo with
    | some a => exact h1.elim
    | none =>
      simp [abnd] at hl
      subst hl
      cases hi with
      | none =>
        cases ahi with
        | some a => exact h2.elim
        | none => simp [abnd] at hh; subst hh; simp [Instr.sliceBounds]
      | some v =>
        cases ahi with
        | none => exact h2.elim
        | some a =>
          obtain ⟨k, n, rfl, rfl⟩ := h2
          simp [abnd] at hh
          subst hh
          simp [Instr.sliceBounds, run_sliceBound, e0, e1]
  | some v =>
    cases alo with
    | none => exact h1.elim
    | some a =>
      obtain ⟨k, n, rfl, rfl⟩ := h1
      simp [abnd] at hl
      subst hl
      cases hi with
      | none =>
        cases ahi with
        | some a => exact h2.elim
        | none =>
          simp [abnd] at hh
          subst hh
          have : n ≤ ((len : Nat) : Int) := c1
          simp [Instr.sliceBounds, run_sliceBound, c0, this]
      | some v =>
        cases ahi with
        | none => exact h2.elim
        | some a =>
          obtain ⟨k, n, rfl, rfl⟩ := h2
          simp [abnd] at hh
          subst hh
          simp only [Instr.sliceBounds, Sem.run_bind, Sem.run_pure, Result.andThen_ok, run_sliceBound _ _ _ _ _ e0 e1, run_sliceBound _ _ _ _ _ c0 e2]

theorem okB_of {env : Operand → Value} {f : Operand → AV} (hf : ∀ x, V M ρ H (f x) (env x)) (lo : Option Operand) (d : Int) (h : (abnd (lo.map f) d).isSome = true) : okB (lo.map env) (lo.map f) := by
  cases lo with
  | none => trivial
  | some x =>
    simp only [Option.map_some] at h ⊢
    have hx := hf x
    generalize f x = a at *
    cases a with
    | i k n => obtain h1 := hx.inv_i; exact ⟨k, n, h1, rfl⟩
    | _ => simp [abnd] at h

theorem aslice_run {t : TypeId} {x av : AV} {v : Value} {env : Operand → Value} {f : Operand → AV} (hf : ∀ x, V M ρ H (f x) (env x)) (lo hi : Option Operand) (hs : Sim M ρ H w)
    (h : aslice P H t x (lo.map f) (hi.map f) = some av) (hv : V M ρ H x v) : GoodV M ρ H w av H ((Instr.sliceAt t v (lo.map env) (hi.map env) none).run P w) := by
  unfold aslice at h
  split at h
  · rename_i y ht
    obtain rfl := hv.inv_s
    split at h
    · rename_i l hh e1 e2
      split at h
      · rename_i hc
        cases h
        have hb := bounds_run (P := P) (w := w) (isS := false) (len := y.size) (cap := y.size) (okB_of hf lo 0 (by rw [e1]; rfl)) (okB_of hf hi _ (by rw [e2]; rfl)) e1 e2 hc.1 hc.2.1 hc.2.2 (Nat.le_refl _)
        refine .same (v := .string (y.extract l.toNat hh.toNat)) ?_ hs (.t (.s _))
        simp [Instr.sliceAt, Instr.slice, run_underlying ht, hb]
      · cases h
    · cases h
  · rename_i e sz es ht
    obtain ⟨A, cap, rfl, hle, hcap, hrest⟩ := hv.inv_is
    split at h
    · rename_i l hh e1 e2
      split at h
      · rename_i hc
        obtain ⟨hsz, c0, c1, c2⟩ := hc
        cases h
        have hb := bounds_run (P := P) (w := w) (isS := true) (len := es.length) (cap := cap) (okB_of hf lo 0 (by rw [e1]; rfl)) (okB_of hf hi _ (by rw [e2]; rfl)) e1 e2 c0 c1 c2 hle
        refine .same (v := .slice (if cap = l.toNat then A else A.map (·.add (l.toNat * sz))) (hh.toNat - l.toNat) (cap - l.toNat)) ?_ hs (.t ?_)
        · simp [Instr.sliceAt, Instr.slice, run_underlying ht, hb, tsz_run hsz w]
        · have hlen : ((es.take hh.toNat).drop l.toNat).length = hh.toNat - l.toNat := by simp; omega
          by_cases h0 : hh.toNat - l.toNat = 0
          · have : (es.take hh.toNat).drop l.toNat = [] := List.eq_nil_of_length_eq_zero (by omega)
            rw [this, h0]
            exact .is0 _ _ _ (by omega)
          · rcases hrest with rfl | ⟨us, g, o, cs, el, fz, rfl, h1, h2, h3, h4, h5⟩
            · simp at hlen; omega
            · rw [if_neg (by omega), ← hlen]
              simp only [Option.map_some, add_none]
              have hfl : ∀ (n : Nat) (zs : List (List AV)), (∀ e ∈ zs, e.length = sz) → (zs.take n).flatten = zs.flatten.take (n * sz) ∧ (zs.drop n).flatten = zs.flatten.drop (n * sz) := by
                intro n
                induction n with
                | zero => intro zs _; simp
                | succ n ih =>
                  intro zs hz
                  cases zs with
                  | nil => simp
                  | cons z zs =>
                    obtain ⟨i1, i2⟩ := ih zs (fun x hx => hz x (by simp [hx]))
                    have hz0 := hz z (by simp)
                    simp only [List.take_succ_cons, List.drop_succ_cons, List.flatten_cons, i1, i2]
                    have e3 : (n + 1) * sz = z.length + n * sz := by rw [Nat.add_mul]; omega
                    rw [e3]
                    exact ⟨by rw [List.take_length_add_append], by rw [List.drop_length_add_append]⟩
              have hT : ∀ e ∈ es.take hh.toNat, e.length = sz := fun e he => h2 e (List.mem_of_mem_take he)
              have hF : ((es.take hh.toNat).drop l.toNat).flatten = (es.flatten.take (hh.toNat * sz)).drop (l.toNat * sz) := by rw [(hfl _ _ hT).2, (hfl _ _ h2).1]
              refine .is (us := (us.take (hh.toNat * sz)).drop (l.toNat * sz)) h1 (fun e he => hT e (List.mem_of_mem_drop he)) (by omega) (by omega) (by rw [hF]; simp [h3]) (fun j h6 h7 => ?_) fun j h6 => ?_
              · simp only [hF, List.getElem_drop, List.getElem_take]
                exact h4 _ _ _
              · simp only [List.getElem_drop, List.getElem_take]
                rw [Nat.add_assoc]
                exact h5 _ _
      · cases h
    · cases h
  · rename_i e b ver len ht
    split at h
    · rename_i hh sz e0 e2 hsz
      split at h
      · rename_i hc
        obtain ⟨hcu, c1, c2⟩ := hc
        cases h
        have hlo : lo = none := by cases lo <;> simp at e0 ⊢
        subst hlo
        obtain ⟨blk, hb, he⟩ := cur_of hcu
        obtain ⟨rfl, hle⟩ := hv.inv_os hb he
        have hbd := bounds_run (P := P) (w := w) (isS := true) (len := len) (cap := (ρ b).2) (lo := none) (alo := none) (l := 0) trivial (okB_of hf hi _ (by rw [e2]; rfl)) rfl e2 (by omega) c1 c2 hle
        refine .same (v := .slice (some ⟨(ρ b).1, 0, none⟩) hh.toNat (ρ b).2) ?_ hs (.os hb (Nat.le_of_eq he) rfl fun _ => ⟨rfl, by omega⟩)
        simp [Instr.sliceAt, Instr.slice, run_underlying ht, hbd, tsz_run hsz w, Addr.add]
      · cases h
    · cases h
  · rename_i e ht
    split at h
    · rename_i sz e0 e2 hsz
      cases h
      obtain rfl := hv.inv_ns
      have hbd := bounds_run (P := P) (w := w) (isS := true) (len := 0) (cap := 0) (okB_of hf lo 0 (by rw [e0]; rfl)) (okB_of hf hi 0 (by rw [e2]; rfl)) e0 e2 (by omega) (by omega) (by omega) (Nat.le_refl _)
      refine .same (v := .slice none 0 0) ?_ hs (.t .ns)
      simp [Instr.sliceAt, Instr.slice, run_underlying ht, hbd, tsz_run hsz w]
    · cases h
  · cases h

/- making -/
theorem rep_get {zc : List AV} {n j : Nat} (h : j < n * zc.length) : ∃ h2 : j < (List.replicate n zc).flatten.length, ∃ h3 : j % zc.length < zc.length, (List.replicate n zc).flatten[j] = zc[j % zc.length] := by
  have hz : 0 < zc.length := by
    rcases Nat.eq_zero_or_pos zc.length with h0 | h0
    · rw [h0] at h; omega
    · exact h0
  have hd : j / zc.length < n := Nat.div_lt_of_lt_mul (by rw [Nat.mul_comm]; exact h)
  have hm : j % zc.length < zc.length := Nat.mod_lt _ hz
  obtain ⟨h1, h2, h3⟩ := flat_get (List.replicate n zc) zc.length (fun e he => by rw [List.eq_of_mem_replicate he]) (j / zc.length) (j % zc.length) (by simpa using hd) hm
  have e : j / zc.length * zc.length + j % zc.length = j := by rw [Nat.mul_comm]; exact Nat.div_add_mod j _
  simp only [e] at h1 h2
  refine ⟨h1, hm, ?_⟩
  rw [h2]
  simp [hm]
theorem rep_len (zc : List AV) (n : Nat) : (List.replicate n zc).flatten.length = n * zc.length := by simp

theorem made_full {z : Value} {n : Nat} (hz : (absV z).solid = true) : Full M ρ H (List.replicate n (absV z).cells).flatten (madeCells z.cells (n * z.cells.size)) := by
  obtain ⟨h1, h2⟩ := (V.t (ρ := ρ) (H := H) (absV_T M z)).cellsOf hz
  refine ⟨by rw [rep_len, size_madeCells, h1], by rw [rep_len, size_madeCells, h1]; exact Nat.le_refl _, fun j h3 h4 => ?_⟩
  rw [rep_len] at h3
  obtain ⟨h5, h6, h7⟩ := rep_get h3
  rw [h7]
  have h8 : j % z.cells.size < z.cells.size := by rw [← h1]; exact h6
  have e : (madeCells z.cells (n * z.cells.size))[j] = z.cells[j % z.cells.size] := by simp [madeCells, h8]
  rw [e]
  have := h2.2 (j % (absV z).cells.length) h6 (by rw [h1]; exact h8)
  simp only [h1] at this ⊢
  exact this

def amake (P : Program) (H : Hp) (key : Nat) (t : TypeId) (l c : AV) : Option (AV × Hp) :=
  match P.underlying t, l, c with
  | some (.slice e), .i _ n, .i _ m => match tinfo P e with
    | some (z, sz, by_) => if n = m ∧ 0 ≤ n ∧ n * by_ ≤ 281474976710656 ∧ n ≤ 281474976710656 ∧ (absV z).solid = true ∧ (absV z).cells.length = sz ∧ 0 < sz then
        some (.os key (nv H key) n.toNat, upd H key (some ⟨nv H key, e, sz, (List.replicate n.toNat (absV z).cells).flatten⟩)) else none
    | none => none
  | _, _, _ => none
theorem amake_run {key : Nat} {t : TypeId} {l c av : AV} {lv cv : Value} {H' : Hp} (hs : Sim M ρ H w) (h : amake P H key t l c = some (av, H')) (hl : V M ρ H l lv) (hc : V M ρ H c cv) :
    GoodV M ρ H w av H' ((Instr.makeSlice t lv cv).run P w) := by
  unfold amake at h
  split at h
  · rename_i e kl n kc m ht
    obtain rfl := hl.inv_i
    obtain rfl := hc.inv_i
    split at h
    · rename_i z sz by_ hi
      split at h
      · rename_i hcond
        obtain ⟨rfl, h0, hby, h63, hso, hzs, hpos⟩ := hcond
        cases h
        obtain ⟨i, hi1, hi2, rfl, rfl⟩ := tinfo_some hi
        have hzc := ((V.t (ρ := ρ) (H := H) (absV_T M z)).cellsOf hso).1
        have hr := run_make (P := P) w t e i z ht hi1 hi2 kl kc n n h0 (Int.le_refl _) (by rw [Int.mul_comm]; exact hby) (by omega)
        have hfull := made_full (M := M) (ρ := ρ) (H := H) (n := n.toNat) hso
        have e1 : z.cells.size = i.size := by omega
        rw [e1] at hfull
        exact alloc_good (cap := n.toNat) hs hfull.2 hr (.inr (by rw [size_madeCells])) (by unfold maxLen; omega) (.inr ⟨_, rfl, rfl, Nat.le_refl _⟩)
      · cases h
    · cases h
  · cases h

def abuildSlice (P : Program) (H : Hp) (key : Nat) (t : TypeId) (len : Nat) (parts : List (Nat × AV)) : Option (AV × Hp) :=
  match P.underlying t with
  | some (.slice e) => match tinfo P e with
    | some (z, sz, _) => if len * sz ≤ 16777216 ∧ 0 < sz ∧ (absV z).solid = true ∧ (absV z).cells.length = sz then
        (afill (fun i => some (i * sz, sz)) (List.replicate len (absV z).cells).flatten parts).map fun cells => (.os key (nv H key) len, upd H key (some ⟨nv H key, e, sz, cells⟩)) else none
    | none => none
  | _ => none
theorem fill_size {place : Nat → Option (Nat × Nat)} : ∀ (parts : List (Nat × Value)) (cs cs' : Array Value), Instr.fill place cs parts = some cs' → cs'.size = cs.size := by
  intro parts
  induction parts with
  | nil => intro cs cs' h; simp [Instr.fill] at h; rw [h]
  | cons p parts ih =>
    intro cs cs' h
    obtain ⟨i, v⟩ := p
    simp only [Instr.fill] at h
    split at h
    · cases h
    · rename_i off size hp
      split at h
      · cases h
      · have h1 := ih _ _ h
        rw [h1]
        rw [← Array.foldl_toList]
        have : ∀ (l : List (Value × Nat)) (c : Array Value), (l.foldl (fun (cs : Array Value) (p : Value × Nat) => cs.setIfInBounds (off + p.2) p.1) c).size = c.size := by
          intro l
          induction l with
          | nil => intro c; rfl
          | cons x l ih => intro c; rw [List.foldl_cons, ih]; simp
        exact this _ _

theorem abuildSlice_run {key : Nat} {t : TypeId} {len : Nat} {env : Operand → Value} {f : Operand → AV} (hf : ∀ x, V M ρ H (f x) (env x)) {parts : Array (Nat × Operand)} {av : AV} {H' : Hp} (hs : Sim M ρ H w)
    (h : abuildSlice P H key t len (parts.toList.map fun p => (p.1, f p.2)) = some (av, H')) : GoodV M ρ H w av H' ((Instr.buildSlice t len (parts.map fun p => (p.1, env p.2))).run P w) := by
  unfold abuildSlice at h
  split at h
  · rename_i e ht
    split at h
    · rename_i z sz by_ hi
      split at h
      · rename_i hcond
        obtain ⟨h24, hpos, hso, hzs⟩ := hcond
        obtain ⟨i, hi1, hi2, rfl, rfl⟩ := tinfo_some hi
        have hzc := ((V.t (ρ := ρ) (H := H) (absV_T M z)).cellsOf hso).1
        have hfull := made_full (M := M) (ρ := ρ) (H := H) (n := len) hso
        have e1 : z.cells.size = i.size := by omega
        rw [e1] at hfull
        cases ha : afill (fun j => some (j * i.size, i.size)) (List.replicate len (absV z).cells).flatten (parts.toList.map fun p => (p.1, f p.2)) with
        | none => simp [ha] at h
        | some cells =>
          simp only [ha, Option.map_some, Option.some.injEq, Prod.mk.injEq] at h
          obtain ⟨rfl, rfl⟩ := h
          obtain ⟨cs, hc1, hc2⟩ := afill_run hf parts.toList _ _ _ hfull ha
          have hsz := fill_size _ _ _ hc1
          rw [size_madeCells] at hsz
          refine alloc_good (cap := len) (cs := cs) (e := e) (v := .slice (some ⟨w.heap.size, 0, none⟩) len len) hs hc2.2 ?_ (.inr hsz) ?_ (.inr ⟨len, rfl, rfl, Nat.le_refl _⟩)
          · have h24' : ¬ 2 ^ 24 < len * i.size := by simp; omega
            by_cases h0 : len * i.size = 0
            · have e2 : madeCells z.cells (len * i.size) = #[] := by rw [h0]; simp [madeCells]
              rw [e2] at hc1
              have e3 : ∀ z' : Array Value, (Array.range 0).map (z'[· % z'.size]!) = #[] := fun z' => by simp
              have e4 : ¬ (0 > 2 ^ 24) := by decide
              simp only [Instr.buildSlice, Sem.run_bind, run_underlying ht, Result.andThen_ok, sizeOf, typeInfo, run_program, hi1, Sem.run_pure, h0, e4, if_false, if_true, e3, Sem.run_ite, Array.toList_map, hc1, newRow, run_newObj, World.alloc_eq]
            · have e2 : (Array.range (len * i.size)).map (z.cells[· % z.cells.size]!) = madeCells z.cells (len * i.size) := rfl
              simp only [Instr.buildSlice, Sem.run_bind, run_underlying ht, Result.andThen_ok, sizeOf, typeInfo, run_program, hi1, Sem.run_pure, h24', if_false, h0, zeroValue, hi2, Sem.run_ite, e2, Array.toList_map, hc1, newRow, run_newObj, World.alloc_eq]
          · have : len ≤ len * i.size := Nat.le_mul_of_pos_right _ hpos
            unfold maxLen; omega
      · cases h
    · cases h
  · cases h
end
end Go.Proofs.Ytpdpmcllpafjbaa

/- Words of this seat's proofs: append; all operations together. No program is named here. -/
import Derived.Test.YtpdpmcllpafjbaaAop3
namespace Go.Proofs.Ytpdpmcllpafjbaa
open Go.RowKit
set_option linter.unusedVariables false
set_option linter.unusedSimpArgs false

section
variable {P : Program} {M : Mem} {ρ : Nat → Nat × Nat} {H : Hp} {w : World}

/-- What is appended: its cells, and how many elements. -/
def asrc (H : Hp) (sz : Nat) (y : AV) : Option (List AV × Nat) :=
  match y with
  | .ns => some ([], 0)
  | .is s es => if s = sz then some (es.flatten, es.length) else none
  | .os b ver len => match H b with
    | some blk => if ver = blk.ver ∧ len * sz ≤ blk.cells.length then some (blk.cells.take (len * sz), len) else none
    | none => none
  | _ => none

def aappend (P : Program) (H : Hp) (key : Nat) (t : TypeId) (x y : AV) : Option (AV × Hp) :=
  match P.underlying t with
  | some (.slice e) => match tinfo P e with
    | some (z, sz, by_) => match asrc H sz y with
      | some (ys, m) => if z.cells.size = sz ∧ 0 < sz ∧ ys.all AV.one = true then match x with
        | .ns => if m = 0 then some (.ns, H) else if m * by_ ≤ 140737488355328 ∧ m ≤ 140737488355328 then some (.os key (nv H key) m, upd H key (some ⟨nv H key, e, sz, ys⟩)) else none
        | .os b ver len => match H b with
          | some blk => if ver = blk.ver ∧ blk.sz = sz ∧ blk.e = e ∧ len * sz ≤ blk.cells.length ∧ (len + m) * by_ ≤ 140737488355328 ∧ len + m ≤ 140737488355328 then
              some (.os b (ver + 1) (len + m), upd H b (some ⟨ver + 1, e, sz, blk.cells.take (len * sz) ++ ys⟩)) else none
          | none => none
        | _ => none
        else none
      | none => none
    | none => none
  | _ => none

/-- The cells that a source lays before an append: nothing, or a row of them. -/
theorem asrc_run {sz : Nat} {y : AV} {u : Value} {ys : List AV} {m : Nat} (hs : Sim M ρ H w) (h : asrc H sz y = some (ys, m)) (hu : V M ρ H y u) :
    ∃ A c, u = .slice A m c ∧ ys.length = m * sz ∧ ((m = 0 ∧ A = none) ∨ ∃ a : Addr, A = some a ∧ ∃ news : List Value, news.length = m * sz ∧
      (∀ (j : Nat) (h1 : j < ys.length) (h2 : j < news.length), V M ρ H ys[j] news[j]) ∧ ((∀ j u, news[j]? = some u → w.cell? (a.add j) = some u))) := by
  unfold asrc at h
  split at h
  · cases h
    obtain rfl := hu.inv_ns
    exact ⟨none, 0, rfl, by simp, .inl ⟨rfl, rfl⟩⟩
  · rename_i s es
    split at h
    · rename_i hsz
      subst hsz
      cases h
      obtain ⟨A, cap, rfl, hle, hcap, hrest⟩ := hu.inv_is
      rcases hrest with rfl | ⟨us, g, o, cs, el, fz, rfl, h1, h2, h3, h4, h5⟩
      · refine ⟨A, cap, rfl, by simp, ?_⟩
        cases A with
        | none => exact .inl ⟨rfl, rfl⟩
        | some a => exact .inr ⟨a, rfl, [], by simp, fun j h1 => by simp at h1, fun j u hj => by simp at hj⟩
      · refine ⟨_, cap, rfl, flat_len es s h2, .inr ⟨_, rfl, us, by rw [← h3, flat_len es s h2], fun j h6 h7 => .t (h4 j h6 h7), fun j u hj => ?_⟩⟩
        obtain ⟨h6, rfl⟩ := List.getElem?_eq_some_iff.1 hj
        rw [add_none, cell_of (hs.mem g _ h1)]
        exact h5 j h6
    · cases h
  · rename_i b ver len
    split at h
    · rename_i blk hb
      split at h
      · rename_i hc
        obtain ⟨he, hle⟩ := hc
        cases h
        obtain ⟨rfl, hlen⟩ := hu.inv_os hb he
        obtain ⟨us, h1, h2, h3⟩ := Lies.own hs hb
        refine ⟨_, _, rfl, by simp; omega, .inr ⟨_, rfl, us.take (m * sz), by simp; omega, fun j h4 h5 => ?_, fun j u hj => ?_⟩⟩
        · simp only [List.getElem_take]; exact h2 _ _ _
        · rw [List.getElem?_take] at hj
          split at hj
          · obtain ⟨h6, rfl⟩ := List.getElem?_eq_some_iff.1 hj
            rw [add_none]; exact h3 j h6
          · cases hj
      · cases h
    · cases h
  · cases h

theorem Cells.of_take {as : List AV} {us : List Value} {cur : Array Value} (hl : as.length = us.length) (hv : ∀ (j : Nat) (h1 : j < as.length) (h2 : j < us.length), V M ρ H as[j] us[j]) (ht : cur.toList.take us.length = us) :
    Cells M ρ H as cur := by
  have h0 : us.length ≤ cur.size := by
    have := congrArg List.length ht
    simp at this; omega
  refine ⟨by omega, fun j h1 h2 => ?_⟩
  have h3 := hv j h1 (by omega)
  have : us[j]'(by omega) = cur[j] := by
    have h4 : us[j]? = cur.toList[j]? := by rw [← ht, List.getElem?_take, if_pos (by omega)]
    rw [List.getElem?_eq_getElem (by omega)] at h4
    simp [h2] at h4
    exact h4
  rw [this] at h3
  exact h3

theorem aappend_run {key : Nat} {t ty : TypeId} {x y av : AV} {v u : Value} {H' : Hp} (hs : Sim M ρ H w) (h : aappend P H key t x y = some (av, H')) (hv : V M ρ H x v) (hu : V M ρ H y u) :
    GoodV M ρ H w av H' ((Builtin.append_ #[t, t] ty #[v, u]).run P w) := by
  unfold aappend at h
  split at h
  · rename_i e ht
    split at h
    · rename_i z sz by_ hi
      obtain ⟨i, hi1, hi2, rfl, rfl⟩ := tinfo_some hi
      split at h
      · rename_i ys m hsrc
        split at h
        · rename_i hcond
          obtain ⟨hzs, hpos, hone⟩ := hcond
          obtain ⟨A, c, rfl, hyl, hA⟩ := asrc_run hs hsrc hu
          split at h
          · -- onto nil
            obtain rfl := hv.inv_ns
            rcases hA with ⟨rfl, rfl⟩ | ⟨a, rfl, news, hn1, hn2, hn3⟩
            · simp at h
              obtain ⟨rfl, rfl⟩ := h
              exact .same (v := .slice none 0 0) (by simp [Builtin.append_, run_underlying ht, sizeOf, typeInfo, hi1, Builtin.lenOf, Builtin.firstCells]) hs (.t .ns)
            · have hnone : ∀ q ∈ news, q.oneCell' = true := fun q hq => by
                obtain ⟨j, hj, rfl⟩ := List.getElem_of_mem hq
                exact (hn2 j (by omega) hj).one (List.all_eq_true.1 hone _ (List.getElem_mem (by omega)))
              by_cases hm : m = 0
              · subst hm
                simp at h
                obtain ⟨rfl, rfl⟩ := h
                refine .same (v := .slice none 0 0) ?_ hs (.t .ns)
                simp [Builtin.append_, run_underlying ht, sizeOf, typeInfo, hi1, Builtin.lenOf, Builtin.firstCells, loadCells, loadCellsFrom]
              · simp only [hm, if_false] at h
                split at h
                · rename_i hb
                  cases h
                  obtain ⟨v', w', hr, hown, hgr, hnil, hblk⟩ := run_append_own_at (P := P) w 0 t ty e i z i.size i.bytes ht hi1 hi2 rfl rfl hzs hpos (.slice none 0 0) 0 [] (World.ownsRow_nil w 0 e i.size) a m c news hn1 hn3 hnone (by unfold maxLen; omega) (by rw [Nat.zero_add]; exact hb.1) (Nat.zero_le _)
                  rcases hown.2 with ⟨rfl, h0⟩ | ⟨g, cap, cur, rfl, hbg, hg, hnc, hcm, hcs, htake⟩
                  · omega
                  · have hgw : g = w.heap.size := by
                      rcases hblk with h1 | h1
                      · simp [Value.ownBlock] at h1
                      · simpa [Value.ownBlock] using h1
                    subst hgw
                    obtain ⟨f1, f2⟩ := hs.fresh (Nat.le_refl w.heap.size)
                    have hput := Sim.put (w' := w') hs key w.heap.size cap ⟨nv H key, e, i.size, ys⟩ cur hg (fun k hk _ _ => hgr.block k hk (by simp [Value.ownBlock])) f1 (fun b2 k2 hb2 _ => f2 b2 k2 hb2)
                      (fun old ho => ⟨by have := nv_lt ho; show old.ver ≤ nv H key; omega, fun e1 => by have := nv_lt ho; have e2 : old.ver = nv H key := e1; omega⟩)
                      (Cells.of_take (us := news) (by show ys.length = news.length; omega) hn2 (by simp only [Nat.zero_add, List.nil_append] at htake; rw [hn1]; exact htake)) (.inr hcs) hcm
                    refine ⟨_, w', _, hr, hput.1, .os (upd_same _ _ _) (Nat.le_refl _) rfl fun _ => ?_, hput.2, ⟨hgr.os, hgr.tape, hgr.output, hgr.size⟩⟩
                    rw [upd_same]
                    exact ⟨by rw [Nat.zero_add], by simpa using hnc⟩
                · cases h
          · -- onto a row of its own
            rename_i b ver len
            split at h
            · rename_i blk hb
              split at h
              · rename_i hc
                obtain ⟨he, hbs, hbe, hlen, hby, h47⟩ := hc
                cases h
                obtain ⟨rfl, hlc⟩ := hv.inv_os hb he
                obtain ⟨cs, o1, o2, o3, o4, o5⟩ := hs.own b blk hb
                have hcsz : cs.size = (ρ b).2 * i.size := by
                  rcases o4 with o4 | o4
                  · omega
                  · rw [← hbs]; exact o4
                have hxs : (cs.toList.take (len * i.size)).length = len * i.size := by have := o3.1; simp; omega
                have hxv : ∀ (j : Nat) (h1 : j < (blk.cells.take (len * i.size)).length) (h2 : j < (cs.toList.take (len * i.size)).length), V M ρ H (blk.cells.take (len * i.size))[j] (cs.toList.take (len * i.size))[j] := fun j h1 h2 => by
                  simp only [List.getElem_take, Array.getElem_toList]
                  simp only [List.length_take, Array.length_toList] at h1 h2
                  exact o3.2 j (by omega) (by omega)
                have hown0 : w.ownsRow 0 e i.size (.slice (some ⟨(ρ b).1, 0, none⟩) len (ρ b).2) len (cs.toList.take (len * i.size)) :=
                  ⟨hxs, .inr ⟨(ρ b).1, (ρ b).2, cs, rfl, Nat.zero_le _, by rw [← hbe]; exact o1, hlc, o5, hcsz, rfl⟩⟩
                have inplace : ∀ (w' : World) (g cap : Nat) (cur : Array Value) (news : List Value), (g = (ρ b).1 ∨ g = w.heap.size) → w'.heap[g]? = some (.cells cur e (0, 0)) → w.grownBy w' (some (ρ b).1) → cap ≤ maxLen → cur.size = cap * i.size →
                    len + m ≤ cap → news.length = m * i.size → (∀ (j : Nat) (h1 : j < ys.length) (h2 : j < news.length), V M ρ H ys[j] news[j]) → cur.toList.take ((len + m) * i.size) = cs.toList.take (len * i.size) ++ news →
                    ∃ ρ', Sim M ρ' (upd H b (some ⟨ver + 1, e, i.size, blk.cells.take (len * i.size) ++ ys⟩)) w' ∧ V M ρ' (upd H b (some ⟨ver + 1, e, i.size, blk.cells.take (len * i.size) ++ ys⟩)) (.os b (ver + 1) (len + m)) (.slice (some ⟨g, 0, none⟩) (len + m) cap) ∧
                      Ext M ρ H M ρ' (upd H b (some ⟨ver + 1, e, i.size, blk.cells.take (len * i.size) ++ ys⟩)) := fun w' g cap cur news hgg hg hgr hcm hcs hnc hn1 hn2 htake => by
                  have hput := Sim.put (w' := w') hs b g cap ⟨ver + 1, e, i.size, blk.cells.take (len * i.size) ++ ys⟩ cur hg
                    (fun k hk hkg hold => hgr.block k hk (by have := hold blk hb; simpa using this))
                    (by
                      rcases hgg with rfl | rfl
                      · exact o2
                      · exact (hs.fresh (Nat.le_refl _)).1)
                    (fun b2 k2 hb2 hne e1 => by
                      rcases hgg with rfl | rfl
                      · exact hne (hs.inj _ _ _ _ hb2 hb e1)
                      · exact (hs.fresh (Nat.le_refl _)).2 b2 k2 hb2 e1)
                    (fun old ho => by rw [hb] at ho; cases ho; exact ⟨by show blk.ver ≤ ver + 1; omega, fun e1 => by have e2 : blk.ver = ver + 1 := e1; omega⟩)
                    (Cells.of_take (us := cs.toList.take (len * i.size) ++ news) (by rw [List.length_append, List.length_append, hxs, List.length_take]; omega) (fun j h1 h2 => by
                        simp only [List.getElem_append]
                        have e1 : (blk.cells.take (len * i.size)).length = (cs.toList.take (len * i.size)).length := by rw [hxs, List.length_take]; omega
                        by_cases hj : j < (cs.toList.take (len * i.size)).length
                        · simp only [e1, hj, dite_true]
                          exact hxv j (by rw [e1]; exact hj) hj
                        · simp only [e1, hj, dite_false]
                          exact hn2 _ _ _) (by rw [List.length_append, hxs, hn1, ← Nat.add_mul]; exact htake)) (.inr hcs) hcm
                  refine ⟨_, hput.1, .os (upd_same _ _ _) (Nat.le_refl _) rfl fun _ => ?_, hput.2⟩
                  rw [upd_same]
                  exact ⟨rfl, hnc⟩
                rcases hA with ⟨rfl, rfl⟩ | ⟨a, rfl, news, hn1, hn2, hn3⟩
                · have hys : ys = [] := List.eq_nil_of_length_eq_zero (by omega)
                  obtain ⟨ρ', k1, k2, k3⟩ := inplace w (ρ b).1 (ρ b).2 cs [] (.inl rfl) (by rw [← hbe]; exact o1) ⟨rfl, rfl, rfl, Nat.le_refl _, fun _ _ _ => rfl⟩ o5 hcsz (by omega) (by simp) (fun j _ h2 => by simp at h2) (by simp)
                  refine ⟨_, w, ρ', ?_, k1, k2, k3, .refl _⟩
                  simp [Builtin.append_, run_underlying ht, sizeOf, typeInfo, hi1, Builtin.lenOf, Builtin.firstCells, hlc, storeCells]
                · have hnone : ∀ q ∈ news, q.oneCell' = true := fun q hq => by
                    obtain ⟨j, hj, rfl⟩ := List.getElem_of_mem hq
                    exact (hn2 j (by omega) hj).one (List.all_eq_true.1 hone _ (List.getElem_mem (by omega)))
                  obtain ⟨v', w', hr, hown, hgr, hnil, hblk⟩ := run_append_own_at (P := P) w 0 t ty e i z i.size i.bytes ht hi1 hi2 rfl rfl hzs hpos _ len _ hown0 a m c news hn1 hn3 hnone (by unfold maxLen; omega) hby (Nat.zero_le _)
                  rcases hown.2 with ⟨h0, _⟩ | ⟨g, cap, cur, rfl, hbg, hg, hnc, hcm, hcs, htake⟩
                  · have := hnil.1 h0
                    simp at this
                  · have hgg : g = (ρ b).1 ∨ g = w.heap.size := by simpa [Value.ownBlock] using hblk
                    obtain ⟨ρ', k1, k2, k3⟩ := inplace w' g cap cur news hgg hg (by simpa [Value.ownBlock] using hgr) hcm hcs hnc hn1 hn2 htake
                    exact ⟨_, w', ρ', hr, k1, k2, k3, ⟨hgr.os, hgr.tape, hgr.output, hgr.size⟩⟩
              · cases h
            · cases h
          · cases h
        · cases h
      · cases h
    · cases h
  · cases h

/- a struct, or an array, by its parts -/
def tpl (P : Program) (t : TypeId) : Option (List (Nat × Nat)) :=
  match P.underlying t with
  | some (.struct fields) => fields.toList.mapM (fun f => (P.info? f.type).map fun i => (f.offset, i.size))
  | _ => none
def abuild (P : Program) (t : TypeId) (parts : List (Nat × AV)) : Option AV :=
  match P.underlying t, tinfo P t with
  | some (.struct fields), some (z, _, _) => match tpl P t with
    | some places => if (absV z).solid = true then (afill (places.toArray[·]?) (absV z).cells parts).map .agg else none
    | none => none
  | some (.array _ e), some (z, _, _) => match tsz P e with
    | some s => if (absV z).solid = true then (afill (fun i => some (i * s, s)) (absV z).cells parts).map .agg else none
    | none => none
  | _, _ => none

theorem full_agg {as : List AV} {cs : Array Value} (h : Full M ρ H as cs) : V M ρ H (.agg as) (.agg cs) := by
  have := V.agg (M := M) (ρ := ρ) (H := H) (cells := as) (vs := cs.toList) (by simpa using h.1) fun j h1 h2 => by simpa using h.2.2 j h1 (by simpa using h2)
  simpa using this

theorem abuild_run {t : TypeId} {env : Operand → Value} {f : Operand → AV} (hf : ∀ x, V M ρ H (f x) (env x)) {parts : Array (Nat × Operand)} {av : AV} (hs : Sim M ρ H w)
    (h : abuild P t (parts.toList.map fun p => (p.1, f p.2)) = some av) : GoodV M ρ H w av H ((Instr.build t (parts.map fun p => (p.1, env p.2))).run P w) := by
  unfold abuild at h
  split at h
  · rename_i fields z n b ht hi
    obtain ⟨i, hi1, hi2, rfl, rfl⟩ := tinfo_some hi
    split at h
    · rename_i places hp
      simp only [tpl, ht] at hp
      split at h
      · rename_i hso
        have hfull := (V.t (ρ := ρ) (H := H) (absV_T M z)).cellsOf hso
        cases ha : afill (places.toArray[·]?) (absV z).cells (parts.toList.map fun p => (p.1, f p.2)) with
        | none => rw [ha] at h; cases h
        | some cells =>
          rw [ha] at h
          cases h
          obtain ⟨cs, hc1, hc2⟩ := afill_run hf parts.toList _ _ _ hfull ha
          refine .same (v := .agg cs) (run_build (P := P) w t _ cs ?_) hs (full_agg hc2)
          simp only [Program.built, hi1, ht, hi2, hp, Array.toList_map]
          exact hc1
      · cases h
    · cases h
  · rename_i m e z n b ht hi
    obtain ⟨i, hi1, hi2, rfl, rfl⟩ := tinfo_some hi
    split at h
    · rename_i s hsz
      split at h
      · rename_i hso
        have hfull := (V.t (ρ := ρ) (H := H) (absV_T M z)).cellsOf hso
        cases ha : afill (fun i => some (i * s, s)) (absV z).cells (parts.toList.map fun p => (p.1, f p.2)) with
        | none => rw [ha] at h; cases h
        | some cells =>
          rw [ha] at h
          cases h
          obtain ⟨cs, hc1, hc2⟩ := afill_run hf parts.toList _ _ _ hfull ha
          refine .same (v := .agg cs) (run_build (P := P) w t _ cs ?_) hs (full_agg hc2)
          unfold tsz at hsz
          cases hie : P.info? e with
          | none => simp [hie] at hsz
          | some ie =>
            simp [hie] at hsz
            subst hsz
            simp only [Program.built, hi1, ht, hi2, hie, Array.toList_map]
            exact hc1
      · cases h
    · cases h
  · cases h

/- numbers to numbers, bytes to a text -/
def aconv (P : Program) (H : Hp) (s d : TypeId) (x : AV) : Option AV :=
  match P.underlying s, P.underlying d, x with
  | some (.int _), some (.int k), .i _ n => some (.i k (k.wrap n))
  | some .string, some .string, .s y => some (.s y)
  | some (.slice e), some .string, .os b ver 1 => match P.underlying e, H b with
    | some (.int .u8), some blk => match blk.cells with
      | .i .u8 n :: _ => if ver = blk.ver then some (.s ⟨#[UInt8.ofNat n.toNat]⟩) else none
      | _ => none
    | _, _ => none
  | _, _, _ => none
theorem aconv_run {s d : TypeId} {x av : AV} {v : Value} (hs : Sim M ρ H w) (h : aconv P H s d x = some av) (hv : V M ρ H x v) : GoodV M ρ H w av H ((convert s d v).run P w) := by
  unfold aconv at h
  split at h
  · rename_i k0 k k1 n h1 h2
    cases h
    obtain rfl := hv.inv_i
    exact .same (v := .int k (k.wrap n)) (by simp [convert, run_underlying h1, run_underlying h2, Conv.intToInt]) hs (.t (.i _ _))
  · rename_i y h1 h2
    cases h
    obtain rfl := hv.inv_s
    exact .same (v := .string y) (by simp [convert, run_underlying h1, run_underlying h2]) hs (.t (.s _))
  · rename_i e b ver h1 h2
    split at h
    · rename_i blk he hb
      split at h
      · rename_i n rest hc
        split at h
        · rename_i hver
          cases h
          obtain ⟨rfl, _⟩ := hv.inv_os hb hver
          obtain ⟨us, l1, l2, l3⟩ := Lies.own hs hb
          rw [hc] at l1 l2
          have l4 := l2 0 (by simp) (by simp at l1; omega)
          have l5 := l3 0 (by simp at l1; omega)
          have l6 := l4.inv_i
          rw [l6] at l5
          have l7 := run_loadCells_list (P := P) w ⟨(ρ b).1, 0, none⟩ [.int .u8 n] fun j u hj => by
            cases j with
            | zero => simp at hj; subst hj; rw [add_none]; exact l5
            | succ j => simp at hj
          simp only [List.length_singleton] at l7
          refine .same (v := .string ⟨#[UInt8.ofNat n.toNat]⟩) ?_ hs (.t (.s _))
          simp [convert, run_underlying h1, run_underlying h2, run_underlying he, Conv.bytesToString, l7]
          rfl
        · cases h
      · cases h
    · cases h
  · cases h
end
end Go.Proofs.Ytpdpmcllpafjbaa

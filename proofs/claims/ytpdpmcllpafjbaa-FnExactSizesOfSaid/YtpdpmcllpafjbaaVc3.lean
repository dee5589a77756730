/- Words of this seat's proofs: from the walk to a contract: what a call hands back. No program is named here. -/
import Derived.Test.YtpdpmcllpafjbaaVc2
namespace Go.Proofs.Ytpdpmcllpafjbaa
open Go.RowKit
set_option linter.unusedVariables false
set_option linter.unusedSimpArgs false

def Sup (n : Nat) (H : Hp) : Prop := ∀ k, n ≤ k → H k = none

/-- Names of own memory below n alone. -/
inductive Clo (n : Nat) : AV → Prop where
  | b (x) : Clo n (.b x)
  | i (k m) : Clo n (.i k m)
  | s (x) : Clo n (.s x)
  | u : Clo n .u
  | un : Clo n .un
  | np : Clo n .np
  | ns : Clo n .ns
  | nf : Clo n .nf
  | pi (c) : Clo n (.pi c)
  | is (sz es) : Clo n (.is sz es)
  | p {blk ver off} (h : blk < n) : Clo n (.p blk ver off)
  | os {blk ver len} (h : blk < n) : Clo n (.os blk ver len)
  | fn (f) {cs} (h : ∀ (j : Nat) (h : j < cs.length), Clo n cs[j]) : Clo n (.fn f cs)
  | agg {cs} (h : ∀ (j : Nat) (h : j < cs.length), Clo n cs[j]) : Clo n (.agg cs)
  | tup {cs} (h : ∀ (j : Nat) (h : j < cs.length), Clo n cs[j]) : Clo n (.tup cs)

def CloH (n : Nat) (H : Hp) : Prop := ∀ b, b < n → ∀ blk, H b = some blk → ∀ (j : Nat) (h : j < blk.cells.length), Clo n blk.cells[j]

def cutN (n : Nat) (H : Hp) : Hp := fun b => if b < n then H b else none
theorem cutN_self {n : Nat} {H : Hp} (h : Sup n H) : cutN n H = H := by funext b; unfold cutN; split; rfl; exact (h b (by omega)).symm
theorem cutN_upd {n k : Nat} {H : Hp} {x : Option Blk} : cutN n (upd H (n + k) x) = cutN n H := by
  funext b; unfold cutN; split
  · exact upd_ne _ _ (by omega)
  · rfl
theorem cutN_upd0 {n : Nat} {H : Hp} {x : Option Blk} : cutN n (upd H n x) = cutN n H := cutN_upd (k := 0)
theorem CloH_upd {n k : Nat} {H : Hp} {x : Option Blk} (h : CloH n H) : CloH n (upd H (n + k) x) := fun b hb blk hbk => h b hb blk (by rwa [upd_ne _ _ (by omega)] at hbk)
theorem sup_mono {n m : Nat} {H : Hp} (h : Sup n H) (hm : n ≤ m) : Sup m H := fun k hk => h k (by omega)
theorem upd_none {n k : Nat} {H : Hp} (h : Sup n H) : upd H (n + k) none = H := upd_id H _ _ (h _ (by omega))

/-- Below n nothing has turned. -/
def Low (n : Nat) (H H' : Hp) : Prop := ∀ j, j < n → H' j = H j
theorem Low.refl (n : Nat) (H : Hp) : Low n H H := fun _ _ => rfl
theorem low_upd {n k : Nat} {H H' : Hp} {x : Option Blk} (h : Low n H H') : Low n H (upd H' (n + k) x) := fun j hj => by rw [upd_ne _ _ (by omega)]; exact h j hj
theorem low_upd0 {n : Nat} {H H' : Hp} {x : Option Blk} (h : Low n H H') : Low n H (upd H' n x) := low_upd (k := 0) h
theorem Low.cut {n : Nat} {H H' : Hp} (h : Low n H H') (hs : Sup n H) : cutN n H' = H := by
  funext b; unfold cutN; split
  · exact h b (by assumption)
  · exact (hs b (by omega)).symm
theorem Low.clo {n : Nat} {H H' : Hp} (h : Low n H H') (hc : CloH n H) : CloH n H' := fun b hb blk hbk => hc b hb blk (by rw [← h b hb]; exact hbk)

section
variable {M : Mem} {ρ : Nat → Nat × Nat} {H : Hp} {w : World}

theorem T.clo {n : Nat} {av : AV} {v : Value} (h : T M av v) : Clo n av := by
  induction h with
  | fn f hl _ ih => exact .fn f fun j h => ih j h (by omega)
  | agg hl _ ih => exact .agg fun j h => ih j h (by omega)
  | tup hl _ ih => exact .tup fun j h => ih j h (by omega)
  | _ => constructor
theorem V.clo {n : Nat} (hs : Sup n H) {av : AV} {v : Value} (h : V M ρ H av v) : Clo n av := by
  induction h with
  | t h => exact h.clo
  | @p b ver off blk v hb _ _ _ => exact .p (by rcases Nat.lt_or_ge b n with h | h; exact h; rw [hs b h] at hb; cases hb)
  | @os b ver len blk v hb _ _ _ => exact .os (by rcases Nat.lt_or_ge b n with h | h; exact h; rw [hs b h] at hb; cases hb)
  | fn f hl _ ih => exact .fn f fun j h => ih j h (by omega)
  | agg hl _ ih => exact .agg fun j h => ih j h (by omega)
  | tup hl _ ih => exact .tup fun j h => ih j h (by omega)
theorem Sim.clo {n : Nat} (hs : Sup n H) (h : Sim M ρ H w) : CloH n H := fun b _ blk hb j hj => by
  obtain ⟨cs, _, _, h3, _⟩ := h.own b blk hb
  exact (h3.2 j hj (by have := h3.1; omega)).clo hs
theorem V.cutN {n : Nat} {M' : Mem} (hm : MemLe M M') {av : AV} {v : Value} (h : V M ρ H av v) (hc : Clo n av) : V M' ρ (cutN n H) av v := by
  have e : ∀ b, b < n → ∀ blk, H b = some blk → Go.Proofs.Ytpdpmcllpafjbaa.cutN n H b = some blk := fun b hb blk h => by unfold Go.Proofs.Ytpdpmcllpafjbaa.cutN; rw [if_pos hb]; exact h
  induction h with
  | t h => exact .t (h.mono hm)
  | p hb hle h1 hv => cases hc with | p h => exact .p (e _ h _ hb) hle h1 hv
  | os hb hle h1 hv => cases hc with | os h => exact .os (e _ h _ hb) hle h1 hv
  | fn f hl _ ih => cases hc with | fn _ h => exact .fn f hl fun j h1 h2 => ih j h1 h2 (h j h1)
  | agg hl _ ih => cases hc with | agg h => exact .agg hl fun j h1 h2 => ih j h1 h2 (h j h1)
  | tup hl _ ih => cases hc with | tup h => exact .tup hl fun j h1 h2 => ih j h1 h2 (h j h1)

/-- A value whose own memory from n on is handed over for good. -/
def AV.flat : AV → Bool
  | .p .. => false
  | .os .. => false
  | .fn .. => false
  | .agg _ => false
  | .tup _ => false
  | _ => true
inductive Pub (H : Hp) (n : Nat) : AV → AV → Prop where
  | flat {av} (h : av.flat = true) : Pub H n av av
  | nil (sz) : Pub H n .ns (.is sz [])
  | os {b ver len : Nat} {es : List (List AV)} {blk : Blk} (hb : H b = some blk) (hn : n ≤ b) (hv : blk.ver = ver) (hsz : 0 < blk.sz) (he : ∀ e ∈ es, e.length = blk.sz) (hl : es.length = len) (hle : len * blk.sz ≤ blk.cells.length)
      (hp : ∀ (j : Nat) (h1 : j < (blk.cells.take (len * blk.sz)).length) (h2 : j < es.flatten.length), Pub H n (blk.cells.take (len * blk.sz))[j] es.flatten[j]) : Pub H n (.os b ver len) (.is blk.sz es)
  | fn (f) {cs ds : List AV} (hl : cs.length = ds.length) (hp : ∀ (j : Nat) (h1 : j < cs.length) (h2 : j < ds.length), Pub H n cs[j] ds[j]) : Pub H n (.fn f cs) (.fn f ds)
  | agg {cs ds : List AV} (hl : cs.length = ds.length) (hp : ∀ (j : Nat) (h1 : j < cs.length) (h2 : j < ds.length), Pub H n cs[j] ds[j]) : Pub H n (.agg cs) (.agg ds)
  | tup {cs ds : List AV} (hl : cs.length = ds.length) (hp : ∀ (j : Nat) (h1 : j < cs.length) (h2 : j < ds.length), Pub H n cs[j] ds[j]) : Pub H n (.tup cs) (.tup ds)

open Classical in
noncomputable def memPub (M : Mem) (ρ : Nat → Nat × Nat) (H : Hp) (w : World) (n : Nat) : Mem := fun g => if ∃ b blk, n ≤ b ∧ H b = some blk ∧ (ρ b).1 = g then w.heap[g]? else M g

theorem memPub_le (n : Nat) (h : Sim M ρ H w) : MemLe M (memPub M ρ H w n) := fun g o hg => by
  unfold memPub
  split
  · exact h.mem g o hg
  · exact hg
theorem memPub_at {n b : Nat} {blk : Blk} (hb : H b = some blk) (hn : n ≤ b) : memPub M ρ H w n (ρ b).1 = w.heap[(ρ b).1]? := by
  unfold memPub
  rw [if_pos ⟨b, blk, hn, hb, rfl⟩]

theorem Pub.T {n : Nat} (hs : Sim M ρ H w) {av av' : AV} (h : Pub H n av av') : ∀ {v : Value}, V M ρ H av v → T (memPub M ρ H w n) av' v := by
  induction h with
  | @flat av h =>
    intro v hv
    cases hv with
    | t t => exact t.mono (memPub_le n hs)
    | _ => simp [AV.flat] at h
  | nil sz => intro v hv; rw [hv.inv_ns]; exact .is0 _ _ _ (Nat.zero_le _)
  | @os b ver len es blk hb hn hver hsz he hl hle hp ih =>
    intro v hv
    obtain ⟨rfl, hlc⟩ := hv.inv_os hb hver.symm
    obtain ⟨cs, o1, o2, o3, o4, o5⟩ := hs.own b blk hb
    by_cases h0 : es = []
    · subst h0
      subst hl
      exact .is0 _ _ _ o5
    · have hfl := flat_len es blk.sz he
      rw [hl] at hfl
      have hcs : len * blk.sz ≤ cs.size := by have := o3.1; omega
      have := T.is (M := memPub M ρ H w n) (sz := blk.sz) (es := es) (us := cs.toList.take (len * blk.sz)) (g := (ρ b).1) (o := 0) (cap := (ρ b).2) (cs := cs) (el := blk.e) (fz := (0, 0))
        (by rw [memPub_at hb hn]; exact o1) he (by omega) o5 (by rw [hfl]; simp; omega) (fun j h1 h2 => by
          simp only [List.getElem_take, Array.getElem_toList]
          have h3 : j < (blk.cells.take (len * blk.sz)).length := by simp; omega
          refine ih j h3 h1 ?_
          simp only [List.getElem_take]
          exact o3.2 j _ _) (fun j h1 => by
          simp only [List.length_take, Array.length_toList] at h1
          simp only [List.getElem_take, Array.getElem_toList, Nat.zero_add]
          rw [Array.getElem?_eq_getElem (by omega)])
      rw [hl] at this
      exact this
  | fn f hl hp ih =>
    intro v hv
    obtain ⟨vs, rfl, h1, h2⟩ := hv.inv_fn
    exact .fn f (by omega) fun j h3 h4 => ih j (by omega) h3 (h2 j (by omega) h4)
  | agg hl hp ih =>
    intro v hv
    obtain ⟨vs, rfl, h1, h2⟩ := hv.inv_agg
    exact .agg (by omega) fun j h3 h4 => ih j (by omega) h3 (h2 j (by omega) h4)
  | tup hl hp ih =>
    intro v hv
    obtain ⟨vs, rfl, h1, h2⟩ := hv.inv_tup
    exact .tup (by omega) fun j h3 h4 => ih j (by omega) h3 (h2 j (by omega) h4)

theorem Sim.pub {n : Nat} (hs : Sim M ρ H w) (hc : CloH n H) : Sim (memPub M ρ H w n) ρ (cutN n H) w ∧ ExtN n M ρ H (memPub M ρ H w n) ρ (cutN n H) := by
  have ec : ∀ b blk, cutN n H b = some blk → b < n ∧ H b = some blk := fun b blk h => by
    unfold cutN at h
    split at h
    · exact ⟨by assumption, h⟩
    · cases h
  refine ⟨⟨fun g o hg => ?_, fun b blk hb => ?_, fun b b' blk blk' hb hb' he => hs.inj b b' blk blk' (ec _ _ hb).2 (ec _ _ hb').2 he, ⟨n, fun k hk => by unfold cutN; rw [if_neg (by omega)]⟩⟩, ⟨memPub_le n hs, fun b hb blk hbk => ⟨blk, by unfold cutN; rw [if_pos hb]; exact hbk, Nat.le_refl _, fun _ => rfl⟩⟩⟩
  · unfold memPub at hg
    split at hg
    · exact hg
    · exact hs.mem g o hg
  · obtain ⟨hlt, hb⟩ := ec b blk hb
    obtain ⟨cs, o1, o2, o3, o4⟩ := hs.own b blk hb
    refine ⟨cs, o1, ?_, ⟨o3.1, fun j h1 h2 => (o3.2 j h1 h2).cutN (memPub_le n hs) (hc b hlt blk hb j h1)⟩, o4⟩
    unfold memPub
    rw [if_neg]
    · exact o2
    · rintro ⟨b', blk', hn, hb', he⟩
      have := hs.inj b' b blk' blk hb' hb he
      omega
end

/-- What is handed back. -/
def Ret (n : Nat) (r : AV) (H : Hp) (R : AV → Hp → Prop) : Prop :=
  ∀ (M : Mem) (ρ : Nat → Nat × Nat) (w : World) (v : Value), Sim M ρ H w → V M ρ H r v → ∃ M' ρ' r' H', R r' H' ∧ Sim M' ρ' H' w ∧ V M' ρ' H' r' v ∧ ExtN n M ρ H M' ρ' H'

theorem Ret.pub {n : Nat} {r r' : AV} {H : Hp} {R : AV → Hp → Prop} (hc : CloH n H) (hp : Pub H n r r') (hR : R r' (cutN n H)) : Ret n r H R := fun M ρ w v hs hv => by
  obtain ⟨h1, h2⟩ := Sim.pub hs hc
  exact ⟨_, ρ, r', _, hR, h1, .t (hp.T hs hv), h2⟩
theorem Ret.keep {n : Nat} {r : AV} {H : Hp} {R : AV → Hp → Prop} (hR : R r H) : Ret n r H R := fun M ρ w v hs hv => ⟨M, ρ, r, H, hR, hs, hv, .refl _ _ _ _⟩

def ares1 (P : Program) (ta : En) (H : Hp) : ResultVar → Option AV
  | .tmp t => some (ta t)
  | .cell a t => match ta a with
    | .p b ver off => aload P H t (.p b ver off)
    | _ => none
def aresL (P : Program) (ta : En) (H : Hp) : List ResultVar → Option (List AV)
  | [] => some []
  | r :: rs => match ares1 P ta H r, aresL P ta H rs with
    | some v, some vs => some (v :: vs)
    | _, _ => none
def ares (P : Program) (ta : En) (H : Hp) (rs : List ResultVar) : Option AV :=
  match aresL P ta H rs with
  | some [v] => some v
  | some vs => some (.tup vs)
  | none => none

def resF (tm : Array Value) : ResultVar → Sem Value
  | .tmp t => pure (tm.getD t undef)
  | .cell a t => do loadVar t (← asAddr (tm.getD a undef))
theorem results_eq (fn : Func) (tm : Array Value) : results fn tm = (do let vs ← fn.results.mapM (resF tm); pure (if h : vs.size = 1 then vs[0] else .tuple vs)) := by
  unfold results
  congr 1

theorem ares1_run {P : Program} {M : Mem} {ρ : Nat → Nat × Nat} {H : Hp} {w : World} {ta : En} {tm : Array Value} (hs : Sim M ρ H w) (he : ∀ t, V M ρ H (ta t) (tm.getD t undef)) {r : ResultVar} {av : AV} (h : ares1 P ta H r = some av) :
    ∃ v, (resF tm r).run P w = .ok v w ∧ V M ρ H av v := by
  cases r with
  | tmp t => cases h; exact ⟨_, rfl, he t⟩
  | cell a t =>
    simp only [ares1] at h
    split at h
    · rename_i b ver off hta
      have hv := he a
      rw [hta] at hv
      simp only [aload] at h
      split at h
      · rename_i blk hb
        split at h
        · rename_i hver
          have hp := hv.inv_p hb hver
          obtain ⟨u, k1, k2⟩ := rd_run (P := P) h (by simpa using (Lies.own hs hb).drop off)
          refine ⟨u, ?_, k2⟩
          simp only [resF, hp, asAddr]
          simp [k1]
        · cases h
      · cases h
    · cases h

theorem aresL_run {P : Program} {M : Mem} {ρ : Nat → Nat × Nat} {H : Hp} {w : World} {ta : En} {tm : Array Value} (hs : Sim M ρ H w) (he : ∀ t, V M ρ H (ta t) (tm.getD t undef)) : ∀ {rs : List ResultVar} {as : List AV}, aresL P ta H rs = some as →
    ∃ vs : List Value, (rs.mapM (resF tm)).run P w = .ok vs w ∧ as.length = vs.length ∧ ∀ (j : Nat) (h1 : j < as.length) (h2 : j < vs.length), V M ρ H as[j] vs[j] := by
  intro rs
  induction rs with
  | nil => intro as h; cases h; exact ⟨[], rfl, rfl, fun j h1 => by simp at h1⟩
  | cons r rs ih =>
    intro as h
    simp only [aresL] at h
    split at h
    · rename_i v vs h1 h2
      cases h
      obtain ⟨u, k1, k2⟩ := ares1_run hs he h1
      obtain ⟨us, k3, k4, k5⟩ := ih h2
      refine ⟨u :: us, ?_, by simp [k4], fun j h3 h4 => ?_⟩
      · rw [List.mapM_cons]
        simp only [Sem.run_bind, k1, k3, Result.andThen_ok]
        rfl
      · cases j with
        | zero => exact k2
        | succ j => exact k5 j (by simpa using h3) (by simpa using h4)
    · cases h

theorem ares_run {P : Program} {fn : Func} {M : Mem} {ρ : Nat → Nat × Nat} {H : Hp} {w : World} {ta : En} {tm : Array Value} (hs : Sim M ρ H w) (he : ∀ t, V M ρ H (ta t) (tm.getD t undef)) {r : AV} (h : ares P ta H fn.results.toList = some r) :
    ∃ v, (results fn tm).run P w = .ok v w ∧ V M ρ H r v := by
  unfold ares at h
  cases ha : aresL P ta H fn.results.toList with
  | none => rw [ha] at h; cases h
  | some as =>
    rw [ha] at h
    obtain ⟨vs, k1, k2, k3⟩ := aresL_run hs he ha
    have hrun : (results fn tm).run P w = .ok (if h : vs.toArray.size = 1 then vs.toArray[0] else .tuple vs.toArray) w := by
      rw [results_eq, Array.mapM_eq_mapM_toList]
      simp only [Sem.run_bind, Sem.run_map, k1, Result.andThen_ok]
      rfl
    rcases as with _ | ⟨a, _ | ⟨b, as⟩⟩
    · cases h
      obtain rfl : vs = [] := List.eq_nil_of_length_eq_zero (by simpa using k2.symm)
      exact ⟨_, hrun, .tup (vs := []) rfl fun j h1 => by simp at h1⟩
    · cases h
      rcases vs with _ | ⟨v, _ | ⟨u, vs⟩⟩
      · simp at k2
      · exact ⟨_, hrun, k3 0 (by simp) (by simp)⟩
      · simp at k2
    · cases h
      rw [dif_neg (by simp; simp at k2; omega)] at hrun
      exact ⟨_, hrun, .tup k2 k3⟩

/-- The frame at a call. -/
def ienv (args : List AV) : En := fun t => (args[t]?).getD .un

theorem ACalls.introAt {P : Program} {g : FuncId} {fn : Func} {c : Code} (hf : P.funcs[g]? = some fn) (hname : (fn.name == "runtime.NumGoroutine") = false) (hb : fn.body = some c) {args : List AV} (hargs : args.length ≤ fn.ntmps) {H : Hp} {R : AV → Hp → Prop}
    (n : Nat) (hn : Sup n H) (h : CloH n H → VC P fn.ntmps n (fun ta H' => ∃ r, ares P ta H' fn.results.toList = some r ∧ Ret n r H' R) [.c c] (ienv args) H) : ACalls P g args H R := by
  refine ⟨⟨fn, c, hf, hname, hb⟩, fun M ρ w vs hs hl hv => ?_⟩
  have hvc := h (hs.clo hn)
  refine calls_of_wp hf hb ?_
  have hat : At fn.ntmps n M ρ H w (ienv args) H M ρ { tmps := vs.toArray ++ Array.replicate (fn.ntmps - vs.toArray.size) undef, defers := [] } w := by
    refine ⟨hs, fun t => ?_, by simp; omega, rfl, .refl _ _ _ _, .refl _⟩
    unfold ienv
    by_cases ht : t < args.length
    · have e : (vs.toArray ++ Array.replicate (fn.ntmps - vs.toArray.size) undef).getD t undef = vs[t]'(by omega) := by
        simp [Array.getD, show t < vs.length + (fn.ntmps - vs.length) by omega, Array.getElem_append, show t < vs.length by omega]
      show V M ρ H (args[t]?.getD .un) ((vs.toArray ++ Array.replicate (fn.ntmps - vs.toArray.size) undef).getD t undef)
      rw [e]
      simp only [List.getElem?_eq_getElem ht, Option.getD_some]
      exact hv t ht (by omega)
    · have e : (vs.toArray ++ Array.replicate (fn.ntmps - vs.toArray.size) undef).getD t undef = undef := by
        simp only [Array.getD]
        split
        · simp [Array.getElem_append, show ¬ t < vs.length by omega]
        · rfl
      show V M ρ H (args[t]?.getD .un) ((vs.toArray ++ Array.replicate (fn.ntmps - vs.toArray.size) undef).getD t undef)
      rw [e, List.getElem?_eq_none (by omega)]
      exact .t .un
  refine wp_mono (hvc.sound M ρ _ w hat) fun e a' w' he => ?_
  have fin : (∃ ta H' M' ρ', (∃ r, ares P ta H' fn.results.toList = some r ∧ Ret n r H' R) ∧ At fn.ntmps n M ρ H w ta H' M' ρ' a' w') →
      a'.defers = [] ∧ ∃ v, (results fn a'.tmps).run P w' = .ok v w' ∧ ∃ v' av M' ρ' H', Ending.returned v = .returned v' ∧ R av H' ∧ Sim M' ρ' H' w' ∧ V M' ρ' H' av v' ∧ Ext M ρ H M' ρ' H' ∧ Fr w w' := by
    rintro ⟨ta, H', M', ρ', ⟨r, hr, hret⟩, hat'⟩
    obtain ⟨v, k1, k2⟩ := ares_run (fn := fn) hat'.sim hat'.env hr
    obtain ⟨M2, ρ2, r2, H2, j1, j2, j3, j4⟩ := hret M' ρ' w' v hat'.sim k2
    have hx := hat'.ext.trans j4
    exact ⟨hat'.defers, v, k1, v, r2, M2, ρ2, H2, rfl, j1, j2, j3, ⟨hx.mem, fun b blk hb => by
      have hlt : b < n := by rcases Nat.lt_or_ge b n with h | h; exact h; rw [hn b h] at hb; cases hb
      exact hx.key b hlt blk hb⟩, hat'.fr⟩
  cases e with
  | normal => exact fin he
  | ret => exact fin he
  | exit id => exact he.elim
  | goto l => exact he.elim
  | panic ch => exact he.elim
  | outgrown => exact he.elim

theorem ACalls.intro {P : Program} {g : FuncId} {fn : Func} {c : Code} (hf : P.funcs[g]? = some fn) (hname : (fn.name == "runtime.NumGoroutine") = false) (hb : fn.body = some c) {args : List AV} (hargs : args.length ≤ fn.ntmps) {H : Hp} {R : AV → Hp → Prop}
    (h : ∀ n, Sup n H → CloH n H → VC P fn.ntmps n (fun ta H' => ∃ r, ares P ta H' fn.results.toList = some r ∧ Ret n r H' R) [.c c] (ienv args) H) : ACalls P g args H R := by
  refine ⟨⟨fn, c, hf, hname, hb⟩, fun M ρ w vs hs hl hv => ?_⟩
  obtain ⟨n, hn⟩ := hs.fin
  exact (ACalls.introAt hf hname hb hargs n hn (h n hn)).2 M ρ w vs hs hl hv
end Go.Proofs.Ytpdpmcllpafjbaa

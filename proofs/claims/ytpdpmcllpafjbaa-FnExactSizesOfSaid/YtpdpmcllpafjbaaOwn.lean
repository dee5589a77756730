/- Words of this seat's proofs: results that the caller owns; own memory that is lent for a call. No program is named here. -/
import Derived.Test.YtpdpmcllpafjbaaDocB
namespace Go.Proofs.Ytpdpmcllpafjbaa
open Go.RowKit
set_option linter.unusedVariables false
set_option linter.unusedSimpArgs false

/-- No name of memory that nobody writes. -/
inductive MF : AV → Prop where
  | b (x) : MF (.b x)
  | i (k m) : MF (.i k m)
  | s (x) : MF (.s x)
  | u : MF .u
  | un : MF .un
  | np : MF .np
  | ns : MF .ns
  | nf : MF .nf
  | p (b ver off) : MF (.p b ver off)
  | os (b ver len) : MF (.os b ver len)
  | agg {cs} (h : ∀ (j : Nat) (h : j < cs.length), MF cs[j]) : MF (.agg cs)
  | tup {cs} (h : ∀ (j : Nat) (h : j < cs.length), MF cs[j]) : MF (.tup cs)

section
variable {M : Mem} {ρ : Nat → Nat × Nat} {H : Hp} {w : World}

theorem T.mf {M' : Mem} {av : AV} {v : Value} (h : T M av v) (hm : MF av) : T M' av v := by
  induction h with
  | agg hl _ ih => cases hm with | agg h => exact .agg hl fun j h1 h2 => ih j h1 h2 (h j h1)
  | tup hl _ ih => cases hm with | tup h => exact .tup hl fun j h1 h2 => ih j h1 h2 (h j h1)
  | b x => exact .b x
  | i k n => exact .i k n
  | s x => exact .s x
  | u v => exact .u v
  | un => exact .un
  | np => exact .np
  | ns => exact .ns
  | nf => exact .nf
  | _ => cases hm
theorem V.mf {M' : Mem} {av : AV} {v : Value} (h : V M ρ H av v) (hm : MF av) : V M' ρ H av v := by
  induction h with
  | t h => exact .t (h.mf hm)
  | p hb hle h1 hv => exact .p hb hle h1 hv
  | os hb hle h1 hv => exact .os hb hle h1 hv
  | fn f hl _ ih => cases hm
  | agg hl _ ih => cases hm with | agg h => exact .agg hl fun j h1 h2 => ih j h1 h2 (h j h1)
  | tup hl _ ih => cases hm with | tup h => exact .tup hl fun j h1 h2 => ih j h1 h2 (h j h1)

def none0 : Hp := fun _ => none
def join (n : Nat) (H B : Hp) : Hp := fun k => if k < n then H k else B k
theorem cutN_zero (H : Hp) : cutN 0 H = none0 := by funext b; unfold cutN none0; rw [if_neg (by omega)]
theorem join_none (n : Nat) (H : Hp) (h : Sup n H) : join n H none0 = H := by
  funext k; unfold join none0; split
  · rfl
  · exact (h k (by omega)).symm
theorem join_upd (n k : Nat) (H B : Hp) (x : Option Blk) : join n H (upd B (n + k) x) = upd (join n H B) (n + k) x := by
  funext j
  simp only [join, upd]
  split
  · rw [if_neg (by omega)]
  · rfl
theorem join_upd0 (n : Nat) (H B : Hp) (x : Option Blk) : join n H (upd B n x) = upd (join n H B) n x := join_upd n 0 H B x

/-- Own memory is lent for a call: the callee reads it as memory that nobody writes. -/
theorem ACalls.lend {P : Program} {g : FuncId} {args args' : List AV} {n : Nat} {R : AV → Hp → Prop} (hl : args.length = args'.length) (hp : ∀ (j : Nat) (h1 : j < args.length) (h2 : j < args'.length), Pub H 0 args[j] args'[j])
    (hc : ACalls P g args' none0 R) (hn : Sup n H) (hR : ∀ x B, R x B → MF x ∧ (∀ k, k < n → B k = none) ∧ ∀ k blk, B k = some blk → ∀ (j : Nat) (h : j < blk.cells.length), MF blk.cells[j]) :
    ACalls P g args H (fun x H' => ∃ B, R x B ∧ H' = join n H B) := by
  refine ⟨hc.1, fun M ρ w vs hs hlv hv => ?_⟩
  have hpub := Sim.pub (n := 0) hs (fun b hb => absurd hb (Nat.not_lt_zero b))
  rw [cutN_zero] at hpub
  refine (hc.2 _ ρ w vs hpub.1 (by omega) fun j h1 h2 => .t ((hp j (by omega) h1).T hs (hv j (by omega) h2))).mono ?_
  rintro e w' ⟨v, av, M2, ρ2, B, rfl, hRr, hs2, hv2, hx2, hf⟩
  obtain ⟨hmf, hlow, hcm⟩ := hR _ _ hRr
  open Classical in
  let M3 : Mem := fun g => if ∃ b blk, H b = some blk ∧ (ρ b).1 = g then none else M2 g
  let ρ3 : Nat → Nat × Nat := fun k => if k < n then ρ k else ρ2 k
  have hat : ∀ b blk, H b = some blk → M2 (ρ b).1 = w.heap[(ρ b).1]? := fun b blk hb => by
    obtain ⟨cs, o1, o2, _⟩ := hs.own b blk hb
    have := memPub_at (M := M) (ρ := ρ) (w := w) (n := 0) hb (Nat.zero_le _)
    rw [o1] at this ⊢
    exact hx2.mem _ _ this
  have h3a : ∀ b blk, H b = some blk → M3 (ρ b).1 = none := fun b blk hb => if_pos ⟨b, blk, hb, rfl⟩
  have h3b : ∀ g, M2 g = none → M3 g = none := fun g hg => by
    show (if _ then _ else _) = _
    split
    · rfl
    · exact hg
  have hlt : ∀ b blk, H b = some blk → b < n := fun b blk hb => by
    rcases Nat.lt_or_ge b n with h | h
    · exact h
    · rw [hn b h] at hb; cases hb
  have hge : ∀ b blk, B b = some blk → ¬ b < n := fun b blk hb h => by rw [hlow b h] at hb; cases hb
  have hx : Ext M ρ H M3 ρ3 (join n H B) := by
    refine ⟨fun g o hg => ?_, fun b blk hb => ⟨blk, by unfold join; rw [if_pos (hlt b blk hb)]; exact hb, Nat.le_refl _, fun _ => if_pos (hlt b blk hb)⟩⟩
    show (if _ then _ else _) = _
    rw [if_neg]
    · exact hx2.mem _ _ (memPub_le 0 hs g o hg)
    · rintro ⟨b, blk, hb, he⟩
      obtain ⟨cs, _, o2, _⟩ := hs.own b blk hb
      rw [he, hg] at o2
      cases o2
  have hxB : Ext M3 ρ2 B M3 ρ3 (join n H B) := ⟨.refl _, fun b blk hb => ⟨blk, by unfold join; rw [if_neg (hge b blk hb)]; exact hb, Nat.le_refl _, fun _ => if_neg (hge b blk hb)⟩⟩
  refine ⟨v, av, M3, ρ3, join n H B, rfl, ⟨B, hRr, rfl⟩, ⟨fun g o hg => ?_, fun k blk hk => ?_, fun b b' blk blk' hb hb' he => ?_, ?_⟩, (hv2.mf hmf).ext hxB, hx, hf⟩
  · have hg : (if _ then _ else _) = _ := hg
    split at hg
    · cases hg
    · exact hs2.mem g o hg
  · by_cases hkn : k < n
    · have hk' : H k = some blk := by unfold join at hk; rwa [if_pos hkn] at hk
      obtain ⟨cs, o1, o2, o3, o4⟩ := hs.own k blk hk'
      have e3 : ρ3 k = ρ k := if_pos hkn
      rw [e3]
      exact ⟨cs, hs2.mem _ _ (by rw [hat k blk hk', o1]), h3a k blk hk', o3.ext hx, o4⟩
    · have hk' : B k = some blk := by unfold join at hk; rwa [if_neg hkn] at hk
      obtain ⟨cs, o1, o2, o3, o4⟩ := hs2.own k blk hk'
      have e3 : ρ3 k = ρ2 k := if_neg hkn
      rw [e3]
      exact ⟨cs, o1, h3b _ o2, ⟨o3.1, fun j h1 h2 => ((o3.2 j h1 h2).mf (hcm k blk hk' j h1)).ext hxB⟩, o4⟩
  · unfold join at hb hb'
    by_cases h1 : b < n
    · rw [if_pos h1] at hb
      have e1 : ρ3 b = ρ b := if_pos h1
      by_cases h2 : b' < n
      · rw [if_pos h2] at hb'
        have e2 : ρ3 b' = ρ b' := if_pos h2
        rw [e1, e2] at he
        exact hs.inj b b' blk blk' hb hb' he
      · rw [if_neg h2] at hb'
        have e2 : ρ3 b' = ρ2 b' := if_neg h2
        rw [e1, e2] at he
        exfalso
        obtain ⟨cs, o1, _⟩ := hs.own b blk hb
        obtain ⟨_, _, o2, _⟩ := hs2.own b' blk' hb'
        rw [← he, hat b blk hb, o1] at o2
        cases o2
    · rw [if_neg h1] at hb
      have e1 : ρ3 b = ρ2 b := if_neg h1
      by_cases h2 : b' < n
      · rw [if_pos h2] at hb'
        have e2 : ρ3 b' = ρ b' := if_pos h2
        rw [e1, e2] at he
        exfalso
        obtain ⟨cs, o1, _⟩ := hs.own b' blk' hb'
        obtain ⟨_, _, o2, _⟩ := hs2.own b blk hb
        rw [he, hat b' blk' hb', o1] at o2
        cases o2
      · rw [if_neg h2] at hb'
        have e2 : ρ3 b' = ρ2 b' := if_neg h2
        rw [e1, e2] at he
        exact hs2.inj b b' blk blk' hb hb' he
  · obtain ⟨m, hm⟩ := hs2.fin
    exact ⟨m + n, fun k hk => by unfold join; rw [if_neg (by omega)]; exact hm k (by omega)⟩

/-- ... for a result that is a plain value. -/
theorem ACalls.lendV {P : Program} {g : FuncId} {args args' : List AV} {n : Nat} {r : AV} (hl : args.length = args'.length) (hp : ∀ (j : Nat) (h1 : j < args.length) (h2 : j < args'.length), Pub H 0 args[j] args'[j])
    (hc : ACalls P g args' none0 (fun x H' => x = r ∧ H' = none0)) (hn : Sup n H) (hr : MF r) : ACalls P g args H (fun x H' => x = r ∧ H' = H) :=
  (ACalls.lend hl hp hc hn fun x B ⟨h1, h2⟩ => ⟨h1 ▸ hr, fun k _ => by rw [h2]; rfl, fun k blk h => by rw [h2] at h; cases h⟩).mono fun x H' ⟨B, ⟨h1, h2⟩, h3⟩ => ⟨h1, by rw [h3, h2, join_none n H hn]⟩
/-- ... for a result that names one new block. -/
theorem ACalls.lend1 {P : Program} {g : FuncId} {args args' : List AV} {n : Nat} {r : AV} {blk : Blk} (hl : args.length = args'.length) (hp : ∀ (j : Nat) (h1 : j < args.length) (h2 : j < args'.length), Pub H 0 args[j] args'[j])
    (hc : ACalls P g args' none0 (fun x H' => x = r ∧ H' = upd none0 n (some blk))) (hn : Sup n H) (hr : MF r) (hb : ∀ (j : Nat) (h : j < blk.cells.length), MF blk.cells[j]) : ACalls P g args H (fun x H' => x = r ∧ H' = upd H n (some blk)) :=
  (ACalls.lend hl hp hc hn fun x B ⟨h1, h2⟩ => ⟨h1 ▸ hr, fun k hk => by rw [h2, upd_ne _ _ (by omega)]; rfl, fun k b h => by
    rw [h2] at h
    by_cases e : k = n
    · rw [e, upd_same] at h; cases h; exact hb
    · rw [upd_ne _ _ e] at h; cases h⟩).mono fun x H' ⟨B, ⟨h1, h2⟩, h3⟩ => ⟨h1, by rw [h3, h2, join_upd0, join_none n H hn]⟩
end

/-- A value of which own memory gets new names: τ leads from the new ones to the old ones. -/
inductive Ren (n : Nat) (τ : Nat → Nat) (H H' : Hp) : AV → AV → Prop where
  | clo {av} (h : Clo n av) : Ren n τ H H' av av
  | os {k b ver len : Nat} {blk blk' : Blk} (hk : n ≤ k) (ht : τ k = b) (hb : H b = some blk) (hv : blk.ver = ver) (hb' : H' k = some blk') (hv' : blk'.ver = 0) : Ren n τ H H' (.os b ver len) (.os k 0 len)
  | p {k b ver off : Nat} {blk blk' : Blk} (hk : n ≤ k) (ht : τ k = b) (hb : H b = some blk) (hv : blk.ver = ver) (hb' : H' k = some blk') (hv' : blk'.ver = 0) : Ren n τ H H' (.p b ver off) (.p k 0 off)
  | agg {cs ds : List AV} (hl : cs.length = ds.length) (hp : ∀ (j : Nat) (h1 : j < cs.length) (h2 : j < ds.length), Ren n τ H H' cs[j] ds[j]) : Ren n τ H H' (.agg cs) (.agg ds)
  | tup {cs ds : List AV} (hl : cs.length = ds.length) (hp : ∀ (j : Nat) (h1 : j < cs.length) (h2 : j < ds.length), Ren n τ H H' cs[j] ds[j]) : Ren n τ H H' (.tup cs) (.tup ds)

theorem Ren.flat {n : Nat} {τ : Nat → Nat} {H H' : Hp} {av : AV} (h : av.flat = true) : Ren n τ H H' av av := .clo (by cases av <;> first | (exfalso; simp [AV.flat] at h; done) | constructor)

theorem Ren.V {n : Nat} {τ : Nat → Nat} {M : Mem} {ρ ρ' : Nat → Nat × Nat} {H H' : Hp} (hlow : Low n H H') (h1 : ∀ k, k < n → ρ' k = ρ k) (h2 : ∀ k, n ≤ k → ρ' k = ρ (τ k)) {av av' : AV} (h : Ren n τ H H' av av') :
    ∀ {v : Value}, V M ρ H av v → V M ρ' H' av' v := by
  induction h with
  | clo h =>
    intro v hv
    refine (hv.cutN (.refl M) h).ext ⟨.refl M, fun b blk hb => ?_⟩
    unfold cutN at hb
    split at hb
    · rename_i hbn
      exact ⟨blk, by rw [hlow b hbn]; exact hb, Nat.le_refl _, fun _ => h1 b hbn⟩
    · cases hb
  | os hk ht hb hv hb' hv' =>
    intro v h
    obtain ⟨rfl, hle⟩ := h.inv_os hb hv.symm
    exact .os hb' (by omega) rfl fun _ => by rw [h2 _ hk, ht]; exact ⟨rfl, hle⟩
  | p hk ht hb hv hb' hv' =>
    intro v h
    obtain rfl := h.inv_p hb hv.symm
    exact .p hb' (by omega) rfl fun _ => by rw [h2 _ hk, ht]
  | agg hl _ ih =>
    intro v hv
    obtain ⟨vs, rfl, h1, h2⟩ := hv.inv_agg
    exact .agg (by omega) fun j h3 h4 => ih j (by omega) h3 (h2 j (by omega) h4)
  | tup hl _ ih =>
    intro v hv
    obtain ⟨vs, rfl, h1, h2⟩ := hv.inv_tup
    exact .tup (by omega) fun j h3 h4 => ih j (by omega) h3 (h2 j (by omega) h4)

/-- What is handed back is the caller's own from now on. -/
theorem Ret.own {n : Nat} {r r' : AV} {H H' : Hp} {R : AV → Hp → Prop} (τ : Nat → Nat) (hlow : Low n H H') (hc : CloH n H)
    (hk : ∀ k blk', n ≤ k → H' k = some blk' → n ≤ τ k ∧ ∃ blk, H (τ k) = some blk ∧ blk'.e = blk.e ∧ blk'.sz = blk.sz ∧ blk'.cells.length = blk.cells.length ∧ ∀ (j : Nat) (h1 : j < blk.cells.length) (h2 : j < blk'.cells.length), Ren n τ H H' blk.cells[j] blk'.cells[j])
    (hinj : ∀ k k' b b', n ≤ k → n ≤ k' → H' k = some b → H' k' = some b' → τ k = τ k' → k = k') (hfin : ∃ m, Sup m H') (hr : Ren n τ H H' r r') (hR : R r' H') : Ret n r H R := fun M ρ w v hs hv => by
  let ρ' : Nat → Nat × Nat := fun k => if k < n then ρ k else ρ (τ k)
  have e1 : ∀ k, k < n → ρ' k = ρ k := fun k h => if_pos h
  have e2 : ∀ k, n ≤ k → ρ' k = ρ (τ k) := fun k h => if_neg (by omega)
  refine ⟨M, ρ', r', H', hR, ⟨hs.mem, fun k blk hb => ?_, fun b b' blk blk' hb hb' he => ?_, ?_⟩, hr.V hlow e1 e2 hv, ⟨.refl M, fun b hb blk hbk => ⟨blk, by rw [hlow b hb]; exact hbk, Nat.le_refl _, fun _ => e1 b hb⟩⟩⟩
  · by_cases hn : k < n
    · have hb' : H k = some blk := by rw [← hlow k hn]; exact hb
      obtain ⟨cs, o1, o2, o3, o4⟩ := hs.own k blk hb'
      rw [e1 k hn]
      exact ⟨cs, o1, o2, ⟨o3.1, fun j h1 h2 => (Ren.clo (hc k hn blk hb' j h1)).V hlow e1 e2 (o3.2 j h1 h2)⟩, o4⟩
    · obtain ⟨_, b0, h0, h1, h2, h3, h4⟩ := hk k blk (by omega) hb
      obtain ⟨cs, o1, o2, o3, o4⟩ := hs.own _ b0 h0
      rw [e2 k (by omega), h1, h2]
      exact ⟨cs, o1, o2, ⟨by have := o3.1; omega, fun j k1 k2 => (h4 j (by omega) k1).V hlow e1 e2 (o3.2 j (by omega) k2)⟩, o4⟩
  · by_cases h1 : b < n
    · by_cases h2 : b' < n
      · rw [e1 b h1, e1 b' h2] at he
        exact hs.inj b b' blk blk' (by rw [← hlow b h1]; exact hb) (by rw [← hlow b' h2]; exact hb') he
      · rw [e1 b h1, e2 b' (by omega)] at he
        obtain ⟨k1, b0, k2, _⟩ := hk b' blk' (by omega) hb'
        have := hs.inj b _ blk b0 (by rw [← hlow b h1]; exact hb) k2 he
        omega
    · by_cases h2 : b' < n
      · rw [e1 b' h2, e2 b (by omega)] at he
        obtain ⟨k1, b0, k2, _⟩ := hk b blk (by omega) hb
        have := hs.inj _ b' b0 blk' k2 (by rw [← hlow b' h2]; exact hb') he
        omega
      · rw [e2 b (by omega), e2 b' (by omega)] at he
        obtain ⟨k1, b0, k2, _⟩ := hk b blk (by omega) hb
        obtain ⟨k1', b0', k2', _⟩ := hk b' blk' (by omega) hb'
        exact hinj b b' blk blk' (by omega) (by omega) hb hb' (hs.inj _ _ _ _ k2 k2' he)
  · exact hfin

/-- ... one block. -/
theorem Ret.own1 {n b ver : Nat} {e : TypeId} {sz : Nat} {cells : List AV} {r r' : AV} {H H0 : Hp} {R : AV → Hp → Prop} (hb : H b = some ⟨ver, e, sz, cells⟩) (hn : n ≤ b) (hf : ∀ (j : Nat) (h : j < cells.length), cells[j].flat = true) (hlow : Low n H0 H) (hs : Sup n H0) (hc : CloH n H0)
    (hr : Ren n (fun _ => b) H (upd H0 n (some ⟨0, e, sz, cells⟩)) r r') (hR : R r' (upd H0 n (some ⟨0, e, sz, cells⟩))) : Ret n r H R := by
  have hl2 : Low n H (upd H0 n (some ⟨0, e, sz, cells⟩)) := fun j hj => by rw [upd_ne _ _ (by omega)]; exact (hlow j hj).symm
  have hat : ∀ k blk', n ≤ k → upd H0 n (some ⟨0, e, sz, cells⟩) k = some blk' → k = n ∧ blk' = ⟨0, e, sz, cells⟩ := fun k blk' hk h => by
    by_cases e : k = n
    · subst e; rw [upd_same] at h; cases h; exact ⟨rfl, rfl⟩
    · rw [upd_ne _ _ e, hs k hk] at h; cases h
  refine Ret.own (fun _ => b) hl2 (hlow.clo hc) (fun k blk' hk h => ?_) (fun k k' x y h1 h2 h3 h4 _ => ?_) ⟨n + 1, fun k hk => by rw [upd_ne _ _ (by omega)]; exact hs k (by omega)⟩ hr hR
  · obtain ⟨rfl, rfl⟩ := hat k blk' hk h
    exact ⟨hn, _, hb, rfl, rfl, rfl, fun j h1 h2 => .flat (hf j h1)⟩
  · rw [(hat k x h1 h3).1, (hat k' y h2 h4).1]
theorem fin_own {P : Program} {n b ver : Nat} {e : TypeId} {sz : Nat} {cells : List AV} {ta : En} {H' H0 : Hp} {rs : List ResultVar} {r r' : AV} {R : AV → Hp → Prop} (hb : H' b = some ⟨ver, e, sz, cells⟩) (hle : n ≤ b) (hr : ares P ta H' rs = some r) (hl : Low n H0 H') (hs : Sup n H0) (hc : CloH n H0)
    (hf : ∀ (j : Nat) (h : j < cells.length), cells[j].flat = true) (hn : Ren n (fun _ => b) H' (upd H0 n (some ⟨0, e, sz, cells⟩)) r r') (hR : R r' (upd H0 n (some ⟨0, e, sz, cells⟩))) : ∃ r, ares P ta H' rs = some r ∧ Ret n r H' R :=
  ⟨r, hr, Ret.own1 hb hle hf hl hs hc hn hR⟩
theorem ren_tup2 {n : Nat} {τ : Nat → Nat} {H H' : Hp} {a b a' b' : AV} (h1 : Ren n τ H H' a a') (h2 : Ren n τ H H' b b') : Ren n τ H H' (.tup [a, b]) (.tup [a', b']) :=
  .tup rfl fun j k1 k2 => by
    simp at k1
    match j, k1 with
    | 0, _ => exact h1
    | 1, _ => exact h2
end Go.Proofs.Ytpdpmcllpafjbaa

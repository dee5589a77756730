/- Words of this seat's proofs: a region whose operations come in an open order: what one order shows holds of all, where operations that are not ordered touch different things. No program is named here. -/
import Derived.Test.YtpdpmcllpafjbaaStp
namespace Go.Proofs.Ytpdpmcllpafjbaa
open Go.RowKit
set_option linter.unusedVariables false
set_option linter.unusedSimpArgs false

def keys1 : AV → List Nat
  | .p b _ _ => [b]
  | .os b _ _ => [b]
  | _ => []
def keysOf (f : Operand → AV) (o : Op) : List Nat := o.operands.toList.flatMap fun x => keys1 (f x)
def wr (o : Op) : Bool :=
  match o with
  | .alloc _ | .box _ _ | .buildSlice _ _ _ | .makeSlice _ _ _ | .store _ _ _ => true
  | .call c => match c.callee with
    | .builtin .append => true
    | _ => false
  | _ => false
def acc (f : Operand → AV) (key : Nat) (o : Op) : List Nat := if wr o = true then key :: keysOf f o else keysOf f o

section
variable {P : Program} {H H' : Hp}
theorem cur_loc {b ver : Nat} (h : H' b = H b) : cur H' b ver = cur H b ver := by unfold cur; rw [h]
theorem aload_loc {t : TypeId} {a : AV} (h : ∀ k ∈ keys1 a, H' k = H k) : aload P H' t a = aload P H t a := by
  cases a <;> simp only [aload]
  rw [h _ (by simp [keys1])]
theorem afieldAddr_loc {t : TypeId} {i : Nat} {a : AV} (h : ∀ k ∈ keys1 a, H' k = H k) : afieldAddr P H' t i a = afieldAddr P H t i a := by
  cases a <;> simp only [afieldAddr]
  rw [cur_loc (h _ (by simp [keys1]))]
theorem anil_loc {a : AV} (h : ∀ k ∈ keys1 a, H' k = H k) : anil H' a = anil H a := by
  unfold anil
  cases a with
  | p b ver off => have := cur_loc (ver := ver) (h b (by simp [keys1])); simp only [this]
  | fn g caps => cases g <;> rfl
  | _ => rfl
theorem alen_loc {t : TypeId} {a : AV} (h : ∀ k ∈ keys1 a, H' k = H k) : alen P H' t a = alen P H t a := by
  unfold alen
  cases a with
  | os b ver len => have := cur_loc (ver := ver) (h b (by simp [keys1])); split <;> simp_all
  | _ => split <;> simp_all
theorem aindexAddr_loc {t : TypeId} {a i : AV} (h : ∀ k ∈ keys1 a, H' k = H k) : aindexAddr P H' t a i = aindexAddr P H t a i := by
  unfold aindexAddr
  cases a with
  | os b ver len => have := cur_loc (ver := ver) (h b (by simp [keys1])); split <;> simp_all
  | p b ver off => have := cur_loc (ver := ver) (h b (by simp [keys1])); split <;> simp_all
  | _ => split <;> simp_all
theorem aslice_loc {t : TypeId} {a : AV} {lo hi : Option AV} (h : ∀ k ∈ keys1 a, H' k = H k) : aslice P H' t a lo hi = aslice P H t a lo hi := by
  unfold aslice
  cases a with
  | os b ver len => have := cur_loc (ver := ver) (h b (by simp [keys1])); split <;> simp_all
  | _ => split <;> simp_all
theorem aconv_loc {s d : TypeId} {a : AV} (h : ∀ k ∈ keys1 a, H' k = H k) : aconv P H' s d a = aconv P H s d a := by
  unfold aconv
  cases a with
  | os b ver len => have := h b (by simp [keys1]); split <;> simp_all
  | _ => split <;> simp_all
theorem nv_loc {k : Nat} (h : H' k = H k) : nv H' k = nv H k := by unfold nv; rw [h]
theorem asrc_loc {sz : Nat} {a : AV} (h : ∀ k ∈ keys1 a, H' k = H k) : asrc H' sz a = asrc H sz a := by
  cases a <;> simp only [asrc]
  rw [h _ (by simp [keys1])]

/-- What a step leaves, at two heaps that agree where it looks. -/
def Loc (H H' : Hp) (ks : List Nat) (av : AV) (H1 : Hp) (r : Option (AV × Hp)) : Prop :=
  ∃ H1', r = some (av, H1') ∧ (∀ k ∈ ks, H1' k = H1 k) ∧ (∀ k, k ∉ ks → H1' k = H' k ∧ H1 k = H k)

theorem Loc.upd {ks : List Nat} {av : AV} {k : Nat} {x : Option Blk} (hk : ∀ k ∈ ks, H' k = H k) (hm : k ∈ ks) : Loc H H' ks av (upd H k x) (some (av, upd H' k x)) := by
  refine ⟨_, rfl, fun j hj => ?_, fun j hj => ?_⟩
  · by_cases e : j = k
    · rw [e, upd_same, upd_same]
    · rw [upd_ne _ _ e, upd_ne _ _ e]; exact hk j hj
  · have e : j ≠ k := fun e => hj (e ▸ hm)
    rw [upd_ne _ _ e, upd_ne _ _ e]; exact ⟨rfl, rfl⟩
theorem Loc.same {ks : List Nat} {av : AV} (hk : ∀ k ∈ ks, H' k = H k) : Loc H H' ks av H (some (av, H')) := ⟨H', rfl, hk, fun _ _ => ⟨rfl, rfl⟩⟩

theorem amake_loc {key : Nat} {t : TypeId} {l c av : AV} {H1 : Hp} {ks : List Nat} (h : amake P H key t l c = some (av, H1)) (hk : ∀ k ∈ ks, H' k = H k) (hm : key ∈ ks) : Loc H H' ks av H1 (amake P H' key t l c) := by
  unfold amake at h ⊢
  split at h
  · split at h
    · split at h
      · rename_i h1
        cases h
        rw [if_pos h1, nv_loc (hk _ hm)]
        exact .upd hk hm
      · cases h
    · cases h
  · cases h
theorem abuildSlice_loc {key : Nat} {t : TypeId} {len : Nat} {ps : List (Nat × AV)} {av : AV} {H1 : Hp} {ks : List Nat} (h : abuildSlice P H key t len ps = some (av, H1)) (hk : ∀ k ∈ ks, H' k = H k) (hm : key ∈ ks) :
    Loc H H' ks av H1 (abuildSlice P H' key t len ps) := by
  unfold abuildSlice at h ⊢
  split at h
  · split at h
    · split at h
      · rename_i h1
        rw [if_pos h1]
        generalize afill _ _ ps = x at h ⊢
        cases x with
        | none => cases h
        | some cells =>
          cases h
          rw [nv_loc (hk _ hm)]
          exact .upd hk hm
      · cases h
    · cases h
  · cases h
theorem astore_loc {t : TypeId} {a x : AV} {H1 : Hp} {ks : List Nat} (h : astore P H t a x = some H1) (hk : ∀ k ∈ ks, H' k = H k) (hm : ∀ k ∈ keys1 a, k ∈ ks) : Loc H H' ks .un H1 ((astore P H' t a x).map fun h => (.un, h)) := by
  unfold astore at h ⊢
  split at h
  · rename_i b ver off
    have hb : b ∈ ks := hm b (by simp [keys1])
    rw [hk b hb]
    split at h
    · split at h
      · split at h
        · rename_i h1
          cases h
          rw [if_pos h1]
          exact .upd hk hb
        · cases h
      · cases h
    · cases h
  · cases h
theorem aappend_loc {key : Nat} {t : TypeId} {x y av : AV} {H1 : Hp} {ks : List Nat} (h : aappend P H key t x y = some (av, H1)) (hk : ∀ k ∈ ks, H' k = H k) (hm : key ∈ ks) (hx : ∀ k ∈ keys1 x, k ∈ ks) (hy : ∀ k ∈ keys1 y, k ∈ ks) :
    Loc H H' ks av H1 (aappend P H' key t x y) := by
  unfold aappend at h ⊢
  split at h
  · split at h
    · rw [asrc_loc (H := H) (H' := H') fun k hk' => hk k (hy k hk')]
      split at h
      · split at h
        · rename_i h1
          rw [if_pos h1]
          split at h
          · split at h
            · rename_i h2
              cases h
              rw [if_pos h2]
              exact .same hk
            · rename_i h2
              rw [if_neg h2]
              split at h
              · rename_i h3
                cases h
                rw [if_pos h3, nv_loc (hk _ hm)]
                exact .upd hk hm
              · cases h
          · rename_i b ver len
            have hb : b ∈ ks := hx b (by simp [keys1])
            rw [hk b hb]
            split at h
            · split at h
              · rename_i h3
                cases h
                rw [if_pos h3]
                exact .upd hk hb
              · cases h
            · cases h
          · cases h
        · cases h
      · cases h
    · cases h
  · cases h
theorem Loc.read {ks : List Nat} {av : AV} {H1 : Hp} {x x' : Option AV} (h : x.map (fun v => (v, H)) = some (av, H1)) (hx : x' = x) (hk : ∀ k ∈ ks, H' k = H k) : Loc H H' ks av H1 (x'.map fun v => (v, H')) := by
  subst hx
  cases x' with
  | none => cases h
  | some v => cases h; exact .same hk

theorem aop_loc {o : Op} {key : Nat} {f f' : Operand → AV} {av : AV} {H1 : Hp} (h : aop P f H key o = some (av, H1)) (hf : ∀ x ∈ o.operands, f' x = f x) (hk : ∀ k ∈ acc f key o, H' k = H k) : Loc H H' (acc f key o) av H1 (aop P f' H' key o) := by
  have mem : ∀ x ∈ o.operands, ∀ k ∈ keys1 (f x), k ∈ acc f key o := fun x hx k hkk => by
    have : k ∈ keysOf f o := List.mem_flatMap.2 ⟨x, by simpa using hx, hkk⟩
    unfold acc; split
    · exact List.mem_cons_of_mem _ this
    · exact this
  have keyIn : wr o = true → key ∈ acc f key o := fun hw => by unfold acc; rw [if_pos hw]; simp
  have at1 : ∀ x ∈ o.operands, ∀ k ∈ keys1 (f x), H' k = H k := fun x hx k hkk => hk k (mem x hx k hkk)
  cases o with
  | move x => have e := hf x (by simp [Op.operands]); simp only [aop] at h ⊢; rw [e]; cases h; exact .same hk
  | assign x => have e := hf x (by simp [Op.operands]); simp only [aop] at h ⊢; rw [e]; cases h; exact .same hk
  | pick c a b =>
    have e1 := hf c (by simp [Op.operands]); have e2 := hf a (by simp [Op.operands]); have e3 := hf b (by simp [Op.operands])
    simp only [aop] at h ⊢; rw [e1, e2, e3]
    split at h
    · cases h; exact .same hk
    · cases h
  | alloc t =>
    simp only [aop] at h ⊢
    split at h
    · split at h
      · rename_i h1
        cases h
        rw [if_pos h1, nv_loc (hk _ (keyIn rfl))]
        exact .upd hk (keyIn rfl)
      · cases h
    · cases h
  | box t x =>
    have e := hf x (by simp [Op.operands])
    simp only [aop] at h ⊢
    rw [e]
    split at h
    · rename_i h1
      cases h
      rw [if_pos h1, nv_loc (hk _ (keyIn rfl))]
      exact .upd hk (keyIn rfl)
    · cases h
  | build t ps =>
    have e : (ps.toList.map fun p => (p.1, f' p.2)) = ps.toList.map fun p => (p.1, f p.2) := List.map_congr_left fun p hp => by
      rw [hf p.2 (by simp only [Op.operands]; simp; exact ⟨p.1, by simpa using hp⟩)]
    simp only [aop] at h ⊢; rw [e]; exact .read h rfl hk
  | buildSlice t n ps =>
    have e : (ps.toList.map fun p => (p.1, f' p.2)) = ps.toList.map fun p => (p.1, f p.2) := List.map_congr_left fun p hp => by
      rw [hf p.2 (by simp only [Op.operands]; simp; exact ⟨p.1, by simpa using hp⟩)]
    simp only [aop] at h ⊢; rw [e]; exact abuildSlice_loc h hk (keyIn rfl)
  | load t a => have e := hf a (by simp [Op.operands]); simp only [aop] at h ⊢; rw [e]; exact .read h (aload_loc (at1 a (by simp [Op.operands]))) hk
  | store t a x =>
    have e1 := hf a (by simp [Op.operands]); have e2 := hf x (by simp [Op.operands])
    simp only [aop] at h ⊢; rw [e1, e2]
    cases ha : astore P H t (f a) (f x) with
    | none => rw [ha] at h; cases h
    | some h' => rw [ha] at h; cases h; exact astore_loc ha hk (mem a (by simp [Op.operands]))
  | nilCheck x => have e := hf x (by simp [Op.operands]); simp only [aop] at h ⊢; rw [e]; exact .read h (anil_loc (at1 x (by simp [Op.operands]))) hk
  | binOp op t x y ty => have e1 := hf x (by simp [Op.operands]); have e2 := hf y (by simp [Op.operands]); simp only [aop] at h ⊢; rw [e1, e2]; exact .read h rfl hk
  | unOp op t x => have e := hf x (by simp [Op.operands]); simp only [aop] at h ⊢; rw [e]; exact .read h rfl hk
  | convert s d x => have e := hf x (by simp [Op.operands]); simp only [aop] at h ⊢; rw [e]; exact .read h (aconv_loc (at1 x (by simp [Op.operands]))) hk
  | makeFunc fn first caps =>
    have e : caps.toList.map f' = caps.toList.map f := List.map_congr_left fun x hx => hf x (by simp only [Op.operands]; simp; exact .inr (by simpa using hx))
    simp only [aop] at h ⊢; rw [e]
    split at h
    · rename_i h1; cases h; rw [if_pos h1]; exact .same hk
    · cases h
  | makeSlice t l c => have e1 := hf l (by simp [Op.operands]); have e2 := hf c (by simp [Op.operands]); simp only [aop] at h ⊢; rw [e1, e2]; exact amake_loc h hk (keyIn rfl)
  | slice t x lo hi mx =>
    have e1 := hf x (by simp [Op.operands])
    have e2 : lo.map f' = lo.map f := by cases lo with | none => rfl | some y => simp [hf y (by simp [Op.operands])]
    have e3 : hi.map f' = hi.map f := by cases hi with | none => rfl | some y => simp [hf y (by simp [Op.operands])]
    cases mx with
    | none => simp only [aop] at h ⊢; rw [e1, e2, e3]; exact .read h (aslice_loc (at1 x (by simp [Op.operands]))) hk
    | some m => cases h
  | fieldAddr t x i => have e := hf x (by simp [Op.operands]); simp only [aop] at h ⊢; rw [e]; exact .read h (afieldAddr_loc (at1 x (by simp [Op.operands]))) hk
  | field t x i => have e := hf x (by simp [Op.operands]); simp only [aop] at h ⊢; rw [e]; exact .read h rfl hk
  | indexAddr t x i => have e1 := hf x (by simp [Op.operands]); have e2 := hf i (by simp [Op.operands]); simp only [aop] at h ⊢; rw [e1, e2]; exact .read h (aindexAddr_loc (at1 x (by simp [Op.operands]))) hk
  | index t x i => have e1 := hf x (by simp [Op.operands]); have e2 := hf i (by simp [Op.operands]); simp only [aop] at h ⊢; rw [e1, e2]; exact .read h rfl hk
  | extract x i => have e := hf x (by simp [Op.operands]); simp only [aop] at h ⊢; rw [e]; exact .read h rfl hk
  | call c =>
    obtain ⟨callee, args, argTypes⟩ := c
    have hop : ∀ x ∈ args.toList, x ∈ (Op.call ⟨callee, args, argTypes⟩).operands := fun x hx => by simp only [Op.operands, Call.operands]; simp; exact .inr (by simpa using hx)
    simp only [aop] at h ⊢
    split at h
    · rename_i x t ha ht
      have e := hf x (hop x (by simp [ha]))
      rw [e]
      exact .read h (alen_loc (at1 x (hop x (by simp [ha])))) hk
    · rename_i x y t u ha ht
      have e1 := hf x (hop x (by simp [ha])); have e2 := hf y (hop y (by simp [ha]))
      rw [e1, e2]
      split at h
      · rename_i h1
        rw [if_pos h1]
        exact aappend_loc h hk (keyIn rfl) (mem x (hop x (by simp [ha]))) (mem y (hop y (by simp [ha])))
      · cases h
    · rename_i x y ha
      have e1 := hf x (hop x (by simp [ha])); have e2 := hf y (hop y (by simp [ha]))
      rw [e1, e2]
      split at h
      · cases h; exact .same hk
      · cases h
    · rename_i x y ha
      have e1 := hf x (hop x (by simp [ha])); have e2 := hf y (hop y (by simp [ha]))
      rw [e1, e2]
      split at h
      · cases h; exact .same hk
      · cases h
    · cases h
  | _ => cases h
end
end Go.Proofs.Ytpdpmcllpafjbaa

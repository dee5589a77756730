/- Words of this seat's proofs: regions in an open order: the steps. No program is named here. -/
import Derived.Test.YtpdpmcllpafjbaaDr2
namespace Go.Proofs.Ytpdpmcllpafjbaa
open Go.RowKit
set_option linter.unusedVariables false
set_option linter.unusedSimpArgs false

section
variable {P : Program} {N n : Nat} {F : En → Hp → Prop}
theorem s_drawn {id ops r ta H rs ta' H'} {U : List (Nat × Nat)} (hm : P.follows .mixedOrders = true) (heb : edgesBack ops = true) (hta : tmpsApart ops (befL ops.toList []) = true) (hU : openPairs ops (befL ops.toList []) = U)
    (h : RR P N n ops ops.toList ta H rs ta' H') (hk : ∀ p ∈ U, ∀ k ∈ (rs.getD p.1 ([], false)).1, k ∉ (rs.getD p.2 ([], false)).1) (k : VC P N n F r ta' H') : VC P N n F (.c (.region id ops true) :: r) ta H :=
  .drawn _ (RegOk.run hm heb rfl hta hU h hk) fun a b ⟨h1, h2⟩ => by rw [h1, h2]; exact k

theorem rr_op {all d op ty pos after os ta H v H1 ks b rs ta' H'} (hd : Nat.blt d N = true) (ho : aop P (aev ta) H (n + d) op = some (v, H1)) (ha : acc (aev ta) (n + d) op = ks) (hb : wr op = b) (k : RR P N n all os (upd ta d v) H1 rs ta' H') :
    RR P N n all (⟨some d, op, ty, pos, after, none⟩ :: os) ta H ((ks, b) :: rs) ta' H' := by
  subst ha; subst hb
  rw [Nat.blt_eq] at hd
  exact .cons (.op (o := ⟨some d, op, ty, pos, after, none⟩) (.inl rfl) (by simpa [dstOk] using hd) ho) k
theorem rr_opN {all op ty pos after os ta H v H1 ks b rs ta' H'} (ho : aop P (aev ta) H n op = some (v, H1)) (ha : acc (aev ta) n op = ks) (hb : wr op = b) (k : RR P N n all os ta H1 rs ta' H') :
    RR P N n all (⟨none, op, ty, pos, after, none⟩ :: os) ta H ((ks, b) :: rs) ta' H' := by
  subst ha; subst hb
  exact .cons (.op (o := ⟨none, op, ty, pos, after, none⟩) (.inl rfl) rfl ho) k
theorem rr_opG {all d op ty pos after os ta H v H1 ks b rs ta' H' j w} (hd : Nat.blt d N = true) (hy : ayield all ta j = some (some w)) (ho : aop P (aev ta) H (n + d) op = some (v, H1)) (ha : acc (aev ta) (n + d) op = ks) (hb : wr op = b)
    (k : RR P N n all os (upd ta d v) H1 rs ta' H') : RR P N n all (⟨some d, op, ty, pos, after, some (j, w)⟩ :: os) ta H ((ks, b) :: rs) ta' H' := by
  subst ha; subst hb
  rw [Nat.blt_eq] at hd
  exact .cons (.op (o := ⟨some d, op, ty, pos, after, some (j, w)⟩) (.inr ⟨j, w, rfl, hy⟩) (by simpa [dstOk] using hd) ho) k
theorem rr_skip {all d op ty pos after os ta H rs ta' H' j w y} (hd : Nat.blt d N = true) (hy : ayield all ta j = some y) (hne : y ≠ some w) (k : RR P N n all os (upd ta d .un) H rs ta' H') :
    RR P N n all (⟨some d, op, ty, pos, after, some (j, w)⟩ :: os) ta H (([], false) :: rs) ta' H' := by
  rw [Nat.blt_eq] at hd
  exact .cons (.skip (o := ⟨some d, op, ty, pos, after, some (j, w)⟩) rfl hy hne (by simpa [dstOk] using hd)) k
theorem rr_skipT {all d op ty pos after os ta H rs ta' H' j} (hd : Nat.blt d N = true) (hy : ayield all ta j = some (some false)) (k : RR P N n all os (upd ta d .un) H rs ta' H') :
    RR P N n all (⟨some d, op, ty, pos, after, some (j, true)⟩ :: os) ta H (([], false) :: rs) ta' H' := rr_skip hd hy (by simp) k
theorem rr_skipF {all d op ty pos after os ta H rs ta' H' j} (hd : Nat.blt d N = true) (hy : ayield all ta j = some (some true)) (k : RR P N n all os (upd ta d .un) H rs ta' H') :
    RR P N n all (⟨some d, op, ty, pos, after, some (j, false)⟩ :: os) ta H (([], false) :: rs) ta' H' := rr_skip hd hy (by simp) k
theorem rr_skipU {all d op ty pos after os ta H rs ta' H' j w} (hd : Nat.blt d N = true) (hy : ayield all ta j = some none) (k : RR P N n all os (upd ta d .un) H rs ta' H') :
    RR P N n all (⟨some d, op, ty, pos, after, some (j, w)⟩ :: os) ta H (([], false) :: rs) ta' H' := rr_skip hd hy (by simp) k
theorem rr_call {all d ty pos after os ta H v rs ta' H' f args ts g caps as} (hd : Nat.blt d N = true) (hf : aev ta f = .fn (.func g) caps) (ha : args.toList.map (aev ta) ++ caps = as) (hc : ∀ H1, ACalls P g as H1 (fun r H' => r = v ∧ H' = H1))
    (k : RR P N n all os (upd ta d v) H rs ta' H') : RR P N n all (⟨some d, .call { callee := .value f, args := args, argTypes := ts }, ty, pos, after, none⟩ :: os) ta H (([], false) :: rs) ta' H' := by
  rw [Nat.blt_eq] at hd
  exact .cons (.call [] (o := ⟨some d, .call { callee := .value f, args := args, argTypes := ts }, ty, pos, after, none⟩) (.inl rfl) (by simpa [dstOk] using hd) rfl hf (fun H1 _ => ha ▸ hc H1)) k
theorem rr_callK {all d ty pos after os ta H v rs ta' H' f args ts g caps as} (ks : List Nat) (hd : Nat.blt d N = true) (hf : aev ta f = .fn (.func g) caps) (ha : args.toList.map (aev ta) ++ caps = as) (hc : ∀ H1, (∀ k ∈ ks, H1 k = H k) → ACalls P g as H1 (fun r H' => r = v ∧ H' = H1))
    (k : RR P N n all os (upd ta d v) H rs ta' H') : RR P N n all (⟨some d, .call { callee := .value f, args := args, argTypes := ts }, ty, pos, after, none⟩ :: os) ta H ((ks, false) :: rs) ta' H' := by
  rw [Nat.blt_eq] at hd
  exact .cons (.call ks (o := ⟨some d, .call { callee := .value f, args := args, argTypes := ts }, ty, pos, after, none⟩) (.inl rfl) (by simpa [dstOk] using hd) rfl hf (fun H1 h1 => ha ▸ hc H1 h1)) k
theorem rr_callG {all d ty pos after os ta H v rs ta' H' f args ts g caps as j w} (hd : Nat.blt d N = true) (hy : ayield all ta j = some (some w)) (hf : aev ta f = .fn (.func g) caps) (ha : args.toList.map (aev ta) ++ caps = as)
    (hc : ∀ H1, ACalls P g as H1 (fun r H' => r = v ∧ H' = H1)) (k : RR P N n all os (upd ta d v) H rs ta' H') :
    RR P N n all (⟨some d, .call { callee := .value f, args := args, argTypes := ts }, ty, pos, after, some (j, w)⟩ :: os) ta H (([], false) :: rs) ta' H' := by
  rw [Nat.blt_eq] at hd
  exact .cons (.call [] (o := ⟨some d, .call { callee := .value f, args := args, argTypes := ts }, ty, pos, after, some (j, w)⟩) (.inr ⟨j, w, rfl, hy⟩) (by simpa [dstOk] using hd) rfl hf (fun H1 _ => ha ▸ hc H1)) k
end
/- Lists of lemmas, for simp. -/
theorem vsA : type_of% (And.intro @one_b (And.intro @solid_b (And.intro @cells_b (And.intro @one_i (And.intro @solid_i (And.intro @cells_i (And.intro @one_s (And.intro @solid_s (And.intro @cells_s (And.intro @one_np (And.intro @solid_np (And.intro @cells_np (And.intro @one_ns (And.intro @solid_ns (And.intro @cells_ns (And.intro @one_nf (And.intro @solid_nf (And.intro @cells_nf (And.intro @one_p (And.intro @solid_p (And.intro @cells_p (And.intro @one_pi (And.intro @solid_pi (And.intro @cells_pi (And.intro @one_is (And.intro @solid_is (And.intro @cells_is (And.intro @one_os (And.intro @solid_os (And.intro @cells_os (And.intro @one_fn (And.intro @solid_fn (And.intro @cells_fn (And.intro @solid_agg (And.intro @solid_tup (And.intro @cells_agg (And.intro @one_agg (And.intro @cells_one (@solid_one))))))))))))))))))))))))))))))))))))))) := And.intro @one_b (And.intro @solid_b (And.intro @cells_b (And.intro @one_i (And.intro @solid_i (And.intro @cells_i (And.intro @one_s (And.intro @solid_s (And.intro @cells_s (And.intro @one_np (And.intro @solid_np (And.intro @cells_np (And.intro @one_ns (And.intro @solid_ns (And.intro @cells_ns (And.intro @one_nf (And.intro @solid_nf (And.intro @cells_nf (And.intro @one_p (And.intro @solid_p (And.intro @cells_p (And.intro @one_pi (And.intro @solid_pi (And.intro @cells_pi (And.intro @one_is (And.intro @solid_is (And.intro @cells_is (And.intro @one_os (And.intro @solid_os (And.intro @cells_os (And.intro @one_fn (And.intro @solid_fn (And.intro @cells_fn (And.intro @solid_agg (And.intro @solid_tup (And.intro @cells_agg (And.intro @one_agg (And.intro @cells_one (@solid_one))))))))))))))))))))))))))))))))))))))
theorem vsB : type_of% (And.intro @List.toList_toArray.{0} (And.intro @List.map_cons.{0, 0} (And.intro @List.map_nil.{0, 0} (And.intro @Option.map_some.{0, 0} (And.intro @Option.map_none.{0, 0} (And.intro @List.head?_cons.{0} (And.intro @List.drop_succ_cons.{0} (And.intro @List.drop_zero.{0} (And.intro @List.take_succ_cons.{0} (And.intro @List.take_zero.{0} (And.intro @List.length_cons.{0} (And.intro @List.length_nil.{0} (And.intro @List.cons_append.{0} (And.intro @List.nil_append.{0} (And.intro @List.append_nil.{0} (And.intro @List.all_cons.{0} (And.intro @List.all_nil.{0} (And.intro @List.drop_nil.{0} (And.intro @List.take_nil.{0} (And.intro @List.size_toArray.{0} (And.intro @List.getElem?_cons_zero.{0} (And.intro @List.getElem?_cons_succ.{0} (And.intro @List.getElem?_nil.{0} (And.intro @List.getElem?_map.{0, 0} (And.intro @List.getElem?_toArray.{0} (And.intro @Option.getD_some.{0} (And.intro @List.replicate_succ.{0} (And.intro @List.replicate_zero.{0} (And.intro @List.flatten_cons.{0} (And.intro @List.flatten_nil.{0} (And.intro @List.length_append.{0} (And.intro @List.length_map.{0, 0} (And.intro @Int.toNat_natCast (And.intro @Int.toNat_zero (And.intro @Int.toNat_one (And.intro @Int.natCast_nonneg (And.intro @Int.ofNat_lt (And.intro @beq_self_eq_true.{0} (And.intro @true_and (And.intro @and_true (And.intro @and_self (And.intro @Bool.true_and (And.intro @Bool.and_true (And.intro @Bool.and_self (And.intro @Bool.not_true (And.intro @Bool.not_false (And.intro @decide_true (And.intro @decide_false (And.intro @not_true_eq_false (And.intro @not_false_eq_true (And.intro @Bool.false_eq_true (And.intro @Nat.add_left_cancel_iff (And.intro @Nat.add_eq_left (And.intro @Nat.zero_add (And.intro @Nat.add_zero (And.intro @Nat.zero_mul (And.intro @Nat.one_mul (And.intro @Nat.mul_one (And.intro @Nat.zero_le (And.intro @Nat.le_refl (And.intro @decide_eq_true_eq (@Int.cast_ofNat_Int)))))))))))))))))))))))))))))))))))))))))))))))))))))))))))))) := And.intro @List.toList_toArray.{0} (And.intro @List.map_cons.{0, 0} (And.intro @List.map_nil.{0, 0} (And.intro @Option.map_some.{0, 0} (And.intro @Option.map_none.{0, 0} (And.intro @List.head?_cons.{0} (And.intro @List.drop_succ_cons.{0} (And.intro @List.drop_zero.{0} (And.intro @List.take_succ_cons.{0} (And.intro @List.take_zero.{0} (And.intro @List.length_cons.{0} (And.intro @List.length_nil.{0} (And.intro @List.cons_append.{0} (And.intro @List.nil_append.{0} (And.intro @List.append_nil.{0} (And.intro @List.all_cons.{0} (And.intro @List.all_nil.{0} (And.intro @List.drop_nil.{0} (And.intro @List.take_nil.{0} (And.intro @List.size_toArray.{0} (And.intro @List.getElem?_cons_zero.{0} (And.intro @List.getElem?_cons_succ.{0} (And.intro @List.getElem?_nil.{0} (And.intro @List.getElem?_map.{0, 0} (And.intro @List.getElem?_toArray.{0} (And.intro @Option.getD_some.{0} (And.intro @List.replicate_succ.{0} (And.intro @List.replicate_zero.{0} (And.intro @List.flatten_cons.{0} (And.intro @List.flatten_nil.{0} (And.intro @List.length_append.{0} (And.intro @List.length_map.{0, 0} (And.intro @Int.toNat_natCast (And.intro @Int.toNat_zero (And.intro @Int.toNat_one (And.intro @Int.natCast_nonneg (And.intro @Int.ofNat_lt (And.intro @beq_self_eq_true.{0} (And.intro @true_and (And.intro @and_true (And.intro @and_self (And.intro @Bool.true_and (And.intro @Bool.and_true (And.intro @Bool.and_self (And.intro @Bool.not_true (And.intro @Bool.not_false (And.intro @decide_true (And.intro @decide_false (And.intro @not_true_eq_false (And.intro @not_false_eq_true (And.intro @Bool.false_eq_true (And.intro @Nat.add_left_cancel_iff (And.intro @Nat.add_eq_left (And.intro @Nat.zero_add (And.intro @Nat.add_zero (And.intro @Nat.zero_mul (And.intro @Nat.one_mul (And.intro @Nat.mul_one (And.intro @Nat.zero_le (And.intro @Nat.le_refl (And.intro @decide_eq_true_eq (@Int.cast_ofNat_Int)))))))))))))))))))))))))))))))))))))))))))))))))))))))))))))

section
variable {P : Program} {N n : Nat} {F : En → Hp → Prop}
/- guards and conditions, met after they are computed -/
def Gq (x : Option (Option Bool)) (want : Bool) (A B : Prop) : Prop := ∃ z, x = some z ∧ (z = some want → A) ∧ (z ≠ some want → B)
def Iq (x : AV) (A B : Prop) : Prop := ∃ b, x = .b b ∧ (b = true → A) ∧ (b = false → B)
theorem s_gq {all d op ty pos after os r ta H j want} {x : Option (Option Bool)} (hd : Nat.blt d N = true) (hy : ayield all ta j = x)
    (h : Gq x want (VC P N n F (.ops all (⟨some d, op, ty, pos, after, none⟩ :: os) :: r) ta H) (VC P N n F (.ops all os :: r) (upd ta d .un) H)) :
    VC P N n F (.ops all (⟨some d, op, ty, pos, after, some (j, want)⟩ :: os) :: r) ta H := by
  obtain ⟨z, rfl, h1, h2⟩ := h
  exact .guard hy (by rw [Nat.blt_eq] at hd; simpa [dstOk] using hd) h1 h2
theorem s_iq {c x y r ta H} {v : AV} (hc : aev ta c = v) (h : Iq v (VC P N n F (.c x :: r) ta H) (VC P N n F (.c y :: r) ta H)) : VC P N n F (.c (.cond c x y) :: r) ta H := by
  obtain ⟨b, rfl, h1, h2⟩ := h
  exact .cond hc h1 h2
theorem gqT {want : Bool} {A B : Prop} (h : A) : Gq (some (some want)) want A B := ⟨_, rfl, fun _ => h, fun e => absurd rfl e⟩
theorem gqF {A B : Prop} (h : B) : Gq (some (some false)) true A B := ⟨_, rfl, fun e => by (cases e), fun _ => h⟩
theorem gqF' {A B : Prop} (h : B) : Gq (some (some true)) false A B := ⟨_, rfl, fun e => by (cases e), fun _ => h⟩
theorem gqU {want : Bool} {A B : Prop} (h : B) : Gq (some none) want A B := ⟨_, rfl, fun e => by (cases e), fun _ => h⟩
theorem iqT {A B : Prop} (h : A) : Iq (.b true) A B := ⟨_, rfl, fun _ => h, fun e => by cases e⟩
theorem iqF {A B : Prop} (h : B) : Iq (.b false) A B := ⟨_, rfl, fun e => by (cases e), fun _ => h⟩
theorem vc_id {items ta H} (h : VC P N n F items ta H) : VC P N n F items ta H := h
end
end Go.Proofs.Ytpdpmcllpafjbaa

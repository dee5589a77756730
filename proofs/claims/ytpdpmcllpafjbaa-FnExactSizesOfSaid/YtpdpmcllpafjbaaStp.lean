/- Words of this seat's proofs: the walk, step by step, for simp. No program is named here. -/
import Derived.Test.YtpdpmcllpafjbaaVc3
import Derived.IntWalk
namespace Go.Proofs.Ytpdpmcllpafjbaa
open Go.RowKit
set_option linter.unusedVariables false
set_option linter.unusedSimpArgs false

section
variable {P : Program} {N n : Nat} {F : En → Hp → Prop}

/-- The walk goes on behind an operation. -/
def Nx (P : Program) (N n : Nat) (F : En → Hp → Prop) (all : Array Oper) (os : List Oper) (r : List It) (ta : En) (dst : Option Nat) (x : Option (AV × Hp)) : Prop :=
  ∃ av H', x = some (av, H') ∧ dstOk N dst = true ∧ VC P N n F (.ops all os :: r) (aput ta dst av) H'
def Cd (P : Program) (N n : Nat) (F : En → Hp → Prop) (x y : Code) (r : List It) (ta : En) (H : Hp) (t : AV) : Prop :=
  ∃ b, t = .b b ∧ (b = true → VC P N n F (.c x :: r) ta H) ∧ (b = false → VC P N n F (.c y :: r) ta H)
def Gd (P : Program) (N n : Nat) (F : En → Hp → Prop) (all : Array Oper) (o : Oper) (os : List Oper) (r : List It) (ta : En) (H : Hp) (want : Bool) (y : Option (Option Bool)) : Prop :=
  ∃ z, y = some z ∧ dstOk N o.dst = true ∧ (z = some want → VC P N n F (.ops all (⟨o.dst, o.op, o.type, o.pos, o.after, none⟩ :: os) :: r) ta H) ∧ (z ≠ some want → VC P N n F (.ops all os :: r) (aput ta o.dst .un) H)

theorem s_opS {all d op ty pos after os r ta H av H'} (hd : Nat.blt d N = true) (ho : aop P (aev ta) H (n + d) op = some (av, H')) (h : VC P N n F (.ops all os :: r) (upd ta d av) H') :
    VC P N n F (.ops all (⟨some d, op, ty, pos, after, none⟩ :: os) :: r) ta H := .op rfl (by rw [Nat.blt_eq] at hd; simpa [dstOk] using hd) ho h
theorem s_opN {all op ty pos after os r ta H av H'} (ho : aop P (aev ta) H n op = some (av, H')) (h : VC P N n F (.ops all os :: r) ta H') :
    VC P N n F (.ops all (⟨none, op, ty, pos, after, none⟩ :: os) :: r) ta H := .op rfl rfl ho h
theorem s_callS {all d ty pos after os r ta H f args ts g caps as} {R : AV → Hp → Prop} (hd : Nat.blt d N = true) (hf : aev ta f = .fn (.func g) caps) (ha : args.toList.map (aev ta) ++ caps = as)
    (hc : ACalls P g as H R) (h : ∀ x H', R x H' → VC P N n F (.ops all os :: r) (upd ta d x) H') : VC P N n F (.ops all (⟨some d, .call { callee := .value f, args := args, argTypes := ts }, ty, pos, after, none⟩ :: os) :: r) ta H :=
  .call R rfl (by rw [Nat.blt_eq] at hd; simpa [dstOk] using hd) rfl hf (ha ▸ hc) h
theorem s_callI {all d ty pos after os r ta H f args ts g caps as v G} (hd : Nat.blt d N = true) (hf : aev ta f = .fn (.func g) caps) (ha : args.toList.map (aev ta) ++ caps = as)
    (hc : ACalls P g as H (fun r H' => r = v ∧ H' = G)) (h : VC P N n F (.ops all os :: r) (upd ta d v) G) : VC P N n F (.ops all (⟨some d, .call { callee := .value f, args := args, argTypes := ts }, ty, pos, after, none⟩ :: os) :: r) ta H :=
  s_callS hd hf ha hc fun x H' ⟨h1, h2⟩ => by rw [h1, h2]; exact h
theorem s_gd {all d op ty pos after os r ta H j want} {x : Bool} (hd : Nat.blt d N = true) (hy : ayield all ta j = some (some x)) (h1 : x = want → VC P N n F (.ops all (⟨some d, op, ty, pos, after, none⟩ :: os) :: r) ta H)
    (h2 : x ≠ want → VC P N n F (.ops all os :: r) (upd ta d .un) H) : VC P N n F (.ops all (⟨some d, op, ty, pos, after, some (j, want)⟩ :: os) :: r) ta H :=
  .guard hy (by rw [Nat.blt_eq] at hd; simpa [dstOk] using hd) (fun e => h1 (by simpa using e)) (fun e => h2 (by simpa using e))
theorem s_gdT {all d op ty pos after os r ta H j want} (hd : Nat.blt d N = true) (hy : ayield all ta j = some (some want)) (h1 : VC P N n F (.ops all (⟨some d, op, ty, pos, after, none⟩ :: os) :: r) ta H) :
    VC P N n F (.ops all (⟨some d, op, ty, pos, after, some (j, want)⟩ :: os) :: r) ta H := s_gd hd hy (fun _ => h1) (fun e => absurd rfl e)
theorem s_gdF {all d op ty pos after os r ta H j} (hd : Nat.blt d N = true) (hy : ayield all ta j = some (some false)) (h1 : VC P N n F (.ops all os :: r) (upd ta d .un) H) :
    VC P N n F (.ops all (⟨some d, op, ty, pos, after, some (j, true)⟩ :: os) :: r) ta H := s_gd hd hy (fun e => by cases e) (fun _ => h1)
theorem s_gdF' {all d op ty pos after os r ta H j} (hd : Nat.blt d N = true) (hy : ayield all ta j = some (some true)) (h1 : VC P N n F (.ops all os :: r) (upd ta d .un) H) :
    VC P N n F (.ops all (⟨some d, op, ty, pos, after, some (j, false)⟩ :: os) :: r) ta H := s_gd hd hy (fun e => by cases e) (fun _ => h1)
theorem s_gdU {all d op ty pos after os r ta H j want} (hd : Nat.blt d N = true) (hy : ayield all ta j = some none) (h1 : VC P N n F (.ops all os :: r) (upd ta d .un) H) :
    VC P N n F (.ops all (⟨some d, op, ty, pos, after, some (j, want)⟩ :: os) :: r) ta H := .guard hy (by rw [Nat.blt_eq] at hd; simpa [dstOk] using hd) (fun e => by cases e) (fun _ => h1)
theorem fin_flat {ta : En} {H' H0 : Hp} {rs : List ResultVar} {r : AV} {R : AV → Hp → Prop} (hr : ares P ta H' rs = some r) (hf : r.flat = true) (hcut : cutN n H' = H0) (hc : CloH n H') (hR : R r H0) : ∃ r, ares P ta H' rs = some r ∧ Ret n r H' R :=
  ⟨r, hr, Ret.pub hc (.flat hf) (by rw [hcut]; exact hR)⟩
theorem fin_low {ta : En} {H' H0 : Hp} {rs : List ResultVar} {r r' : AV} {R : AV → Hp → Prop} (hr : ares P ta H' rs = some r) (hl : Low n H0 H') (hs : Sup n H0) (hc : CloH n H0) (hp : Pub H' n r r') (hR : R r' H0) : ∃ r, ares P ta H' rs = some r ∧ Ret n r H' R :=
  ⟨r, hr, Ret.pub (hl.clo hc) hp (by rw [hl.cut hs]; exact hR)⟩
/- a number -/
def aint : AV → Int
  | .i _ n => n
  | _ => 0
theorem wrap_in {x : Int} (h0 : -9223372036854775808 ≤ x) (h1 : x ≤ 9223372036854775807) : IntKind.i64.wrap x = x := IntWalk.i64_in _ (by omega)
theorem wrapN {k : Nat} (h : k < 9223372036854775807) : IntKind.i64.wrap ((k : Int) + 1) = ((k + 1 : Nat) : Int) := by rw [wrap_in (by omega) (by omega)]; omega
/- a condition -/
theorem s_if {c x y r ta H} {p : Prop} {inst : Decidable p} (hc : aev ta c = .b (decide p)) (h1 : p → VC P N n F (.c x :: r) ta H) (h2 : ¬ p → VC P N n F (.c y :: r) ta H) : VC P N n F (.c (.cond c x y) :: r) ta H :=
  .cond hc (fun e => h1 (of_decide_eq_true e)) (fun e => h2 (of_decide_eq_false e))
theorem s_ifB {c x y r ta H} {t : Bool} (hc : aev ta c = .b t) (h1 : t = true → VC P N n F (.c x :: r) ta H) (h2 : t = false → VC P N n F (.c y :: r) ta H) : VC P N n F (.c (.cond c x y) :: r) ta H := .cond hc h1 h2
theorem s_ifT {c x y r ta H} (hc : aev ta c = .b true) (h1 : VC P N n F (.c x :: r) ta H) : VC P N n F (.c (.cond c x y) :: r) ta H := .cond hc (fun _ => h1) (fun e => by cases e)
theorem s_ifF {c x y r ta H} (hc : aev ta c = .b false) (h1 : VC P N n F (.c y :: r) ta H) : VC P N n F (.c (.cond c x y) :: r) ta H := .cond hc (fun e => by cases e) (fun _ => h1)
theorem ienv1 (a : AV) : ienv [a] = upd (fun _ => .un) 0 a := by funext t; unfold ienv upd; rcases t with _ | t <;> simp
theorem ienv2 (a b : AV) : ienv [a, b] = upd (upd (fun _ => .un) 0 a) 1 b := by funext t; unfold ienv upd; rcases t with _ | _ | t <;> simp
theorem ienv3 (a b c : AV) : ienv [a, b, c] = upd (upd (upd (fun _ => .un) 0 a) 1 b) 2 c := by funext t; unfold ienv upd; rcases t with _ | _ | _ | t <;> simp
theorem ienv4 (a b c d : AV) : ienv [a, b, c, d] = upd (upd (upd (upd (fun _ => .un) 0 a) 1 b) 2 c) 3 d := by funext t; unfold ienv upd; rcases t with _ | _ | _ | _ | t <;> simp
/- each step, backwards -/
theorem s_nil {ta H} (h : F ta H) : VC P N n F [] ta H := .nil h
theorem s_op {all o os r ta H} (hg : o.guard = none) (h : Nx P N n F all os r ta o.dst (aop P (aev ta) H (keyOf n o.dst) o.op)) : VC P N n F (.ops all (o :: os) :: r) ta H := by
  obtain ⟨av, H', h1, h2, h3⟩ := h
  exact .op hg h2 h1 h3
theorem s_nx {all os r ta dst av H'} (hd : dstOk N dst = true) (h : VC P N n F (.ops all os :: r) (aput ta dst av) H') : Nx P N n F all os r ta dst (some (av, H')) := ⟨av, H', rfl, hd, h⟩
theorem s_nxif {all os r ta dst} {c : Prop} [Decidable c] {x : Option (AV × Hp)} (hc : c) (h : Nx P N n F all os r ta dst x) : Nx P N n F all os r ta dst (if c then x else none) := by rw [if_pos hc]; exact h
theorem s_cond {c x y r ta H} (h : Cd P N n F x y r ta H (aev ta c)) : VC P N n F (.c (.cond c x y) :: r) ta H := by
  obtain ⟨b, h1, h2, h3⟩ := h
  exact .cond h1 h2 h3
theorem s_cdT {x y r ta H} (h : VC P N n F (.c x :: r) ta H) : Cd P N n F x y r ta H (.b true) := ⟨true, rfl, fun _ => h, fun e => by cases e⟩
theorem s_cdF {x y r ta H} (h : VC P N n F (.c y :: r) ta H) : Cd P N n F x y r ta H (.b false) := ⟨false, rfl, fun e => by (cases e), fun _ => h⟩
theorem s_cdD {x y r ta H} {p : Prop} [Decidable p] (h1 : p → VC P N n F (.c x :: r) ta H) (h2 : ¬ p → VC P N n F (.c y :: r) ta H) : Cd P N n F x y r ta H (.b (decide p)) :=
  ⟨_, rfl, fun e => h1 (of_decide_eq_true e), fun e => h2 (of_decide_eq_false e)⟩
theorem s_cdN {x y r ta H} {t : Bool} (h : Cd P N n F y x r ta H (.b t)) : Cd P N n F x y r ta H (.b (!t)) := by
  obtain ⟨b, h1, h2, h3⟩ := h
  cases h1
  exact ⟨_, rfl, fun e => h3 (by simpa using e), fun e => h2 (by simpa using e)⟩
theorem s_cdB {x y r ta H} {t : Bool} (h1 : t = true → VC P N n F (.c x :: r) ta H) (h2 : t = false → VC P N n F (.c y :: r) ta H) : Cd P N n F x y r ta H (.b t) := ⟨_, rfl, h1, h2⟩
theorem s_guard {all os r ta H dst op ty pos after j want} (h : Gd P N n F all ⟨dst, op, ty, pos, after, none⟩ os r ta H want (ayield all ta j)) : VC P N n F (.ops all (⟨dst, op, ty, pos, after, some (j, want)⟩ :: os) :: r) ta H := by
  obtain ⟨z, h1, h2, h3, h4⟩ := h
  exact .guard h1 h2 h3 h4
theorem s_gdY {all o os r ta H want} (hd : dstOk N o.dst = true) (h : VC P N n F (.ops all (⟨o.dst, o.op, o.type, o.pos, o.after, none⟩ :: os) :: r) ta H) : Gd P N n F all o os r ta H want (some (some want)) :=
  ⟨_, rfl, hd, fun _ => h, fun e => absurd rfl e⟩
theorem s_gdN {all o os r ta H} {z : Option Bool} {want : Bool} (hd : dstOk N o.dst = true) (hz : z ≠ some want) (h : VC P N n F (.ops all os :: r) (aput ta o.dst .un) H) : Gd P N n F all o os r ta H want (some z) :=
  ⟨_, rfl, hd, fun e => absurd e hz, fun _ => h⟩
theorem s_call {all o os r ta H f args ts g caps} (R : AV → Hp → Prop) (hg : o.guard = none) (hd : dstOk N o.dst = true) (ho : o.op = .call { callee := .value f, args := args, argTypes := ts }) (hf : aev ta f = .fn (.func g) caps)
    (hc : ACalls P g (args.toList.map (aev ta) ++ caps) H (fun x H' => VC P N n F (.ops all os :: r) (aput ta o.dst x) H')) : VC P N n F (.ops all (o :: os) :: r) ta H :=
  .call _ hg hd ho hf hc fun _ _ h => h
end
end Go.Proofs.Ytpdpmcllpafjbaa

/- Words of this seat's proofs: between the contracts over values and those over abstract values. No program is named here. -/
import Derived.Test.YtpdpmcllpafjbaaOwn
namespace Go.Proofs.Ytpdpmcllpafjbaa
open Go.RowKit
set_option linter.unusedVariables false
set_option linter.unusedSimpArgs false

/-- Elements that have the same cells in both worlds. -/
class AEnc (α : Type) [Enc α] where
  cs : α → List AV
  len : ∀ x, (cs x).length = Enc.sz α
  get : ∀ (M : Mem) (x : α) (j : Nat) (h : j < (cs x).length) (v : Value), T M (cs x)[j] v ↔ (Enc.enc x)[j]? = some v

variable {α : Type} [Enc α] [AEnc α]

theorem aenc_flat (M : Mem) : ∀ (xs : List α) (j : Nat) (h : j < (xs.map AEnc.cs).flatten.length) (v : Value), T M (xs.map AEnc.cs).flatten[j] v ↔ (cellsOf xs)[j]? = some v := by
  intro xs
  induction xs with
  | nil => intro j h; simp at h
  | cons x xs ih =>
    intro j h v
    have e1 : ((x :: xs).map AEnc.cs).flatten = AEnc.cs x ++ (xs.map AEnc.cs).flatten := by simp
    have e2 : cellsOf (x :: xs) = Enc.enc x ++ cellsOf xs := by simp [cellsOf]
    have hl := AEnc.len x
    have hl2 := Enc.len x
    simp only [e1, e2]
    rw [List.getElem_append]
    by_cases hj : j < (AEnc.cs x).length
    · rw [dif_pos hj, List.getElem?_append_left (by omega)]
      exact AEnc.get M x j hj v
    · rw [dif_neg hj, List.getElem?_append_right (by omega)]
      have e3 : j - (Enc.enc x).length = j - (AEnc.cs x).length := by omega
      rw [e3]
      exact ih _ _ v
theorem aenc_len (xs : List α) : (xs.map AEnc.cs).flatten.length = (cellsOf xs).length := by
  rw [cellsOf_length, flat_len _ (Enc.sz α) (fun e he => by obtain ⟨x, _, rfl⟩ := List.mem_map.1 he; exact AEnc.len x), List.length_map]

theorem V.slAt {M : Mem} {ρ : Nat → Nat × Nat} {H : Hp} {w : World} (hs : Sim M ρ H w) {xs : List α} {v : Value} (h : V M ρ H (.is (Enc.sz α) (xs.map AEnc.cs)) v) :
    ∃ A cap, v = .slice A xs.length cap ∧ SlAt w (· < w.heap.size) A cap xs := by
  obtain ⟨A, cap, rfl, h1, h2, h3⟩ := h.inv_is
  rw [List.length_map] at h1 ⊢
  refine ⟨A, cap, rfl, h1, h2, ?_⟩
  rcases h3 with h3 | ⟨us, g, o, cs, el, fz, rfl, k1, k2, k3, k4, k5⟩
  · left
    have : xs = [] := by simpa using h3
    rw [this]; rfl
  · right
    refine ⟨g, o, rfl, hs.lt k1, fun i hi => ?_⟩
    have hl := aenc_len xs
    have e := (aenc_flat M xs i (by omega) _).1 (k4 i (by omega) (by omega))
    rw [e]
    have hh := hs.mem _ _ k1
    simp only [World.cell?, hh]
    exact k5 i (by omega)

/-- The memory as it lies, as memory that nobody writes. -/
def memAll (w : World) : Mem := fun g => w.heap[g]?
theorem sim_all (w : World) (ρ : Nat → Nat × Nat) : Sim (memAll w) ρ none0 w := ⟨fun _ _ h => h, fun _ _ h => (nomatch h), fun _ _ _ _ h _ _ => (nomatch h), ⟨0, fun _ _ => rfl⟩⟩

theorem T.slAt {w : World} {A : Option Addr} {cap : Nat} {xs : List α} (h : SlAt w (· < w.heap.size) A cap xs) : T (memAll w) (.is (Enc.sz α) (xs.map AEnc.cs)) (.slice A xs.length cap) := by
  obtain ⟨h1, h2, h3⟩ := h
  by_cases h0 : xs = []
  · subst h0; exact .is0 _ _ _ h2
  · have hl := aenc_len xs
    have hp := Enc.pos (α := α)
    have hn : 0 < (cellsOf xs).length := by
      rw [cellsOf_length]
      exact Nat.mul_pos (List.length_pos_iff.2 h0) hp
    rcases h3 with h3 | ⟨b, o, rfl, hb, hc⟩
    · rw [h3] at hn; simp at hn
    · have hblk : ∃ cs el fz, w.heap[b]? = some (.cells cs el fz) ∧ ∀ i, i < (cellsOf xs).length → cs[o + i]? = (cellsOf xs)[i]? := by
        have h0 := hc 0 hn
        simp only [World.cell?] at h0
        cases hw : w.heap[b]? with
        | none => rw [hw] at h0; rw [List.getElem?_eq_getElem hn] at h0; cases h0
        | some x =>
          rw [hw] at h0
          cases x with
          | cells cs el fz =>
            refine ⟨cs, el, fz, rfl, fun i hi => ?_⟩
            have := hc i hi
            simp only [World.cell?, hw] at this
            exact this
          | _ => rw [List.getElem?_eq_getElem hn] at h0; cases h0
      obtain ⟨cs, el, fz, k1, k2⟩ := hblk
      have := T.is (M := memAll w) (sz := Enc.sz α) (es := xs.map AEnc.cs) (us := cellsOf xs) (g := b) (o := o) (cap := cap) k1 (fun e he => by obtain ⟨x, _, rfl⟩ := List.mem_map.1 he; exact AEnc.len x)
        (by rw [List.length_map]; exact h1) h2 hl (fun j h1 h2 => (aenc_flat _ xs j h1 _).2 (List.getElem?_eq_getElem h2)) (fun j h => by rw [k2 j h, List.getElem?_eq_getElem h])
      rw [List.length_map] at this
      exact this

/-- A contract of the elder kind, of which the result is a plain value. -/
theorem ACalls.ofCalls {P : Program} {g : FuncId} {args : List AV} {H : Hp} {R : AV → Prop} (hf : ∃ fn c, P.funcs[g]? = some fn ∧ (fn.name == "runtime.NumGoroutine") = false ∧ fn.body = some c)
    (h : ∀ (M : Mem) (ρ : Nat → Nat × Nat) (w : World) (vs : List Value), Sim M ρ H w → args.length = vs.length → (∀ (j : Nat) (h1 : j < args.length) (h2 : j < vs.length), V M ρ H args[j] vs[j]) →
      Calls P g vs.toArray w (Post w fun v _ => ∃ av, R av ∧ ∀ M, T M av v)) : ACalls P g args H (fun x H' => R x ∧ H' = H) := by
  refine ⟨hf, fun M ρ w vs hs hl hv => (h M ρ w vs hs hl hv).mono ?_⟩
  rintro e w' ⟨v, rfl, hb, av, hR, hT⟩
  exact ⟨v, av, M, ρ, H, rfl, ⟨hR, rfl⟩, ⟨fun g o hg => by rw [hb.block g (hs.lt hg)]; exact hs.mem g o hg, fun b blk hbk => by
    obtain ⟨cs, o1, o2⟩ := hs.own b blk hbk
    exact ⟨cs, by rw [hb.block _ (hs.ltOwn hbk)]; exact o1, o2⟩, hs.inj, hs.fin⟩, .t (hT M), .refl _ _ _, ⟨hb.os, hb.tape, hb.output, hb.size⟩⟩

/-- To a contract of the elder kind: the argument is memory that nobody writes. -/
theorem ACalls.toCalls {P : Program} {g : FuncId} {args : List AV} {R : AV → Hp → Prop} (h : ACalls P g args none0 R) {w : World} {vs : List Value} (hl : args.length = vs.length)
    (hv : ∀ (j : Nat) (h1 : j < args.length) (h2 : j < vs.length), T (memAll w) args[j] vs[j]) : Calls P g vs.toArray w (Post w fun v _ => ∃ av B M' ρ', R av B ∧ V M' ρ' B av v) := by
  refine (h.2 (memAll w) (fun _ => (0, 0)) w vs (sim_all w _) hl fun j h1 h2 => .t (hv j h1 h2)).mono ?_
  rintro e w' ⟨v, av, M', ρ', H', rfl, hR, hs, hV, hx, hf⟩
  refine ⟨v, rfl, ⟨hf.os, hf.tape, hf.output, hf.size, fun k hk => ?_⟩, av, H', M', ρ', hR, hV⟩
  have e1 : (memAll w) k = some w.heap[k] := Array.getElem?_eq_getElem hk
  rw [hs.mem _ _ (hx.mem _ _ e1), Array.getElem?_eq_getElem hk]
end Go.Proofs.Ytpdpmcllpafjbaa

/- From the readings of the rows' form to this work's words: slices of structs that came in. -/
import Derived.Test.YtpdpmcllpafjbaaBase
import Derived.ProofKit
import Derived.Deep.Slices
import Derived.ChangeArms
import Derived.ChangeOld
namespace Go.Proofs.Ytpdpmcllpafjbaa
open Go.RowKit

theorem open_sl {α : Type} [Enc α] [Inhabited α] {H : Type} {enc : TypeId × Value → H} {P : Program} {w : World} {fuel : Nat} {t e : TypeId} {A : Option Addr} {len cap : Nat} {x : DataW H × List MemPlace}
    (good : α → Prop) (ht : P.underlying t = some (.slice e)) (hc : P.cellsOf e = Enc.sz α)
    (dec : ∀ fuel cs x, DataW.trod enc P w 0 (fun _ => true) true fuel e cs = some x → ∃ y : α, cs = Enc.enc y ∧ good y)
    (h : DataW.trod enc P w 0 (fun _ => true) true fuel t [.slice A len cap] = some x) :
    ∃ xs : List α, len = xs.length ∧ SlAt w (· < w.heap.size) A cap xs ∧ ∀ y ∈ xs, good y := by
  have hp := Enc.pos (α := α)
  rcases Deep.open_slice ht h with ⟨hcs, _⟩ | ⟨a, len', cap', m, n, D, Pl, hcs, _, hl, hm, hmm, _, hel⟩
  · simp at hcs
    obtain ⟨rfl, rfl, rfl⟩ := hcs
    exact ⟨[], rfl, ⟨by simp, by decide, .inl rfl⟩, by simp⟩
  · simp at hcs
    obtain ⟨rfl, rfl, rfl⟩ := hcs
    simp only [if_true] at hmm
    subst hmm
    have hy : ∀ i, i < len → ∃ y : α, w.cells? 0 (a.add (i * Enc.sz α)) (Enc.sz α) = some (Enc.enc y) ∧ good y := fun i hi => by
      obtain ⟨cs', h1, h2⟩ := hel i (by omega)
      obtain ⟨y, rfl, hg⟩ := dec _ _ _ h2
      rw [hc] at h1
      exact ⟨y, h1, hg⟩
    obtain ⟨f, hf⟩ := Deep.choose_lt hy
    refine ⟨(List.range len).map f, by simp, ⟨by simpa using hl, hm, ?_⟩, ?_⟩
    · by_cases h0 : len = 0
      · subst h0; exact .inl rfl
      · have hcell : ∀ i j, i < len → j < Enc.sz α → w.cell? (a.add (i * Enc.sz α + j)) = (Enc.enc (f i))[j]? := fun i j hi hj => by
          have h1 := (hf i hi).1
          have h2 := (World.cells?_some h1)
          have h3 := h2.2.2 j hj
          rwa [Deep.add_add] at h3
        obtain ⟨b, off, spot⟩ := a
        have h1 := hcell 0 0 (by omega) hp
        have h2 : (0 : Nat) < (Enc.enc (f 0)).length := by rw [Enc.len]; exact hp
        rw [List.getElem?_eq_getElem h2] at h1
        have hspot : spot = none := by simpa [Addr.add] using World.cell?_spot h1
        subst hspot
        have hlt := World.block_lt_of_cell? w _ h1
        refine .inr ⟨b, off, rfl, by simpa [Addr.add] using hlt, fun i hi => ?_⟩
        rw [cellsOf_length, List.length_map, List.length_range] at hi
        have hd : i / Enc.sz α < len := Nat.div_lt_of_lt_mul (by rw [Nat.mul_comm]; exact hi)
        have hj : i % Enc.sz α < Enc.sz α := Nat.mod_lt _ hp
        have he : i / Enc.sz α * Enc.sz α + i % Enc.sz α = i := by rw [Nat.mul_comm]; exact Nat.div_add_mod i (Enc.sz α)
        have h3 := hcell _ _ hd hj
        have h4 := cellsOf_get ((List.range len).map f) (i / Enc.sz α) (i % Enc.sz α) (by simpa using hd) hj
        rw [he] at h3 h4
        rw [h4, List.getElem_map, List.getElem_range, ← h3]
        congr 1
        unfold Addr.add
        split <;> simp_all
    · intro y hy'
      obtain ⟨i, hi, rfl⟩ := List.mem_map.1 hy'
      exact (hf i (List.mem_range.1 hi)).2

end Go.Proofs.Ytpdpmcllpafjbaa

/- Words of this seat's proofs: documents that a call makes. No program is named here. -/
import Derived.Test.YtpdpmcllpafjbaaDocA
import Derived.Test.YtpdpmcllpafjbaaDr3
namespace Go.Proofs.Ytpdpmcllpafjbaa
open Go.RowKit
set_option linter.unusedVariables false
set_option linter.unusedSimpArgs false

def Dc.flat (ks : List Dc) : List AV := (ks.map Dc.cells).flatten
theorem Dc.flat_nil : Dc.flat [] = [] := rfl
theorem Dc.flat_len (ks : List Dc) : (Dc.flat ks).length = ks.length * 4 := by
  unfold Dc.flat
  rw [Go.Proofs.Ytpdpmcllpafjbaa.flat_len _ 4 (fun e he => by obtain ⟨d, _, rfl⟩ := List.mem_map.1 he; exact d.c_len), List.length_map]
theorem Dc.flat_snoc (ks : List Dc) (d : Dc) : Dc.flat (ks ++ [d]) = Dc.flat ks ++ d.cells := by simp [Dc.flat]
theorem Dc.flat_take (ks : List Dc) (k : Nat) (h : k < ks.length) : Dc.flat (ks.take (k + 1)) = Dc.flat (ks.take k) ++ ks[k].cells := by
  rw [List.take_succ_eq_append_getElem h, Dc.flat_snoc]
theorem Dc.flat_flat (ks : List Dc) : ∀ c ∈ Dc.flat ks, c.flat = true := fun c hc => by
  unfold Dc.flat at hc
  obtain ⟨l, hl, hc⟩ := List.mem_flatten.1 hc
  obtain ⟨d, _, rfl⟩ := List.mem_map.1 hl
  rw [d.cells_eq] at hc
  simp at hc
  rcases hc with rfl | rfl | rfl | rfl <;> rfl

/-- The kids of a document that the call makes: nil, or a row of its own. -/
def KidsAt (e : TypeId) (H : Hp) (n : Nat) (kv : AV) (ks : List Dc) : Prop :=
  (ks = [] ∧ kv = .ns) ∨ ∃ b ver, n ≤ b ∧ kv = .os b ver ks.length ∧ H b = some ⟨ver, e, 4, Dc.flat ks⟩

theorem KidsAt.pub {e : TypeId} {H : Hp} {n : Nat} {kv : AV} {ks : List Dc} (h : KidsAt e H n kv ks) : Pub H n kv (.is 4 (ks.map Dc.cells)) := by
  rcases h with ⟨rfl, rfl⟩ | ⟨b, ver, hb, rfl, hB⟩
  · exact .nil 4
  · have hl := Dc.flat_len ks
    refine Pub.os (es := ks.map Dc.cells) hB hb rfl (show 0 < 4 by decide) (fun e he => by obtain ⟨d, _, rfl⟩ := List.mem_map.1 he; exact d.c_len) (by simp) (by rw [hl]; exact Nat.le_refl _) fun j h1 h2 => ?_
    have e1 : (Dc.flat ks).take (ks.length * 4) = Dc.flat ks := List.take_of_length_le (by omega)
    simp only [e1] at h1 ⊢
    have e2 : (Dc.flat ks)[j]'h1 = (ks.map Dc.cells).flatten[j] := rfl
    rw [e2]
    exact .flat (Dc.flat_flat ks _ (by rw [← e2]; exact List.getElem_mem h1))
theorem pub_list2 {H : Hp} {n : Nat} {a b c d a' b' c' d' : AV} (h1 : Pub H n a a') (h2 : Pub H n b b') (h3 : Pub H n c c') (h4 : Pub H n d d') : Pub H n (.agg [a, b, c, d]) (.agg [a', b', c', d']) :=
  .agg rfl fun j k1 k2 => by
    simp at k1
    match j, k1 with
    | 0, _ => exact h1
    | 1, _ => exact h2
    | 2, _ => exact h3
    | 3, _ => exact h4
theorem pub_doc {e : TypeId} {H : Hp} {n : Nat} {kv : AV} {ks : List Dc} (h : KidsAt e H n kv ks) (op nn : Int) (t : ByteArray) : Pub H n (.agg [.i .i64 op, .i .i64 nn, .s t, kv]) (.agg (Dc.mk op nn t ks).cells) := by
  rw [Dc.cells_eq]
  exact pub_list2 (.flat rfl) (.flat rfl) (.flat rfl) h.pub
theorem Dc.mk_eta (d : Dc) : Dc.mk d.op d.n d.text d.kids = d := by cases d; rfl
theorem pub_tup2 {H : Hp} {n : Nat} {a b a' b' : AV} (h1 : Pub H n a a') (h2 : Pub H n b b') : Pub H n (.tup [a, b]) (.tup [a', b']) :=
  .tup rfl fun j k1 k2 => by
    simp at k1
    match j, k1 with
    | 0, _ => exact h1
    | 1, _ => exact h2
theorem clo_cells {n : Nat} {d : Dc} : ∀ c ∈ d.cells, Clo n c := fun c hc => by
  rw [d.cells_eq] at hc
  simp at hc
  rcases hc with rfl | rfl | rfl | rfl <;> constructor
theorem pub_same {H : Hp} {n : Nat} (d : Dc) : Pub H n (.agg d.cells) (.agg d.cells) := .agg rfl fun j h1 h2 => .flat (by
  have hm := List.getElem_mem h1
  generalize d.cells[j] = c at hm ⊢
  rw [d.cells_eq] at hm
  simp only [List.mem_cons, List.not_mem_nil, or_false] at hm
  rcases hm with rfl | rfl | rfl | rfl <;> rfl)
end Go.Proofs.Ytpdpmcllpafjbaa

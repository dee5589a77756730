/- Words of this seat's proofs: plain data (documents, tokens, rows), how they lie in memory, and what carries them over a change of the world. No program is named here. -/
import Derived.Test.YtpdpmcllpafjbaaPost
namespace Go.Proofs.Ytpdpmcllpafjbaa
open Go.RowKit
set_option linter.unusedSimpArgs false

/-- A row of cells at an address: nothing is asked where there is none; every block that is met is 'ok'. -/
def RowAt (w : World) (ok : Nat → Prop) (A : Option Addr) (cs : List Value) : Prop :=
  cs = [] ∨ ∃ b o, A = some ⟨b, o, none⟩ ∧ ok b ∧ ∀ i, i < cs.length → w.cell? ⟨b, o + i, none⟩ = cs[i]?

theorem RowAt.keep {w w' : World} {ok ok' : Nat → Prop} {A : Option Addr} {cs : List Value} (h : RowAt w ok A cs)
    (hk : ∀ b, ok b → w'.heap[b]? = w.heap[b]?) (ho : ∀ b, ok b → ok' b) : RowAt w' ok' A cs := by
  rcases h with h | ⟨b, o, hA, hb, hc⟩
  · exact .inl h
  · exact .inr ⟨b, o, hA, ho b hb, fun i hi => by rw [World.cell?_of_block (w := w) (a := ⟨b, o + i, none⟩) (hk b hb)]; exact hc i hi⟩

/-- What a kind of element looks like in memory. -/
class Enc (α : Type) where
  sz : Nat
  enc : α → List Value
  len : ∀ x, (enc x).length = sz
  pos : 0 < sz
  one : ∀ x, ∀ u ∈ enc x, u.oneCell' = true

def cellsOf {α : Type} [Enc α] (xs : List α) : List Value := xs.flatMap Enc.enc

theorem cellsOf_length {α : Type} [Enc α] (xs : List α) : (cellsOf xs).length = xs.length * Enc.sz α := by
  unfold cellsOf
  induction xs with
  | nil => simp
  | cons x xs ih => rw [List.flatMap_cons, List.length_append, ih, Enc.len, List.length_cons, Nat.add_mul, Nat.one_mul, Nat.add_comm]

theorem cellsOf_get {α : Type} [Enc α] (xs : List α) (i j : Nat) (hi : i < xs.length) (hj : j < Enc.sz α) :
    (cellsOf xs)[i * Enc.sz α + j]? = (Enc.enc xs[i])[j]? := by
  unfold cellsOf
  induction xs generalizing i with
  | nil => simp at hi
  | cons x xs ih =>
    rw [List.flatMap_cons]
    cases i with
    | zero => rw [List.getElem?_append_left (by rw [Enc.len]; omega)]; simp
    | succ i =>
      have hs : (Enc.enc x).length = Enc.sz α := Enc.len x
      rw [List.getElem?_append_right (by rw [hs, Nat.add_mul]; omega)]
      have e : (i + 1) * Enc.sz α + j - (Enc.enc x).length = i * Enc.sz α + j := by rw [hs, Nat.add_mul]; omega
      rw [e, ih i (by simpa using hi)]
      simp

/-- A slice value that reads as a list. -/
def SlAt {α : Type} [Enc α] (w : World) (ok : Nat → Prop) (A : Option Addr) (cap : Nat) (xs : List α) : Prop :=
  xs.length ≤ cap ∧ cap ≤ maxLen ∧ RowAt w ok A (cellsOf xs)

theorem SlAt.keep {α : Type} [Enc α] {w w' : World} {ok ok' : Nat → Prop} {A : Option Addr} {cap : Nat} {xs : List α} (h : SlAt w ok A cap xs)
    (hk : ∀ b, ok b → w'.heap[b]? = w.heap[b]?) (ho : ∀ b, ok b → ok' b) : SlAt w' ok' A cap xs := ⟨h.1, h.2.1, h.2.2.keep hk ho⟩

theorem SlAt.below {α : Type} [Enc α] {w w' : World} {B : Nat} {A : Option Addr} {cap : Nat} {xs : List α} (h : SlAt w (· < B) A cap xs)
    (hb : Below B w w') : SlAt w' (· < B) A cap xs := h.keep (fun b hb' => hb.block b hb') (fun _ h => h)

/-- The element at an index: where it lies. -/
theorem SlAt.get {α : Type} [Enc α] {w : World} {ok : Nat → Prop} {A : Option Addr} {cap : Nat} {xs : List α} (h : SlAt w ok A cap xs) (i : Nat) (hi : i < xs.length) :
    ∃ b o, A = some ⟨b, o, none⟩ ∧ ok b ∧ ∀ j, j < Enc.sz α → w.cell? ⟨b, o + i * Enc.sz α + j, none⟩ = (Enc.enc xs[i])[j]? := by
  rcases h.2.2 with h0 | ⟨b, o, hA, hb, hc⟩
  · have h1 := cellsOf_length xs
    rw [h0] at h1
    have hp := Enc.pos (α := α)
    rcases Nat.mul_eq_zero.mp h1.symm with h2 | h2
    · omega
    · omega
  · refine ⟨b, o, hA, hb, fun j hj => ?_⟩
    have hlt : i * Enc.sz α + j < (cellsOf xs).length := by
      rw [cellsOf_length]
      calc i * Enc.sz α + j < i * Enc.sz α + Enc.sz α := by omega
        _ = (i + 1) * Enc.sz α := by rw [Nat.add_mul, Nat.one_mul]
        _ ≤ xs.length * Enc.sz α := Nat.mul_le_mul_right _ hi
    rw [Nat.add_assoc, hc _ hlt, cellsOf_get xs i j hi hj]

/-- A token. -/
structure Tok where
  kind : Int
  n : Int
  text : ByteArray
  deriving DecidableEq

instance : Enc Tok := ⟨3, fun t => [.int .i64 t.kind, .int .i64 t.n, .string t.text], fun _ => rfl, by decide, fun x u h => by simp at h; rcases h with rfl | rfl | rfl <;> rfl⟩
def Tok.val (t : Tok) : Value := .agg #[.int .i64 t.kind, .int .i64 t.n, .string t.text]

/-- A line of a layout. -/
structure Rw where
  indent : Int
  text : ByteArray
  deriving DecidableEq

instance : Enc Rw := ⟨2, fun t => [.int .i64 t.indent, .string t.text], fun _ => rfl, by decide, fun x u h => by simp at h; rcases h with rfl | rfl <;> rfl⟩
instance : Enc Int := ⟨1, fun t => [.int .i64 t], fun _ => rfl, by decide, fun x u h => by simp at h; rw [h]; rfl⟩
instance : Enc Bool := ⟨1, fun t => [.bool t], fun _ => rfl, by decide, fun x u h => by simp at h; rw [h]; rfl⟩
def Rw.val (t : Rw) : Value := .agg #[.int .i64 t.indent, .string t.text]

theorem Tok.at {w : World} {ok : Nat → Prop} {A : Option Addr} {cap : Nat} {xs : List Tok} (h : SlAt w ok A cap xs) (i : Nat) (hi : i < xs.length) :
    ∃ b o, A = some ⟨b, o, none⟩ ∧ ok b ∧ w.cell? ⟨b, o + i * 3, none⟩ = some (.int .i64 xs[i].kind) ∧ w.cell? ⟨b, o + i * 3 + 1, none⟩ = some (.int .i64 xs[i].n) ∧ w.cell? ⟨b, o + i * 3 + 2, none⟩ = some (.string xs[i].text) := by
  obtain ⟨b, o, hA, hb, hc⟩ := h.get i hi
  exact ⟨b, o, hA, hb, hc 0 (by decide), hc 1 (by decide), hc 2 (by decide)⟩

theorem Tok.atB {w : World} {B : Nat} {A : Option Addr} {cap : Nat} {xs : List Tok} (h : SlAt w (· < B) A cap xs) (i : Nat) (hi : i < xs.length) :
    ∃ b o, A = some ⟨b, o, none⟩ ∧ b < B ∧ w.cell? ⟨b, o + i * 3, none⟩ = some (.int .i64 xs[i].kind) ∧ w.cell? ⟨b, o + i * 3 + 1, none⟩ = some (.int .i64 xs[i].n) ∧ w.cell? ⟨b, o + i * 3 + 2, none⟩ = some (.string xs[i].text) := Tok.at h i hi
theorem Rw.at {w : World} {ok : Nat → Prop} {A : Option Addr} {cap : Nat} {xs : List Rw} (h : SlAt w ok A cap xs) (i : Nat) (hi : i < xs.length) :
    ∃ b o, A = some ⟨b, o, none⟩ ∧ ok b ∧ w.cell? ⟨b, o + i * 2, none⟩ = some (.int .i64 xs[i].indent) ∧ w.cell? ⟨b, o + i * 2 + 1, none⟩ = some (.string xs[i].text) := by
  obtain ⟨b, o, hA, hb, hc⟩ := h.get i hi
  exact ⟨b, o, hA, hb, hc 0 (by decide), hc 1 (by decide)⟩


/-- A slice value that the call owns from block 'base' on: it reads as a list. -/
def OwnS {α : Type} [Enc α] (w : World) (base : Nat) (e : TypeId) (v : Value) (xs : List α) : Prop := w.ownsRow base e (Enc.sz α) v xs.length (cellsOf xs)

theorem cellsOf_set {α : Type} [Enc α] (xs : List α) (k : Nat) (t : α) (hk : k < xs.length) (m : Nat) :
    (cellsOf (xs.set k t))[m]? = if k * Enc.sz α ≤ m ∧ m < k * Enc.sz α + Enc.sz α then (Enc.enc t)[m - k * Enc.sz α]? else (cellsOf xs)[m]? := by
  have hp := Enc.pos (α := α)
  by_cases hm : m < xs.length * Enc.sz α
  · have hd : m / Enc.sz α < xs.length := Nat.div_lt_of_lt_mul (by rw [Nat.mul_comm]; exact hm)
    have hj : m % Enc.sz α < Enc.sz α := Nat.mod_lt _ hp
    have he : m = m / Enc.sz α * Enc.sz α + m % Enc.sz α := by rw [Nat.mul_comm]; exact (Nat.div_add_mod m (Enc.sz α)).symm
    generalize m / Enc.sz α = i at *
    generalize m % Enc.sz α = j at *
    subst he
    have h1 := cellsOf_get (xs.set k t) i j (by simpa using hd) hj
    rw [h1, cellsOf_get xs i j hd hj]
    by_cases hik : k = i
    · subst hik
      rw [if_pos ⟨by omega, by omega⟩, Nat.add_sub_cancel_left]
      simp
    · rw [if_neg, List.getElem_set_ne hik]
      rintro ⟨h2, h3⟩
      rcases Nat.lt_or_gt_of_ne hik with h4 | h4
      · have := Nat.mul_le_mul_right (Enc.sz α) (show k + 1 ≤ i by omega)
        rw [Nat.add_mul, Nat.one_mul] at this
        omega
      · have := Nat.mul_le_mul_right (Enc.sz α) (show i + 1 ≤ k by omega)
        rw [Nat.add_mul, Nat.one_mul] at this
        omega
  · have h1 : (cellsOf (xs.set k t)).length = xs.length * Enc.sz α := by rw [cellsOf_length]; simp
    have h2 := cellsOf_length xs
    have h3 := Nat.mul_le_mul_right (Enc.sz α) (show k + 1 ≤ xs.length by omega)
    rw [Nat.add_mul, Nat.one_mul] at h3
    rw [List.getElem?_eq_none (by omega), if_neg (by omega), List.getElem?_eq_none (by omega)]

theorem cellsOf_append {α : Type} [Enc α] (xs ys : List α) : cellsOf (xs ++ ys) = cellsOf xs ++ cellsOf ys := by unfold cellsOf; rw [List.flatMap_append]
theorem cellsOf_one {α : Type} [Enc α] (x : α) : cellsOf [x] = Enc.enc x := by unfold cellsOf; simp

theorem toList_madeCells {α : Type} [Enc α] (z : Array Value) (x : α) (hz : z.toList = Enc.enc x) (n : Nat) : (madeCells z (n * Enc.sz α)).toList = cellsOf (List.replicate n x) := by
  have hp := Enc.pos (α := α)
  have hs : z.size = Enc.sz α := by rw [← Array.length_toList, hz, Enc.len]
  apply List.ext_getElem?
  intro m
  by_cases hm : m < n * Enc.sz α
  · have hd : m / Enc.sz α < n := Nat.div_lt_of_lt_mul (by rw [Nat.mul_comm]; exact hm)
    have hj : m % Enc.sz α < Enc.sz α := Nat.mod_lt _ hp
    have h1 := cellsOf_get (List.replicate n x) (m / Enc.sz α) (m % Enc.sz α) (by simpa using hd) hj
    rw [Nat.mul_comm (m / Enc.sz α), Nat.div_add_mod] at h1
    rw [h1]
    simp only [List.getElem_replicate, ← hz]
    simp [madeCells, hm, hs, hj]
  · rw [List.getElem?_eq_none (by simp [madeCells]; omega), List.getElem?_eq_none (by rw [cellsOf_length]; simp; omega)]

section
variable {α : Type} [Enc α] {w : World} {base : Nat} {e : TypeId} {v : Value} {xs : List α}

theorem OwnS.lt (h : OwnS w base e v xs) : ∀ k, v.ownBlock = some k → base ≤ k ∧ k < w.heap.size := World.ownsRow.lt h
theorem OwnS.len (h : OwnS w base e v xs) : ∃ A cap, v = .slice A xs.length cap ∧ xs.length ≤ cap ∧ cap ≤ maxLen ∧ (∀ a, A = some a → ∃ g, a = ⟨g, 0, none⟩ ∧ base ≤ g ∧ g < w.heap.size) := by
  rcases h.2 with ⟨rfl, h0⟩ | ⟨g, cap, cur, rfl, hb, hg, hn, hc, _⟩
  · exact ⟨none, 0, by rw [h0], by omega, by decide, by simp⟩
  · exact ⟨_, cap, rfl, hn, hc, fun a ha => ⟨g, by cases ha; rfl, hb, (Array.getElem?_eq_some_iff.1 hg).1⟩⟩
theorem OwnS.slAt {A : Option Addr} {n cap : Nat} (h : OwnS w base e (.slice A n cap) xs) : n = xs.length ∧ SlAt w (fun b => base ≤ b ∧ b < w.heap.size) A cap xs := by
  rcases h.2 with ⟨h1, h0⟩ | ⟨g, cap', cur, h1, hb, hg, hn, hc, hs, ht⟩
  · cases h1
    exact ⟨h0.symm, by omega, by decide, .inl (List.eq_nil_of_length_eq_zero (by rw [cellsOf_length, h0]; simp))⟩
  · cases h1
    refine ⟨rfl, hn, hc, .inr ⟨g, 0, rfl, ⟨hb, (Array.getElem?_eq_some_iff.1 hg).1⟩, fun i hi => ?_⟩⟩
    rw [Nat.zero_add, World.ownsRow.cellAt h i (by rw [cellsOf_length] at hi; exact hi)]
theorem OwnS.kept {w' : World} {row : Option Nat} (h : OwnS w base e v xs) (hg : w.grownBy w' row) (hne : v.ownBlock = none ∨ v.ownBlock ≠ row) : OwnS w' base e v xs := World.ownsRow.kept h hg hne
/-- An owned row stays while other blocks are written. -/
theorem OwnS.keep {w' : World} (h : OwnS w base e v xs) (hk : ∀ k, v.ownBlock = some k → w'.heap[k]? = w.heap[k]?) : OwnS w' base e v xs := by
  refine ⟨h.1, ?_⟩
  rcases h.2 with hn | ⟨g, cap, cur, rfl, hb, hgg, rest⟩
  · exact .inl hn
  · exact .inr ⟨g, cap, cur, rfl, hb, (hk g rfl).trans hgg, rest⟩
theorem OwnS.below {w' : World} {B : Nat} (h : OwnS w base e v xs) (hb : Below B w w') (hB : w.heap.size ≤ B) : OwnS w' base e v xs :=
  h.keep fun k hk => hb.block k (by have := (h.lt k hk).2; omega)
theorem OwnS.mono {base' : Nat} (h : OwnS w base e v xs) (hb : base' ≤ base) : OwnS w base' e v xs := by
  refine ⟨h.1, ?_⟩
  rcases h.2 with hn | ⟨g, cap, cur, rfl, hb', rest⟩
  · exact .inl hn
  · exact .inr ⟨g, cap, cur, rfl, by omega, rest⟩
theorem OwnS.cell {g cap k j : Nat} (h : OwnS w base e (.slice (some ⟨g, 0, none⟩) xs.length cap) xs) (hk : k < xs.length) (hj : j < Enc.sz α) : w.cell? ⟨g, k * Enc.sz α + j, none⟩ = (Enc.enc xs[k])[j]? := by
  have hlt : k * Enc.sz α + j < xs.length * Enc.sz α := by
    have := Nat.mul_le_mul_right (Enc.sz α) hk
    rw [Nat.succ_mul] at this; omega
  rw [World.ownsRow.cellAt h _ hlt, cellsOf_get xs k j hk hj]
theorem OwnS.frozen {g cap : Nat} (h : OwnS w base e (.slice (some ⟨g, 0, none⟩) xs.length cap) xs) (j : Nat) : w.frozen? ⟨g, j, none⟩ = false := World.ownsRow.frozenAt h j
end

theorem set_len {α : Type} (xs : List α) (k : Nat) (t : α) : (xs.set k t).length = xs.length := by simp
theorem OwnS.cells {α : Type} [Enc α] {w : World} {base : Nat} {e : TypeId} {v : Value} {ys : List α} {n : Nat} {cs : List Value} (h : w.ownsRow base e (Enc.sz α) v n cs) (hn : n = ys.length) (hc : ∀ m : Nat, cs[m]? = (cellsOf ys)[m]?) : OwnS w base e v ys := by
  subst hn
  unfold OwnS
  rw [← List.ext_getElem? hc]; exact h
theorem OwnS.set3 {α : Type} [Enc α] {w : World} {base : Nat} {e : TypeId} {xs : List α} {g cap k : Nat} {t : α} {a b c : Value} (h : OwnS w base e (.slice (some ⟨g, 0, none⟩) xs.length cap) xs) (hk : k < xs.length) (h3 : Enc.sz α = 3) (ht : Enc.enc t = [a, b, c]) :
    OwnS (((w.setCell ⟨g, k * 3, none⟩ a).setCell ⟨g, k * 3 + 1, none⟩ b).setCell ⟨g, k * 3 + 2, none⟩ c) base e (.slice (some ⟨g, 0, none⟩) (xs.set k t).length cap) (xs.set k t) := by
  have h1 := (World.ownsRow.stored h (k * 3) a).1
  have h2 := (World.ownsRow.stored h1 (k * 3 + 1) b).1
  have h4 := (World.ownsRow.stored h2 (k * 3 + 2) c).1
  rw [set_len]
  refine OwnS.cells h4 (by simp) fun m => ?_
  have hl := cellsOf_length xs
  have hm := Nat.mul_le_mul_right 3 (show k + 1 ≤ xs.length by omega)
  rw [h3] at hl
  rw [cellsOf_set xs k t hk, h3, ht]
  simp only [List.getElem?_set, List.length_set]
  by_cases e1 : k * 3 ≤ m ∧ m < k * 3 + 3
  · rw [if_pos e1]
    obtain ⟨j, rfl⟩ : ∃ j, m = k * 3 + j := ⟨m - k * 3, by omega⟩
    rw [Nat.add_sub_cancel_left]
    have : j = 0 ∨ j = 1 ∨ j = 2 := by omega
    rcases this with rfl | rfl | rfl
    · rw [if_neg (by omega), if_neg (by omega), if_pos (by omega), if_pos (by omega)]; rfl
    · rw [if_neg (by omega), if_pos (by omega), if_pos (by omega)]; rfl
    · rw [if_pos (by omega), if_pos (by omega)]; rfl
  · rw [if_neg e1, if_neg (by omega), if_neg (by omega), if_neg (by omega)]
theorem OwnS.set2 {α : Type} [Enc α] {w : World} {base : Nat} {e : TypeId} {xs : List α} {g cap k : Nat} {t : α} {a b : Value} (h : OwnS w base e (.slice (some ⟨g, 0, none⟩) xs.length cap) xs) (hk : k < xs.length) (h3 : Enc.sz α = 2) (ht : Enc.enc t = [a, b]) :
    OwnS ((w.setCell ⟨g, k * 2, none⟩ a).setCell ⟨g, k * 2 + 1, none⟩ b) base e (.slice (some ⟨g, 0, none⟩) (xs.set k t).length cap) (xs.set k t) := by
  have h1 := (World.ownsRow.stored h (k * 2) a).1
  have h2 := (World.ownsRow.stored h1 (k * 2 + 1) b).1
  rw [set_len]
  refine OwnS.cells h2 (by simp) fun m => ?_
  have hl := cellsOf_length xs
  have hm := Nat.mul_le_mul_right 2 (show k + 1 ≤ xs.length by omega)
  rw [h3] at hl
  rw [cellsOf_set xs k t hk, h3, ht]
  simp only [List.getElem?_set, List.length_set]
  by_cases e1 : k * 2 ≤ m ∧ m < k * 2 + 2
  · rw [if_pos e1]
    obtain ⟨j, rfl⟩ : ∃ j, m = k * 2 + j := ⟨m - k * 2, by omega⟩
    rw [Nat.add_sub_cancel_left]
    have : j = 0 ∨ j = 1 := by omega
    rcases this with rfl | rfl
    · rw [if_neg (by omega), if_pos (by omega), if_pos (by omega)]; rfl
    · rw [if_pos (by omega), if_pos (by omega)]; rfl
  · rw [if_neg e1, if_neg (by omega), if_neg (by omega)]

theorem OwnS.at3 {α : Type} [Enc α] {w : World} {base : Nat} {e : TypeId} {xs : List α} {g cap k : Nat} (h : OwnS w base e (.slice (some ⟨g, 0, none⟩) xs.length cap) xs) (hk : k < xs.length) (h3 : Enc.sz α = 3) :
    ∃ a b c, w.cell? ⟨g, k * 3, none⟩ = some a ∧ w.cell? ⟨g, k * 3 + 1, none⟩ = some b ∧ w.cell? ⟨g, k * 3 + 2, none⟩ = some c ∧ Enc.enc xs[k] = [a, b, c] ∧
      w.frozen? ⟨g, k * 3, none⟩ = false ∧ w.frozen? ⟨g, k * 3 + 1, none⟩ = false ∧ w.frozen? ⟨g, k * 3 + 2, none⟩ = false := by
  have hl := Enc.len xs[k]
  rw [h3] at hl
  match hE : Enc.enc xs[k], hl with
  | [a, b, c], _ =>
    have h0 := h.cell hk (j := 0) (by omega)
    have h1 := h.cell hk (j := 1) (by omega)
    have h2 := h.cell hk (j := 2) (by omega)
    rw [h3, hE] at h0 h1 h2
    exact ⟨a, b, c, h0, h1, h2, rfl, h.frozen _, h.frozen _, h.frozen _⟩
theorem OwnS.at2 {α : Type} [Enc α] {w : World} {base : Nat} {e : TypeId} {xs : List α} {g cap k : Nat} (h : OwnS w base e (.slice (some ⟨g, 0, none⟩) xs.length cap) xs) (hk : k < xs.length) (h3 : Enc.sz α = 2) :
    ∃ a b, w.cell? ⟨g, k * 2, none⟩ = some a ∧ w.cell? ⟨g, k * 2 + 1, none⟩ = some b ∧ Enc.enc xs[k] = [a, b] ∧
      w.frozen? ⟨g, k * 2, none⟩ = false ∧ w.frozen? ⟨g, k * 2 + 1, none⟩ = false := by
  have hl := Enc.len xs[k]
  rw [h3] at hl
  match hE : Enc.enc xs[k], hl with
  | [a, b], _ =>
    have h0 := h.cell hk (j := 0) (by omega)
    have h1 := h.cell hk (j := 1) (by omega)
    rw [h3, hE] at h0 h1
    exact ⟨a, b, h0, h1, rfl, h.frozen _, h.frozen _⟩

/-- A list that is filled from the left. -/
def fillL {α : Type} (xs : List α) (z : α) (k : Nat) : List α := xs.take k ++ List.replicate (xs.length - k) z
theorem fillL_length {α : Type} (xs : List α) (z : α) (k : Nat) (h : k ≤ xs.length) : (fillL xs z k).length = xs.length := by simp [fillL]; omega
theorem fillL_zero {α : Type} (xs : List α) (z : α) : fillL xs z 0 = List.replicate xs.length z := by simp [fillL]
theorem fillL_all {α : Type} (xs : List α) (z : α) (k : Nat) (h : ¬ k < xs.length) : fillL xs z k = xs := by
  rw [fillL, List.take_of_length_le (by omega), show xs.length - k = 0 by omega]; simp
theorem fillL_set {α : Type} (xs : List α) (z : α) (k : Nat) (h : k < xs.length) : (fillL xs z k).set k xs[k] = fillL xs z (k + 1) := by
  apply List.ext_getElem?
  intro i
  unfold fillL
  simp only [List.getElem?_set, List.getElem?_append, List.length_append, List.length_take, List.length_replicate, List.getElem?_take, List.getElem?_replicate, Nat.min_eq_left (show k ≤ xs.length by omega), Nat.min_eq_left (show k + 1 ≤ xs.length by omega)]
  by_cases h1 : k = i
  · subst h1
    simp only [h, if_true, show k < k + 1 by omega, List.getElem?_eq_getElem h]
    simp
    omega
  · simp only [h1, if_false]
    by_cases h2 : i < k
    · simp only [h2, if_true, show i < k + 1 by omega]
    · simp only [h2, if_false, show ¬ i < k + 1 by omega]
      by_cases h3 : i < xs.length
      · simp only [show i - k < xs.length - k by omega, show i - (k + 1) < xs.length - (k + 1) by omega]
      · simp only [show ¬ i - k < xs.length - k by omega, show ¬ i - (k + 1) < xs.length - (k + 1) by omega]

/-- What the table of types says of a type of slices. -/
structure SlT (α : Type) [Enc α] (P : Program) (t e : TypeId) (z : α) (bytes : Nat) : Prop where
  und : P.underlying t = some (.slice e)
  inf : ∃ i zv, P.info? e = some i ∧ i.zero = some zv ∧ zv.cells.toList = Enc.enc z ∧ i.size = Enc.sz α ∧ i.bytes = bytes

theorem SlT.mk' {α : Type} [Enc α] {P : Program} {t e : TypeId} {z : α} {zv : Value} {bytes : Nat} (hu : P.underlying t = some (.slice e))
    (h : (P.info? e).map (fun i => (i.zero, i.size, i.bytes)) = some (some zv, Enc.sz α, bytes)) (hz : zv.cells.toList = Enc.enc z) : SlT α P t e z bytes := by
  obtain ⟨i, h1, h2, h3, h4⟩ := info_parts h
  exact ⟨hu, i, zv, h1, h2, hz, h3, h4⟩

section
variable {α : Type} [Enc α] {P : Program} {t e : TypeId} {z : α} {bytes : Nat}

/-- 'append(out, x)' of one element that has just been laid in a block of its own. -/
theorem SlT.push (T : SlT α P t e z bytes) {W : World} {ops : Array Oper} {rest : List Oper} {o : Oper} {a : Act} {Q : Exit → Act → World → Prop} (hgd : o.guard = none) (s x : Operand)
    (ho : o.op = .call { callee := .builtin .append, args := #[s, x], argTypes := #[t, t] }) {base : Nat} {v : Value} {xs : List α} {y : α} {cs : Array Value} {c : Nat}
    (hs : a.eval s = v) (hx : a.eval x = .slice (some ⟨W.heap.size, 0, none⟩) 1 c) (hcs : cs.toList = Enc.enc y) (hown : OwnS W base e v xs) (hb : (xs.length + 1) * bytes ≤ 140737488355328) (hm : xs.length < maxLen) (hbase : base ≤ W.heap.size)
    (h : ∀ v' w', OwnS w' base e v' (xs ++ [y]) → (W.alloc (.cells cs e)).grownBy w' v.ownBlock → wpList P ops Q rest (a.put o.dst v') w') :
    wpList P ops Q (o :: rest) a (W.alloc (.cells cs e)) := by
  obtain ⟨i, zv, h1, h2, h3, h4, h5⟩ := T.inf
  have hzs : zv.cells.size = Enc.sz α := by rw [← Array.length_toList, h3, Enc.len]
  have hl := Enc.len y
  refine wpList_append_own _ hgd s x t ho base e i zv (Enc.sz α) bytes T.und h1 h2 h4 h5 hzs Enc.pos v xs.length (cellsOf xs) hs (World.ownsRow.alloc hown _) ⟨W.heap.size, 0, none⟩ 1 c (Enc.enc y) hx (by rw [hl, Nat.one_mul]) ?_ (Enc.one y) (by omega) hb (by simp; omega) ?_
  · intro j u hu
    have hadd : (⟨W.heap.size, 0, none⟩ : Addr).add j = ⟨W.heap.size, j, none⟩ := by unfold Addr.add; split <;> simp_all
    rw [hadd, cell_of_row _ W.heap.size j cs e (0, 0) (heap_alloc_new W _), ← Array.getElem?_toList, hcs]; exact hu
  · intro v' w' h1 h2 _
    refine h v' w' ?_ h2
    unfold OwnS
    rw [cellsOf_append, cellsOf_one, List.length_append]; exact h1

theorem grown_below {W w' : World} {B : Nat} {base : Nat} {v : Value} {xs : List α} {o : Obj} (hown : OwnS W base e v xs) (hg : (W.alloc o).grownBy w' v.ownBlock) (hB : B ≤ base) (hW : B ≤ W.heap.size) : Below B W w' :=
  ((Below.refl B W).alloc hW o).grown hg (by simp; omega) (fun k hk => by have := hown.lt k hk; omega)
theorem grown_size {W w' : World} {o : Obj} {row : Option Nat} (hg : (W.alloc o).grownBy w' row) : W.heap.size < w'.heap.size := by
  have := hg.size; simp at this; omega

/-- 'make([]T, n)'. -/
theorem SlT.make (T : SlT α P t e z bytes) {w : World} {ops : Array Oper} {rest : List Oper} {o : Oper} {a : Act} {Q : Exit → Act → World → Prop} (hgd : o.guard = none) (l c : Operand)
    (ho : o.op = Op.makeSlice t l c) (n : Nat) (hl : a.eval l = .int .i64 n) (hc : a.eval c = .int .i64 n) (hb : bytes * n ≤ 281474976710656) (hm : n ≤ maxLen)
    (hK : ∀ w', OwnS w' w.heap.size e (.slice (some ⟨w.heap.size, 0, none⟩) n n) (List.replicate n z) → w.grownBy w' none → wpList P ops Q rest (a.put o.dst (.slice (some ⟨w.heap.size, 0, none⟩) n n)) w') :
    wpList P ops Q (o :: rest) a w := by
  obtain ⟨i, zv, h1, h2, h3, h4, h5⟩ := T.inf
  refine wpList_make_full w hgd l c t ho w.heap.size e i zv (Enc.sz α) T.und h1 h2 h4 .i64 .i64 n n n hl hc rfl rfl (by rw [h5]; exact hb) hm (Nat.le_refl _) fun w' h6 h7 => hK w' ?_ h7
  rw [toList_madeCells zv.cells z h3] at h6
  unfold OwnS
  rw [List.length_replicate]; exact h6
end

theorem OwnS.nil {α : Type} [Enc α] (w : World) (base : Nat) (e : TypeId) : OwnS w base e (.slice none 0 0) ([] : List α) := World.ownsRow_nil w base e _
theorem OwnS.lit {α : Type} [Enc α] (w : World) {base : Nat} (e : TypeId) (cs : Array Value) (xs : List α) (hb : base ≤ w.heap.size) (hm : xs.length ≤ maxLen) (hs : cs.toList = cellsOf xs) :
    OwnS (w.alloc (.cells cs e)) base e (.slice (some ⟨w.heap.size, 0, none⟩) xs.length xs.length) xs := by
  have := World.ownsRow_lit (base := base) (e := e) (size := Enc.sz α) w cs xs.length hb hm (by rw [← Array.length_toList, hs, cellsOf_length])
  unfold OwnS; rw [← hs]; exact this
/-- 'xs[:n]' of an owned row. -/
theorem OwnS.take {α : Type} [Enc α] {w : World} {base : Nat} {e : TypeId} {A : Option Addr} {cap : Nat} {xs : List α} (h : OwnS w base e (.slice A xs.length cap) xs) (n : Nat) (hn : n ≤ xs.length) : OwnS w base e (.slice A n cap) (xs.take n) := by
  have hlen : (xs.take n).length = n := by simp; omega
  have hc : cellsOf (xs.take n) = (cellsOf xs).take (n * Enc.sz α) := by
    have h1 : cellsOf xs = cellsOf (xs.take n) ++ cellsOf (xs.drop n) := by rw [← cellsOf_append, List.take_append_drop]
    rw [h1, List.take_left' (by rw [cellsOf_length, hlen])]
  refine ⟨by rw [cellsOf_length], ?_⟩
  rw [hlen]
  rcases h.2 with ⟨h1, h0⟩ | ⟨g, cap', cur, h1, hb, hg, hn', hcm, hs, ht⟩
  · simp only [Value.slice.injEq] at h1
    obtain ⟨rfl, h2, rfl⟩ := h1
    obtain rfl : n = 0 := by omega
    exact .inl ⟨rfl, rfl⟩
  · simp only [Value.slice.injEq] at h1
    obtain ⟨rfl, h2, rfl⟩ := h1
    refine .inr ⟨g, cap, cur, rfl, hb, hg, by omega, hcm, hs, ?_⟩
    rw [hc, ← ht, List.take_take, Nat.min_eq_left (Nat.mul_le_mul_right _ hn)]

theorem OwnS.last {w : World} {base : Nat} {e : TypeId} {A : Option Addr} {n cap : Nat} {os : List Int} {l : Int} (h : OwnS w base e (.slice A n cap) (os ++ [l])) :
    ∃ g, A = some ⟨g, 0, none⟩ ∧ base ≤ g ∧ g < w.heap.size ∧ n = os.length + 1 ∧ w.cell? ⟨g, os.length, none⟩ = some (.int .i64 l) := by
  obtain ⟨rfl, h1⟩ := h.slAt
  obtain ⟨b, o, rfl, hb, hc⟩ := h1.get os.length (by simp)
  obtain ⟨A', cap', h2, _, _, h3⟩ := h.len
  cases h2
  obtain ⟨g, h4, h5, h6⟩ := h3 _ rfl
  cases h4
  refine ⟨_, rfl, h5, h6, by simp, ?_⟩
  have := hc 0 (by decide)
  rw [show 0 + os.length * Enc.sz Int + 0 = os.length from by simp [Enc.sz]] at this
  rw [this, show (os ++ [l])[os.length] = l from by simp]; rfl

theorem below_draws {B : Nat} {a w : World} (h : Below B a w) (n : Nat) : Below B a (w.drewN n) := ⟨h.os, h.tape, h.output, h.size, h.block⟩
theorem OwnS.draws {α : Type} [Enc α] {w : World} {base : Nat} {e : TypeId} {v : Value} {xs : List α} (h : OwnS w base e v xs) (n : Nat) : OwnS (w.drewN n) base e v xs := h
theorem snoc_cases {α : Type} (l : List α) : l = [] ∨ ∃ L b, l = L ++ [b] := by
  rcases List.eq_nil_or_concat l with h | ⟨L, b, h⟩
  · exact .inl h
  · exact .inr ⟨L, b, by rw [h, List.concat_eq_append]⟩

/-- An owned slice, as an argument of the next call. -/
theorem OwnS.arg {α : Type} [Enc α] {w : World} {base : Nat} {e : TypeId} {v : Value} {xs : List α} (h : OwnS w base e v xs) :
    ∃ A cap, v = .slice A xs.length cap ∧ SlAt w (· < w.heap.size) A cap xs := by
  obtain ⟨A, cap, rfl, _⟩ := h.len
  exact ⟨A, cap, rfl, h.slAt.2.keep (fun _ _ => rfl) (fun _ hb => hb.2)⟩
theorem SlAt.up {α : Type} [Enc α] {w w' : World} {B B' : Nat} {A : Option Addr} {cap : Nat} {xs : List α} (h : SlAt w (· < B) A cap xs) (hb : Below B w w') (hB : B ≤ B') : SlAt w' (· < B') A cap xs :=
  h.keep (fun b hb' => hb.block b hb') (fun _ hb' => Nat.lt_of_lt_of_le hb' hB)

theorem below_and {w a b : World} (h : Below w.heap.size w a) (k : Below a.heap.size a b) : Below w.heap.size w b := h.trans (k.mono h.size)

theorem take_same {α : Type} {xs ys : List α} {k : Nat} (h : Hid (xs.take k = ys.take k)) (h1 : k < xs.length) (h2 : k < ys.length) (e : xs[k] = ys[k]) : Hid (xs.take (k + 1) = ys.take (k + 1)) := by
  show _ = _
  rw [List.take_succ_eq_append_getElem h1, List.take_succ_eq_append_getElem h2, h.out, e]
theorem take_all {α : Type} {xs ys : List α} {k : Nat} (h : Hid (xs.take k = ys.take k)) (h1 : ¬ k < xs.length) (hl : xs.length = ys.length) : xs = ys := by
  have := h.out
  rwa [List.take_of_length_le (by omega), List.take_of_length_le (by omega)] at this
theorem ne_at {α : Type} {xs ys : List α} (k : Nat) (h1 : k < xs.length) (h2 : k < ys.length) (e : ¬ xs[k] = ys[k]) : ¬ xs = ys := by
  rintro rfl; exact e rfl

/-- After a call: all old cells and marks read as before. -/
theorem bcell {W w1 : World} (hb : Below W.heap.size W w1) : (∀ b o, b < W.heap.size → w1.cell? ⟨b, o, none⟩ = W.cell? ⟨b, o, none⟩) ∧ (∀ b o, b < W.heap.size → w1.frozen? ⟨b, o, none⟩ = W.frozen? ⟨b, o, none⟩) :=
  ⟨fun b o h => hb.cell (p := ⟨b, o, none⟩) h, fun b o h => hb.frozen (p := ⟨b, o, none⟩) h⟩
theorem cell_keep {B b o : Nat} {w w' : World} {v : Value} (h : Below B w w') (hb : b < B) (hc : w.cell? ⟨b, o, none⟩ = some v) : w'.cell? ⟨b, o, none⟩ = some v := by
  rw [h.cell (p := ⟨b, o, none⟩) hb]; exact hc

theorem str_eq (s t : ByteArray) : (s.toList == t.toList) = decide (s = t) := by
  rw [ByteArray.toList_eq, ByteArray.toList_eq, Bool.eq_iff_iff]
  simp only [beq_iff_eq, decide_eq_true_eq]
  constructor
  · intro h
    cases s; cases t
    simp only [ByteArray.mk.injEq]
    exact Array.toList_inj.1 h
  · rintro rfl; rfl
theorem str_ne {s t : ByteArray} (h : (!s.toList == t.toList) = true) : s ≠ t := by
  rw [str_eq] at h; simpa using h
theorem str_same {s t : ByteArray} (h : (!s.toList == t.toList) = false) : s = t := by
  rw [str_eq] at h; simpa using h
theorem str_emp {s : ByteArray} : s.toList = [] ↔ s.size = 0 := by
  rw [ByteArray.toList_eq]
  cases s with | mk d => simp [ByteArray.size]
theorem int_ne {a b : Int} (h : (a != b) = true) : a ≠ b := by simpa using h
theorem int_same {a b : Int} (h : (a != b) = false) : a = b := by simpa using h

theorem Rw.atB {w : World} {B : Nat} {A : Option Addr} {cap : Nat} {xs : List Rw} (h : SlAt w (· < B) A cap xs) (i : Nat) (hi : i < xs.length) :
    ∃ b o, A = some ⟨b, o, none⟩ ∧ b < B ∧ w.cell? ⟨b, o + i * 2, none⟩ = some (.int .i64 xs[i].indent) ∧ w.cell? ⟨b, o + i * 2 + 1, none⟩ = some (.string xs[i].text) := Rw.at h i hi

end Go.Proofs.Ytpdpmcllpafjbaa

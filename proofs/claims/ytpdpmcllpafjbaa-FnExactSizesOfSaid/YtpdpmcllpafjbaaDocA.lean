/- Words of this seat's proofs: documents as data, and as abstract values. No program is named here. -/
import Derived.Test.YtpdpmcllpafjbaaStp
namespace Go.Proofs.Ytpdpmcllpafjbaa
open Go.RowKit
set_option linter.unusedVariables false
set_option linter.unusedSimpArgs false

/-- A document, as data. -/
inductive Dc where
  | mk (op n : Int) (text : ByteArray) (kids : List Dc)
def Dc.op : Dc → Int | .mk o _ _ _ => o
def Dc.n : Dc → Int | .mk _ n _ _ => n
def Dc.text : Dc → ByteArray | .mk _ _ t _ => t
def Dc.kids : Dc → List Dc | .mk _ _ _ ks => ks
mutual
def Dc.sz : Dc → Nat
  | .mk _ _ _ ks => 1 + Dc.szs ks
def Dc.szs : List Dc → Nat
  | [] => 0
  | k :: ks => Dc.sz k + Dc.szs ks
end
theorem Dc.sz_pos (d : Dc) : 0 < d.sz := by cases d; rw [Dc.sz]; omega
theorem Dc.sz_parts (d : Dc) : d.sz = 1 + Dc.szs d.kids := by cases d; rw [Dc.sz]; rfl
theorem Dc.szs_mem {k : Dc} : ∀ {ks : List Dc}, k ∈ ks → k.sz ≤ Dc.szs ks
  | k' :: ks, h => by
    rw [Dc.szs]
    rcases List.mem_cons.1 h with rfl | h
    · omega
    · have := Dc.szs_mem h; omega
theorem Dc.sz_kid {d k : Dc} (h : k ∈ d.kids) : k.sz < d.sz := by rw [d.sz_parts]; have := Dc.szs_mem h; omega
theorem Dc.ind {p : Dc → Prop} (h : ∀ d, (∀ k ∈ d.kids, p k) → p d) (d : Dc) : p d := by
  have : ∀ m, ∀ d : Dc, d.sz ≤ m → p d := by
    intro m
    induction m with
    | zero => intro d hd; have := d.sz_pos; omega
    | succ m ih => intro d hd; exact h d fun k hk => ih k (by have := Dc.sz_kid hk; omega)
  exact this d.sz d (Nat.le_refl _)
theorem Dc.szs_append (ks ls : List Dc) : Dc.szs (ks ++ ls) = Dc.szs ks + Dc.szs ls := by
  induction ks with
  | nil => simp [Dc.szs]
  | cons k ks ih => simp only [List.cons_append, Dc.szs, ih]; omega
theorem Dc.szs_snoc (ks : List Dc) (k : Nat) (h : k < ks.length) : Dc.szs (ks.take (k + 1)) = Dc.szs (ks.take k) + Dc.sz ks[k] := by
  rw [List.take_succ_eq_append_getElem h, Dc.szs_append]
  simp [Dc.szs]
theorem Dc.szs_take (ks : List Dc) (k : Nat) : Dc.szs (ks.take k) ≤ Dc.szs ks := by
  have h : Dc.szs ks = Dc.szs (ks.take k) + Dc.szs (ks.drop k) := by rw [← Dc.szs_append, List.take_append_drop]
  omega
theorem Dc.kids_le : ∀ ks : List Dc, ks.length ≤ Dc.szs ks
  | [] => by simp
  | k :: ks => by rw [Dc.szs, List.length_cons]; have := k.sz_pos; have := Dc.kids_le ks; omega
theorem Dc.len_lt (d : Dc) : d.kids.length < d.sz := by rw [d.sz_parts]; have := Dc.kids_le d.kids; omega

mutual
def Dc.cells : Dc → List AV
  | .mk op n t ks => [.i .i64 op, .i .i64 n, .s t, .is 4 (Dc.cellss ks)]
def Dc.cellss : List Dc → List (List AV)
  | [] => []
  | k :: ks => Dc.cells k :: Dc.cellss ks
end
theorem Dc.cellss_map : ∀ ks : List Dc, Dc.cellss ks = ks.map Dc.cells
  | [] => by rw [Dc.cellss]; rfl
  | k :: ks => by rw [Dc.cellss, Dc.cellss_map ks]; rfl
theorem Dc.cells_eq (d : Dc) : d.cells = [.i .i64 d.op, .i .i64 d.n, .s d.text, .is 4 (d.kids.map Dc.cells)] := by
  cases d with | mk o n t ks => rw [Dc.cells, Dc.cellss_map]; rfl
theorem Dc.c_len (d : Dc) : d.cells.length = 4 := by rw [d.cells_eq]; rfl
theorem Dc.c_take (d : Dc) : d.cells.take 4 = d.cells := by rw [d.cells_eq]; rfl
theorem Dc.c_head (d : Dc) : d.cells.head? = some (.i .i64 d.op) := by rw [d.cells_eq]; rfl
theorem Dc.c_drop1 (d : Dc) : (d.cells.drop 1).head? = some (.i .i64 d.n) := by rw [d.cells_eq]; rfl
theorem Dc.c_drop2 (d : Dc) : (d.cells.drop 2).head? = some (.s d.text) := by rw [d.cells_eq]; rfl
theorem Dc.c_drop3 (d : Dc) : (d.cells.drop 3).head? = some (.is 4 (d.kids.map Dc.cells)) := by rw [d.cells_eq]; rfl
theorem Dc.c_all (d : Dc) : d.cells.all AV.one = true := by rw [d.cells_eq]; rfl

mutual
def Dc.cnt (p : Int) : Dc → Int
  | .mk op _ _ ks => (if op = p then 1 else 0) + Dc.cnts p ks
def Dc.cnts (p : Int) : List Dc → Int
  | [] => 0
  | k :: ks => Dc.cnt p k + Dc.cnts p ks
end
mutual
theorem Dc.cnt_bd (p : Int) : ∀ d : Dc, 0 ≤ d.cnt p ∧ d.cnt p ≤ d.sz
  | .mk op n t ks => by
    rw [Dc.cnt, Dc.sz]
    have := Dc.cnts_bd p ks
    split <;> omega
theorem Dc.cnts_bd (p : Int) : ∀ ks : List Dc, 0 ≤ Dc.cnts p ks ∧ Dc.cnts p ks ≤ Dc.szs ks
  | [] => by simp [Dc.cnts, Dc.szs]
  | k :: ks => by
    rw [Dc.cnts, Dc.szs]
    have := Dc.cnt_bd p k
    have := Dc.cnts_bd p ks
    omega
end
theorem Dc.cnts_append (p : Int) (ks ls : List Dc) : Dc.cnts p (ks ++ ls) = Dc.cnts p ks + Dc.cnts p ls := by
  induction ks with
  | nil => simp [Dc.cnts]
  | cons k ks ih => simp only [List.cons_append, Dc.cnts, ih]; omega
theorem Dc.cnts_snoc (p : Int) (ks : List Dc) (k : Nat) (h : k < ks.length) : Dc.cnts p (ks.take (k + 1)) = Dc.cnts p (ks.take k) + Dc.cnt p ks[k] := by
  rw [List.take_succ_eq_append_getElem h, Dc.cnts_append]
  simp [Dc.cnts]
theorem Dc.cnt_parts (p : Int) (d : Dc) : d.cnt p = (if d.op = p then 1 else 0) + Dc.cnts p d.kids := by cases d; rw [Dc.cnt]; rfl
def big : Nat := 1000000000000
end Go.Proofs.Ytpdpmcllpafjbaa

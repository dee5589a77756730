/- The reference's reader of drawn bytes: how it lies in memory, how it is opened, what a pick returns. -/
import Derived.Test.YtcnbnggfddmkbaaBase
import Derived.Test.YtcnbnggfddmkbaaProg
namespace Go.Proofs.Ytcnbnggfddmkbaa
open Go.RowKit
set_option linter.unusedVariables false
set_option linter.unusedSimpArgs false

/-- A byte of a slice of bytes. -/
structure By where
  v : Int
instance : Enc By := ⟨1, fun t => [.int .u8 t.v], fun _ => rfl, by decide, fun x u h => by simp at h; rw [h]; rfl⟩
theorem By.atB {w : World} {B : Nat} {A : Option Addr} {cap : Nat} {xs : List By} (h : SlAt w (· < B) A cap xs) (i : Nat) (hi : i < xs.length) :
    ∃ b o, A = some ⟨b, o, none⟩ ∧ b < B ∧ w.cell? ⟨b, o + i, none⟩ = some (.int .u8 xs[i].v) := by
  obtain ⟨b, o, hA, hb, hc⟩ := h.get i hi
  have := hc 0 (by decide)
  simp [Enc.sz] at this
  exact ⟨b, o, hA, hb, this⟩

/-- Only block g (below what there was) may have turned. -/
structure Only (g : Nat) (w w' : World) : Prop where
  os : w'.os = w.os
  tape : w'.tape = w.tape
  output : w'.output = w.output
  size : w.heap.size ≤ w'.heap.size
  block : ∀ k, k < w.heap.size → k ≠ g → w'.heap[k]? = w.heap[k]?
theorem Only.refl (g : Nat) (w : World) : Only g w w := ⟨rfl, rfl, rfl, Nat.le_refl _, fun _ _ _ => rfl⟩
theorem Only.trans {g : Nat} {a b c : World} (h : Only g a b) (k : Only g b c) : Only g a c :=
  ⟨k.os.trans h.os, k.tape.trans h.tape, k.output.trans h.output, Nat.le_trans h.size k.size, fun i hi hg => (k.block i (Nat.lt_of_lt_of_le hi h.size) hg).trans (h.block i hi hg)⟩
theorem below_only {w w' : World} (h : Below w.heap.size w w') (g : Nat) : Only g w w' := ⟨h.os, h.tape, h.output, h.size, fun k hk _ => h.block k hk⟩
theorem only_below {B g : Nat} {w w' : World} (h : Only g w w') (hg : B ≤ g) (hB : B ≤ w.heap.size) : Below B w w' := ⟨h.os, h.tape, h.output, h.size, fun k hk => h.block k (by omega) (by omega)⟩

/-- A reader at block g that has been asked p times; its bytes lie below block B. -/
def RdAt (w : World) (B g p : Nat) : Prop := B ≤ g ∧ g < w.heap.size ∧ ∃ (A : Option Addr) (cap : Nat) (xs : List By), w.cell? ⟨g, 0, none⟩ = some (.slice A xs.length cap) ∧ w.cell? ⟨g, 1, none⟩ = some (.int .i64 p) ∧ w.frozen? ⟨g, 1, none⟩ = false ∧
  SlAt w (· < B) A cap xs ∧ ∀ x ∈ xs, 0 ≤ x.v ∧ x.v ≤ 255
theorem RdAt.keep {w w' : World} {B g p : Nat} (h : RdAt w B g p) (hB : ∀ k, k < B → w'.heap[k]? = w.heap[k]?) (hG : w'.heap[g]? = w.heap[g]?) (hs : w.heap.size ≤ w'.heap.size) : RdAt w' B g p := by
  obtain ⟨hBg, hg, A, cap, xs, h0, h1, h2, h3, h4⟩ := h
  exact ⟨hBg, by omega, A, cap, xs, (World.cell?_of_block (w := w) (a := ⟨g, 0, none⟩) hG).trans h0, (World.cell?_of_block (w := w) (a := ⟨g, 1, none⟩) hG).trans h1, (World.frozen?_of_block (w := w) (a := ⟨g, 1, none⟩) hG).trans h2,
    h3.keep hB (fun _ h => h), h4⟩
theorem RdAt.below {w w' : World} {B g p : Nat} (h : RdAt w B g p) (hb : Below w.heap.size w w') : RdAt w' B g p :=
  h.keep (fun k hk => hb.block k (by have := h.1; have := h.2.1; omega)) (hb.block g h.2.1) hb.size
theorem rd_set {w : World} {B g p b o : Nat} (h : RdAt w B g p) (hb : B ≤ b) (hg : b ≠ g) (u : Value) : RdAt (w.setCell ⟨b, o, none⟩ u) B g p :=
  h.keep (fun k hk => Below.heap_setCell _ _ _ _ (by simp; omega)) (Below.heap_setCell _ _ _ _ (by simp; omega)) (by simp [World.setCell])
theorem only_keep {g b o : Nat} {w w' : World} {v : Value} (h : Only g w w') (hb : b < w.heap.size) (hg : b ≠ g) (hc : w.cell? ⟨b, o, none⟩ = some v) : w'.cell? ⟨b, o, none⟩ = some v := by
  rw [World.cell?_of_block (w := w) (a := ⟨b, o, none⟩) (h.block b hb hg)]; exact hc

theorem xor_pos (a b : Nat) (ha : a < 4611686018427387904) (hb : b < 4611686018427387904) : 0 ≤ bits .xor .i64 (a : Int) (b : Int) := by
  have hx : a ^^^ b < 2 ^ 62 := Nat.xor_lt_two_pow (by omega) (by omega)
  have h1 : (BitVec.ofInt 64 (a : Int)).toNat = a := by
    rw [BitVec.ofInt_natCast, BitVec.toNat_ofNat]; exact Nat.mod_eq_of_lt (by omega)
  have h2 : (BitVec.ofInt 64 (b : Int)).toNat = b := by
    rw [BitVec.ofInt_natCast, BitVec.toNat_ofNat]; exact Nat.mod_eq_of_lt (by omega)
  show 0 ≤ IntKind.i64.wrap ((BitVec.ofInt 64 (a : Int) ^^^ BitVec.ofInt 64 (b : Int)).toNat : Int)
  rw [BitVec.toNat_xor, h1, h2, IntWalk.i64_in _ (by omega)]
  omega
theorem xor_pos' {X : Int} (h0 : 0 ≤ X) (h1 : X ≤ 100000000000) : 0 ≤ bits .xor .i64 X (X / 64) := by
  obtain ⟨n, rfl⟩ := Int.eq_ofNat_of_zero_le h0
  have : ((n : Int) / 64) = ((n / 64 : Nat) : Int) := rfl
  rw [this]
  exact xor_pos n (n / 64) (by omega) (by omega)

/-- What a pick from n returns, and what becomes of the reader. -/
def PickP (B g p : Nat) (n : Int) (w : World) (e : Ending) (w' : World) : Prop := ∃ r, e = .returned (.int .i64 r) ∧ 0 ≤ r ∧ (1 ≤ n → r < n) ∧ RdAt w' B g (p + 1) ∧ Only g w w'

theorem rd_step {w : World} {B g p : Nat} (h : RdAt w B g p) (nq : Nat) : RdAt ((w.setCell ⟨g, 1, none⟩ (.int .i64 (p + 1))).drewN nq) B g (p + 1) ∧ Only g w ((w.setCell ⟨g, 1, none⟩ (.int .i64 (p + 1))).drewN nq) := by
  obtain ⟨hBg, hg, A, cap, xs, h0, h1, h2, h3, h4⟩ := h
  have hblk : ∀ k, k ≠ g → (w.setCell ⟨g, 1, none⟩ (.int .i64 (p + 1))).heap[k]? = w.heap[k]? := fun k hk => Below.heap_setCell _ _ _ _ hk
  have hsz : (w.setCell ⟨g, 1, none⟩ (.int .i64 (p + 1))).heap.size = w.heap.size := by simp [World.setCell]
  refine ⟨⟨hBg, ?_, A, cap, xs, ?_, ?_, ?_, ?_, h4⟩, ⟨rfl, rfl, rfl, ?_, ?_⟩⟩
  · show g < (w.setCell ⟨g, 1, none⟩ (.int .i64 (p + 1))).heap.size
    omega
  · rw [World.cell?_drewN, World.cell?_setCell_other _ _ _ _ (by simp)]; exact h0
  · rw [World.cell?_drewN, World.cell?_setCell_same _ _ _ h1]; rfl
  · rw [World.frozen?_drewN, World.frozen?_setCell]; exact h2
  · exact h3.keep (fun b (hb : b < B) => hblk b (by omega)) (fun _ h => h)
  · show w.heap.size ≤ (w.setCell ⟨g, 1, none⟩ (.int .i64 (p + 1))).heap.size
    omega
  · intro k hk hne; exact hblk k hne

set_option maxHeartbeats 4000000 in
set_option maxRecDepth 100000 in
theorem rd_pick (B g p : Nat) (n : Int) (w : World) (h : RdAt w B g p) (hp : p < 1000000) (hn : n ≤ 1000000) :
    Calls Try.prog 39 #[.pointer (some ⟨g, 0, none⟩), .int .i64 n] w (PickP B g p n w) := by
  have HR := Lib.hid (rd_step h)
  obtain ⟨hBg, hg, A, cap, xs, k0, k1, kf, hsl, hby⟩ := h
  have hl := hsl.1
  have hm := hsl.2.1
  unfold maxLen at hm
  by_cases hn1 : n < 1
  · go_enter Try.func39, Try.ntmps39
    go_wp2_with fail
    go_ret
    exact ⟨0, rfl, by omega, fun h => by omega, HR.out 0⟩
  · by_cases h0 : xs.length = 0
    · have h0' : ((xs.length : Int) == 0) = true := by simp [h0]
      clear h0
      go_enter Try.func39, Try.ntmps39
      go_wp2_with fail
      go_ret
      exact ⟨0, rfl, by omega, fun h => by omega, HR.out 0⟩
    · have h0' : ((xs.length : Int) == 0) = false := by simp [h0]
      have hL : 0 < xs.length := by omega
      clear h0
      by_cases hpl : p < xs.length
      · obtain ⟨b, o, rfl, hb, c0⟩ := By.atB hsl p hpl
        have ⟨v0, v1⟩ := hby xs[p] (List.getElem_mem _)
        have c0' : (w.setCell ⟨g, 1, none⟩ (.int .i64 (p + 1))).cell? ⟨b, o + p, none⟩ = some (.int .u8 xs[p].v) := by
          rw [World.cell?_setCell_other _ _ _ _ (by simp <;> omega)]; exact c0
        go_enter Try.func39, Try.ntmps39
        go_wp2_with fail
        go_ret
        refine ⟨_, rfl, ?_, fun h => ?_, HR.out 0⟩
        · exact Int.emod_nonneg _ (by omega)
        · exact Int.emod_lt_of_pos _ (by omega)
      · have t1 : Int.tmod (p : Int) xs.length = ((p % xs.length : Nat) : Int) := rfl
        have t2 : Int.tmod ((p : Int) * 7 + 3) xs.length = (((p * 7 + 3) % xs.length : Nat) : Int) := rfl
        have t3 : Int.tdiv (p : Int) xs.length = ((p / xs.length : Nat) : Int) := rfl
        have m1 : p % xs.length < xs.length := Nat.mod_lt _ hL
        have m2 : (p * 7 + 3) % xs.length < xs.length := Nat.mod_lt _ hL
        have q1 : p / xs.length ≤ p := Nat.div_le_self _ _
        generalize p % xs.length = i at *
        generalize (p * 7 + 3) % xs.length = j at *
        generalize p / xs.length = q at *
        have T1 := Lib.hid t1; have T2 := Lib.hid t2; have T3 := Lib.hid t3; clear t1 t2 t3
        obtain ⟨b, o, rfl, hb, c0⟩ := By.atB hsl i m1
        obtain ⟨b', o', hA, _, c1⟩ := By.atB hsl j m2
        simp only [Option.some.injEq, Addr.mk.injEq, and_true] at hA
        obtain ⟨rfl, rfl⟩ := hA
        have ⟨v0, v1⟩ := hby xs[i] (List.getElem_mem _)
        have ⟨u0, u1⟩ := hby xs[j] (List.getElem_mem _)
        generalize xs[i].v = x at *
        generalize xs[j].v = y at *
        have c0' : (w.setCell ⟨g, 1, none⟩ (.int .i64 (p + 1))).cell? ⟨b, o + i, none⟩ = some (.int .u8 x) := by
          rw [World.cell?_setCell_other _ _ _ _ (by simp <;> omega)]; exact c0
        have c1' : (w.setCell ⟨g, 1, none⟩ (.int .i64 (p + 1))).cell? ⟨b, o + j, none⟩ = some (.int .u8 y) := by
          rw [World.cell?_setCell_other _ _ _ _ (by simp <;> omega)]; exact c1
        clear c0 c1 hsl hby
        go_enter Try.func39, Try.ntmps39
        go_wp2_with fail
        have s2 : IntKind.i64.wrap ((p : Int) * 7) = (p : Int) * 7 := IntWalk.i64_in _ (by omega)
        have s3 : IntKind.i64.wrap ((p : Int) * 7 + 3) = (p : Int) * 7 + 3 := IntWalk.i64_in _ (by omega)
        have s5 : IntKind.i64.wrap (x * 131) = x * 131 := IntWalk.i64_in _ (by omega)
        have s6 : IntKind.i64.wrap (y * 1117) = y * 1117 := IntWalk.i64_in _ (by omega)
        have s7 : IntKind.i64.wrap (x * 131 + y * 1117) = x * 131 + y * 1117 := IntWalk.i64_in _ (by omega)
        have s8 : IntKind.i64.wrap ((p : Int) * 29) = (p : Int) * 29 := IntWalk.i64_in _ (by omega)
        have s9 : IntKind.i64.wrap (x * 131 + y * 1117 + (p : Int) * 29) = x * 131 + y * 1117 + (p : Int) * 29 := IntWalk.i64_in _ (by omega)
        have s11 : IntKind.i64.wrap ((q : Int) * 53) = (q : Int) * 53 := IntWalk.i64_in _ (by omega)
        have s12 : IntKind.i64.wrap (x * 131 + y * 1117 + (p : Int) * 29 + (q : Int) * 53) = x * 131 + y * 1117 + (p : Int) * 29 + (q : Int) * 53 := IntWalk.i64_in _ (by omega)
        have hp0 : 0 ≤ x * 131 + y * 1117 + (p : Int) * 29 + (q : Int) * 53 := by omega
        have hp1 : x * 131 + y * 1117 + (p : Int) * 29 + (q : Int) * 53 ≤ 100000000000 := by omega
        have b1 : (0 : Int) ≤ (i : Int) := by omega
        have b2 : (i : Int) < (xs.length : Int) := by omega
        have b3 : (0 : Int) ≤ (j : Int) := by omega
        have b4 : (j : Int) < (xs.length : Int) := by omega
        have s1 := T1.out
        have s4 := T2.out
        have s10 := T3.out
        go_quiet (fail)
        clear s1 s2 s3 s4 s5 s6 s7 s8 s9 s10 s11 s12
        generalize x * 131 + y * 1117 + (p : Int) * 29 + (q : Int) * 53 = X at *
        go_wp2_with fail
        have hX := xor_pos' hp0 hp1
        go_ret
        refine ⟨_, rfl, ?_, fun h => ?_, HR.out nq⟩
        · exact Int.tmod_nonneg _ hX
        · exact Int.tmod_lt_of_pos _ (by omega)

theorem SlAt.take {α : Type} [Enc α] {w : World} {ok : Nat → Prop} {A : Option Addr} {cap : Nat} {xs : List α} (h : SlAt w ok A cap xs) (n : Nat) : SlAt w ok A cap (xs.take n) := by
  refine ⟨by have := h.1; simp; omega, h.2.1, ?_⟩
  have h1 : cellsOf xs = cellsOf (xs.take n) ++ cellsOf (xs.drop n) := by rw [← cellsOf_append, List.take_append_drop]
  rcases h.2.2 with h2 | ⟨b, o, hA, hb, hc⟩
  · rw [h1] at h2
    exact .inl (List.append_eq_nil_iff.1 h2).1
  · refine .inr ⟨b, o, hA, hb, fun i hi => ?_⟩
    rw [hc i (by rw [h1, List.length_append]; omega), h1, List.getElem?_append_left hi]

/-- The reader that l15Open returns. -/
def OpenP (B : Nat) (w : World) (v : Value) (w' : World) : Prop := ∃ g, v = .pointer (some ⟨g, 0, none⟩) ∧ w.heap.size ≤ g ∧ RdAt w' B g 0

theorem spec_l15Open (B : Nat) (xs : List By) (A : Option Addr) (cap : Nat) (w : World) (hB : B ≤ w.heap.size) (h : SlAt w (· < B) A cap xs) (hv : ∀ x ∈ xs, 0 ≤ x.v ∧ x.v ≤ 255) :
    Calls Try.prog 38 #[.slice A xs.length cap] w (Post w (OpenP B w)) := by
  have hl := h.1
  have hm := h.2.1
  unfold maxLen at hm
  by_cases hlen : xs.length > 2000
  · have h2 : SlAt (w.alloc (.cells #[.slice A 2000 cap, .int .i64 0] 101)) (· < B) A cap (xs.take 2000) := (h.take 2000).keep (fun b hb => Below.heap_alloc w _ b (by have : b < B := hb; omega)) (fun _ h => h)
    go_enter Try.func38, Try.ntmps38
    go_wp2_with fail
    go_ret
    refine .mk (by repeat' (first | exact Below.refl _ _ | assumption | (refine Below.drew ?_) | (refine below_draws ?_ _) | (refine Below.alloc ?_ ?_ _) | (refine Below.setCell ?_ ?_ _) | (refine below_and ?_ (by assumption)) | (refine Below.trans ?_ (Below.mono (by assumption) ?_)) | omega | (simp; done) | (simp; omega))) ⟨w.heap.size, rfl, Nat.le_refl _, hB, by simp, A, cap, xs.take 2000, ?_, ?_, ?_, h2, fun x hx => hv x (List.mem_of_mem_take hx)⟩
    · rw [show (xs.take 2000).length = 2000 by simp; omega]; simp
    · simp
    · simp
  · have h2 : SlAt (w.alloc (.cells #[.slice A xs.length cap, .int .i64 0] 101)) (· < B) A cap xs := h.keep (fun b hb => Below.heap_alloc w _ b (by have : b < B := hb; omega)) (fun _ h => h)
    go_enter Try.func38, Try.ntmps38
    go_wp2_with fail
    go_ret
    refine .mk (by repeat' (first | exact Below.refl _ _ | assumption | (refine Below.drew ?_) | (refine below_draws ?_ _) | (refine Below.alloc ?_ ?_ _) | (refine Below.setCell ?_ ?_ _) | (refine below_and ?_ (by assumption)) | (refine Below.trans ?_ (Below.mono (by assumption) ?_)) | omega | (simp; done) | (simp; omega))) ⟨w.heap.size, rfl, Nat.le_refl _, hB, by simp, A, cap, xs, ?_, ?_, ?_, h2, hv⟩
    · simp
    · simp
    · simp
end Go.Proofs.Ytcnbnggfddmkbaa

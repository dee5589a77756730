/- A slice of tokens, and a slice of lines, that came in. -/
import Derived.Test.YtpdpmcllpafjbaaOpen
import Derived.Test.YtpdpmcllpafjbaaProg
namespace Go.Proofs.Ytpdpmcllpafjbaa
open Go.RowKit
instance : Inhabited Tok := ⟨⟨0, 0, ⟨#[]⟩⟩⟩
instance : Inhabited Rw := ⟨⟨0, ⟨#[]⟩⟩⟩

theorem cells_int : Try.prog.cellsOf 3 = 1 := by kernel_rfl
theorem cells_string : Try.prog.cellsOf 9 = 1 := by kernel_rfl
theorem cells_Token : Try.prog.cellsOf 87 = 3 := by kernel_rfl
theorem cells_Row : Try.prog.cellsOf 94 = 2 := by kernel_rfl

set_option maxRecDepth 100000 in
theorem dec_tok {H : Type} {enc : TypeId × Value → H} {w : World} (fuel : Nat) (cs : List Value) (x : DataW H × List MemPlace) (h : DataW.trod enc Try.prog w 0 (fun _ => true) true fuel 87 cs = some x) :
    ∃ y : Tok, cs = Enc.enc y ∧ (y.text.size ≤ maxLen ∧ (Lit.int .i64 y.kind).wf = true ∧ (Lit.int .i64 y.n).wf = true) := by
  obtain ⟨xs, n, _, _, hl, hlen, hf⟩ := DataW.trod_struct Try.underlying87 h
  rw [cells_Token] at hl
  match xs, hlen, cs, hl with
  | [y0, y1, y2], _, [c0, c1, c2], _ =>
    have h0 : DataW.trod enc Try.prog w 0 (fun _ => true) true n 3 (([c0, c1, c2].drop 0).take (Try.prog.cellsOf 3)) = some y0 := hf 0 _ rfl
    have h1 : DataW.trod enc Try.prog w 0 (fun _ => true) true n 3 (([c0, c1, c2].drop 1).take (Try.prog.cellsOf 3)) = some y1 := hf 1 _ rfl
    have h2 : DataW.trod enc Try.prog w 0 (fun _ => true) true n 9 (([c0, c1, c2].drop 2).take (Try.prog.cellsOf 9)) = some y2 := hf 2 _ rfl
    rw [cells_int] at h0 h1
    rw [cells_string] at h2
    obtain ⟨a, ha, _, wa⟩ := DataW.trod_int Try.underlying3 h0
    obtain ⟨b, hb, _, wb⟩ := DataW.trod_int Try.underlying3 h1
    obtain ⟨s, hs, _, ws⟩ := DataW.trod_string Try.underlying9 h2
    simp at ha hb hs
    subst ha; subst hb; subst hs
    exact ⟨⟨a, b, s⟩, rfl, ws, wa, wb⟩

set_option maxRecDepth 100000 in
theorem dec_row {H : Type} {enc : TypeId × Value → H} {w : World} (fuel : Nat) (cs : List Value) (x : DataW H × List MemPlace) (h : DataW.trod enc Try.prog w 0 (fun _ => true) true fuel 94 cs = some x) :
    ∃ y : Rw, cs = Enc.enc y ∧ (y.text.size ≤ maxLen ∧ (Lit.int .i64 y.indent).wf = true) := by
  obtain ⟨xs, n, _, _, hl, hlen, hf⟩ := DataW.trod_struct Try.underlying94 h
  rw [cells_Row] at hl
  match xs, hlen, cs, hl with
  | [y0, y1], _, [c0, c1], _ =>
    have h0 : DataW.trod enc Try.prog w 0 (fun _ => true) true n 3 (([c0, c1].drop 0).take (Try.prog.cellsOf 3)) = some y0 := hf 0 _ rfl
    have h1 : DataW.trod enc Try.prog w 0 (fun _ => true) true n 9 (([c0, c1].drop 1).take (Try.prog.cellsOf 9)) = some y1 := hf 1 _ rfl
    rw [cells_int] at h0
    rw [cells_string] at h1
    obtain ⟨a, ha, _, wa⟩ := DataW.trod_int Try.underlying3 h0
    obtain ⟨s, hs, _, ws⟩ := DataW.trod_string Try.underlying9 h1
    simp at ha hs
    subst ha; subst hs
    exact ⟨⟨a, s⟩, rfl, ws, wa⟩
end Go.Proofs.Ytpdpmcllpafjbaa

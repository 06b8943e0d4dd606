/-
  Openers of the layer of documents: raw edits, edits, triples of numbers. Conditions: none.
-/
import Derived.Test.YtcikciefaggckaaTp
import Derived.Test.YtcikciefaggckaaD10
namespace Go.Proofs.Ytcikciefaggckaa
open Go Go.ChangeShapes Go.WideShapes Go.ChangeAt Go.RowKit

theorem opens_rw {H : Type} {enc : TypeId × Value → H} {W : World} {base : Nat} {spare : Nat → Bool} {held : Bool} {fuel : Nat} {cs : List Value} {x : DataW H × List MemPlace} (h : DataW.trod enc Try.prog W base spare held fuel 53 cs = some x) :
    ∃ (a : Rw) (v : Value), cs = [.int .u8 a.k, .int .u8 a.a, .int .u8 a.l, .int .u8 a.t, v] ∧ SliceRep (snap0 W) U8 v a.tx ∧ okRw a := by
  obtain ⟨n, hl, hf⟩ := opens_fields Try.underlying53 h
  rw [show Try.prog.cellsOf 53 = 5 by kernel_rfl] at hl
  have cu : Try.prog.cellsOf 5 = 1 := by kernel_rfl
  have cl : Try.prog.cellsOf 51 = 1 := by kernel_rfl
  match cs, hl with
  | [c0, c1, c2, c3, c4], _ =>
    obtain ⟨y0, h0⟩ := hf 0 _ rfl
    obtain ⟨y1, h1⟩ := hf 1 _ rfl
    obtain ⟨y2, h2⟩ := hf 2 _ rfl
    obtain ⟨y3, h3⟩ := hf 3 _ rfl
    obtain ⟨y4, h4⟩ := hf 4 _ rfl
    simp [cu, cl] at h0 h1 h2 h3 h4
    obtain ⟨n0, e0, k0⟩ := opens_b8 Try.underlying5 h0
    obtain ⟨n1, e1, k1⟩ := opens_b8 Try.underlying5 h1
    obtain ⟨n2, e2, k2⟩ := opens_b8 Try.underlying5 h2
    obtain ⟨n3, e3, k3⟩ := opens_b8 Try.underlying5 h3
    obtain ⟨v, xs, e4, k4, k5⟩ := opens_slice Try.underlying51 cu (by decide) (opens_u8 Try.underlying5) h4
    injection e0 with e0; injection e1 with e1; injection e2 with e2; injection e3 with e3; injection e4 with e4
    subst e0; subst e1; subst e2; subst e3; subst e4
    exact ⟨⟨n0, n1, n2, n3, xs⟩, c4, rfl, k4, k0, k1, k2, k3, k5⟩
theorem opens_rwL : Opens Try.prog 53 RwL okRw := by
  intro H enc W base spare held fuel cs x h
  obtain ⟨a, v, e, h1, h2⟩ := opens_rw h
  exact ⟨a, ⟨v, e, h1⟩, h2⟩
theorem opens_rwV {H : Type} {enc : TypeId × Value → H} {W : World} {base : Nat} {spare : Nat → Bool} {held : Bool} {v : Value} {d : DataW H} {ps : List MemPlace} {b2 : Nat} {r : Reach} (hv : Value.okWide Try.prog W r b2 53 v) (h : DataW.Trod enc Try.prog W base spare held 53 v d ps) :
    ∃ (a : Rw) (vl : Value), v = .agg #[.int .u8 a.k, .int .u8 a.a, .int .u8 a.l, .int .u8 a.t, vl] ∧ SliceRep (snap0 W) U8 vl a.tx ∧ okRw a := by
  obtain ⟨cs, rfl⟩ := agg_of_struct Try.underlying53 hv
  obtain ⟨fuel, h⟩ := h
  obtain ⟨a, vl, e, h1, h2⟩ := opens_rw h
  refine ⟨a, vl, ?_, h1, h2⟩
  have : cs.toList = [.int .u8 a.k, .int .u8 a.a, .int .u8 a.l, .int .u8 a.t, vl] := e
  rw [← Array.toArray_toList (xs := cs), this]
theorem opens_edit {H : Type} {enc : TypeId × Value → H} {W : World} {base : Nat} {spare : Nat → Bool} {held : Bool} {v : Value} {d : DataW H} {ps : List MemPlace} {b2 : Nat} {r : Reach} (hv : Value.okWide Try.prog W r b2 24 v) (h : DataW.Trod enc Try.prog W base spare held 24 v d ps) :
    ∃ e : Ed, v = edV e := by
  obtain ⟨cs, rfl⟩ := agg_of_struct Try.underlying24 hv
  obtain ⟨fuel, h⟩ := h
  have h : DataW.trod enc Try.prog W base spare held fuel 24 cs.toList = some (d, ps) := h
  obtain ⟨n, hl, hf⟩ := opens_fields Try.underlying24 h
  rw [show Try.prog.cellsOf 24 = 5 by kernel_rfl] at hl
  have cu : Try.prog.cellsOf 3 = 1 := by kernel_rfl
  have cl : Try.prog.cellsOf 9 = 1 := by kernel_rfl
  rw [← Array.toArray_toList (xs := cs)]
  generalize cs.toList = cs at *
  match cs, hl with
  | [c0, c1, c2, c3, c4], _ =>
    obtain ⟨y0, h0⟩ := hf 0 _ rfl
    obtain ⟨y1, h1⟩ := hf 1 _ rfl
    obtain ⟨y2, h2⟩ := hf 2 _ rfl
    obtain ⟨y3, h3⟩ := hf 3 _ rfl
    obtain ⟨y4, h4⟩ := hf 4 _ rfl
    simp [cu, cl] at h0 h1 h2 h3 h4
    obtain ⟨n0, e0, k0⟩ := opens_i64 Try.underlying3 h0
    obtain ⟨n1, e1, k1⟩ := opens_i64 Try.underlying3 h1
    obtain ⟨n2, e2, k2⟩ := opens_i64 Try.underlying3 h2
    obtain ⟨n3, e3, k3⟩ := opens_i64 Try.underlying3 h3
    obtain ⟨s, e4, k4⟩ := opens_str Try.underlying9 h4
    injection e0 with e0; injection e1 with e1; injection e2 with e2; injection e3 with e3; injection e4 with e4
    subst e0; subst e1; subst e2; subst e3; subst e4
    exact ⟨⟨n0, n1, n2, n3, s⟩, rfl⟩
theorem opens_w3 {H : Type} {enc : TypeId × Value → H} {W : World} {base : Nat} {spare : Nat → Bool} {held : Bool} {v : Value} {d : DataW H} {ps : List MemPlace} {b2 : Nat} {r : Reach} (hv : Value.okWide Try.prog W r b2 26 v) (h : DataW.Trod enc Try.prog W base spare held 26 v d ps) :
    ∃ a b c : Int, v = .agg #[.int .i16 a, .int .i16 b, .int .i16 c] ∧ isI16 a ∧ isI16 b ∧ isI16 c := by
  obtain ⟨cs, rfl⟩ := agg_of_array Try.underlying26 hv
  obtain ⟨fuel, h⟩ := h
  have h : DataW.trod enc Try.prog W base spare held fuel 26 cs.toList = some (d, ps) := h
  obtain ⟨n, hl, hf⟩ := opens_elems Try.underlying26 h
  rw [show Try.prog.cellsOf 26 = 3 by kernel_rfl] at hl
  have cu : Try.prog.cellsOf 25 = 1 := by kernel_rfl
  rw [← Array.toArray_toList (xs := cs)]
  generalize cs.toList = cs at *
  match cs, hl with
  | [c0, c1, c2], _ =>
    obtain ⟨y0, h0⟩ := hf 0 (by decide)
    obtain ⟨y1, h1⟩ := hf 1 (by decide)
    obtain ⟨y2, h2⟩ := hf 2 (by decide)
    simp [cu] at h0 h1 h2
    obtain ⟨n0, e0, k0⟩ := opens_i16 Try.underlying25 h0
    obtain ⟨n1, e1, k1⟩ := opens_i16 Try.underlying25 h1
    obtain ⟨n2, e2, k2⟩ := opens_i16 Try.underlying25 h2
    injection e0 with e0; injection e1 with e1; injection e2 with e2
    subst e0; subst e1; subst e2
    exact ⟨n0, n1, n2, rfl, k0, k1, k2⟩
end Go.Proofs.Ytcikciefaggckaa

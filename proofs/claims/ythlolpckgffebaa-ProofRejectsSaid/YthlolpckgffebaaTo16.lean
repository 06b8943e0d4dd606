/-
  Openers of the layer of proofs: lists of numbers, triples of signed bytes, spoils. Conditions: none.
-/
import Derived.Test.YthlolpckgffebaaTop2
namespace Go.Proofs.Ythlolpckgffebaa
open Go Go.ChangeShapes Go.WideShapes Go.ChangeAt Go.RowKit

theorem opens_i64L {P : Program} {t : TypeId} (ht : P.underlying t = some (.int .i64)) : Opens P t I64 inI64 := by
  intro H enc W base spare held fuel cs x h
  obtain ⟨n, rfl, hw⟩ := opens_i64 ht h
  exact ⟨n, rfl, hw⟩
section
variable {P : Program} {H : Type} {enc : TypeId × Value → H} {W : World} {base : Nat} {spare : Nat → Bool} {held : Bool} {fuel : Nat} {t : TypeId} {cs : List Value} {x : DataW H × List MemPlace}
theorem opens_i8' (ht : P.underlying t = some (.int .i8)) (h : DataW.trod enc P W base spare held fuel t cs = some x) : ∃ n, cs = [.int .i8 n] ∧ isI8 n := by
  obtain ⟨n, rfl, _, hw⟩ := DataW.trod_int ht h
  exact ⟨n, rfl, i8_range hw⟩
theorem opens_b8 (ht : P.underlying t = some (.int .u8)) (h : DataW.trod enc P W base spare held fuel t cs = some x) : ∃ n, cs = [.int .u8 n] ∧ isByte n := by
  obtain ⟨n, rfl, _, hw⟩ := DataW.trod_int ht h
  exact ⟨n, rfl, u8_range hw⟩
theorem opens_fields {fs : Array Field} (ht : P.underlying t = some (.struct fs)) (h : DataW.trod enc P W base spare held fuel t cs = some x) :
    ∃ n, cs.length = P.cellsOf t ∧ ∀ (i : Nat) (f : Field), fs[i]? = some f → ∃ y, DataW.trod enc P W base spare held n f.type ((cs.drop f.offset).take (P.cellsOf f.type)) = some y := by
  obtain ⟨xs, n, _, _, hl, hxl, hi⟩ := DataW.trod_struct ht h
  refine ⟨n, hl, fun i f hf => ?_⟩
  have hil := (Array.getElem?_eq_some_iff.1 hf).1
  exact ⟨xs[i]'(by omega), by rw [hi i f hf]; exact List.getElem?_eq_getElem _⟩
theorem opens_elems {e : TypeId} {k : Nat} (ht : P.underlying t = some (.array k e)) (h : DataW.trod enc P W base spare held fuel t cs = some x) :
    ∃ n, cs.length = P.cellsOf t ∧ ∀ i, i < k → ∃ y, DataW.trod enc P W base spare held n e ((cs.drop (i * P.cellsOf e)).take (P.cellsOf e)) = some y := by
  obtain ⟨xs, n, _, _, hl, hxl, hi⟩ := DataW.trod_array ht h
  refine ⟨n, hl, fun i hik => ?_⟩
  exact ⟨xs[i]'(by omega), by rw [hi i hik]; exact List.getElem?_eq_getElem _⟩
end
set_option maxRecDepth 20000 in
theorem opens_w8 {H : Type} {enc : TypeId × Value → H} {W : World} {base : Nat} {spare : Nat → Bool} {held : Bool} {v : Value} {d : DataW H} {ps : List MemPlace} {b2 : Nat} {r : Reach} (hv : Value.okWide Try.prog W r b2 27 v) (h : DataW.Trod enc Try.prog W base spare held 27 v d ps) :
    ∃ a b c : Int, v = .agg #[.int .i8 a, .int .i8 b, .int .i8 c] ∧ isI8 a ∧ isI8 b ∧ isI8 c := by
  obtain ⟨cs, rfl⟩ := agg_of_array Try.underlying27 hv
  obtain ⟨fuel, h⟩ := h
  have h : DataW.trod enc Try.prog W base spare held fuel 27 cs.toList = some (d, ps) := h
  obtain ⟨n, hl, hf⟩ := opens_elems Try.underlying27 h
  rw [show Try.prog.cellsOf 27 = 3 by kernel_rfl] at hl
  have cu : Try.prog.cellsOf 26 = 1 := by kernel_rfl
  rw [← Array.toArray_toList (xs := cs)]
  generalize cs.toList = cs at *
  match cs, hl with
  | [c0, c1, c2], _ =>
    obtain ⟨y0, h0⟩ := hf 0 (by decide)
    obtain ⟨y1, h1⟩ := hf 1 (by decide)
    obtain ⟨y2, h2⟩ := hf 2 (by decide)
    simp [cu] at h0 h1 h2
    obtain ⟨n0, e0, k0⟩ := opens_i8' Try.underlying26 h0
    obtain ⟨n1, e1, k1⟩ := opens_i8' Try.underlying26 h1
    obtain ⟨n2, e2, k2⟩ := opens_i8' Try.underlying26 h2
    injection e0 with e0; injection e1 with e1; injection e2 with e2
    subst e0; subst e1; subst e2
    exact ⟨n0, n1, n2, rfl, k0, k1, k2⟩
/-- A spoil: what, where (twice), by what. -/
structure Spo where
  w : Int
  i : Int
  k : Int
  b : Int
def Spo.ok (s : Spo) : Prop := isByte s.w ∧ isByte s.i ∧ isByte s.k ∧ isI8 s.b
def Spo.cells (s : Spo) : List Value := [.int .u8 s.w, .int .u8 s.i, .int .u8 s.k, .int .i8 s.b]
set_option maxRecDepth 20000 in
theorem opens_spo {H : Type} {enc : TypeId × Value → H} {W : World} {base : Nat} {spare : Nat → Bool} {held : Bool} {fuel : Nat} {cs : List Value} {x : DataW H × List MemPlace} (h : DataW.trod enc Try.prog W base spare held fuel 50 cs = some x) :
    ∃ s : Spo, cs = s.cells ∧ s.ok := by
  obtain ⟨n, hl, hf⟩ := opens_fields Try.underlying50 h
  rw [show Try.prog.cellsOf 50 = 4 by kernel_rfl] at hl
  have cu : Try.prog.cellsOf 5 = 1 := by kernel_rfl
  have cl : Try.prog.cellsOf 26 = 1 := by kernel_rfl
  match cs, hl with
  | [c0, c1, c2, c3], _ =>
    obtain ⟨y0, h0⟩ := hf 0 _ rfl
    obtain ⟨y1, h1⟩ := hf 1 _ rfl
    obtain ⟨y2, h2⟩ := hf 2 _ rfl
    obtain ⟨y3, h3⟩ := hf 3 _ rfl
    simp [cu, cl] at h0 h1 h2 h3
    obtain ⟨n0, e0, k0⟩ := opens_b8 Try.underlying5 h0
    obtain ⟨n1, e1, k1⟩ := opens_b8 Try.underlying5 h1
    obtain ⟨n2, e2, k2⟩ := opens_b8 Try.underlying5 h2
    obtain ⟨n3, e3, k3⟩ := opens_i8' Try.underlying26 h3
    injection e0 with e0; injection e1 with e1; injection e2 with e2; injection e3 with e3
    subst e0; subst e1; subst e2; subst e3
    exact ⟨⟨n0, n1, n2, n3⟩, rfl, k0, k1, k2, k3⟩
set_option maxRecDepth 20000 in
theorem opens_spo2 {H : Type} {enc : TypeId × Value → H} {W : World} {base : Nat} {spare : Nat → Bool} {held : Bool} {v : Value} {d : DataW H} {ps : List MemPlace} {b2 : Nat} {r : Reach} (hv : Value.okWide Try.prog W r b2 51 v) (h : DataW.Trod enc Try.prog W base spare held 51 v d ps) :
    ∃ s t : Spo, v = .agg (s.cells ++ t.cells).toArray ∧ s.ok ∧ t.ok := by
  obtain ⟨cs, rfl⟩ := agg_of_array Try.underlying51 hv
  obtain ⟨fuel, h⟩ := h
  have h : DataW.trod enc Try.prog W base spare held fuel 51 cs.toList = some (d, ps) := h
  obtain ⟨n, hl, hf⟩ := opens_elems Try.underlying51 h
  rw [show Try.prog.cellsOf 51 = 8 by kernel_rfl] at hl
  have cu : Try.prog.cellsOf 50 = 4 := by kernel_rfl
  rw [← Array.toArray_toList (xs := cs)]
  generalize cs.toList = cs at *
  match cs, hl with
  | [c0, c1, c2, c3, c4, c5, c6, c7], _ =>
    obtain ⟨y0, h0⟩ := hf 0 (by decide)
    obtain ⟨y1, h1⟩ := hf 1 (by decide)
    simp [cu] at h0 h1
    obtain ⟨s, e0, k0⟩ := opens_spo h0
    obtain ⟨t, e1, k1⟩ := opens_spo h1
    refine ⟨s, t, ?_, k0, k1⟩
    rw [← e0, ← e1]; rfl
end Go.Proofs.Ythlolpckgffebaa

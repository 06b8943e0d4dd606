/-
  More openers: signed bytes, a graph. Conditions: none.
  Openers of the layer of proofs: lists of numbers, triples of signed bytes, spoils. Conditions: none.
  Openers of the layer of pages: four bytes, two triples of bytes. Conditions: none.
-/
import Derived.Test.YtjdhcblofkkibaaMTop
import Derived.Test.YtjdhcblofkkibaaMDx
namespace Go.Proofs.Ytjdhcblofkkibaa
open Go Go.ChangeShapes Go.WideShapes Go.ChangeAt Go.RowKit

theorem opens_i8 {P : Program} {t : TypeId} (ht : P.underlying t = some (.int .i8)) : Opens P t I8 isI8 := by
  intro H enc W base spare held fuel cs x h
  obtain ⟨n, rfl, _, hw⟩ := DataW.trod_int ht h
  refine ⟨n, rfl, ?_⟩
  simp [Lit.wf] at hw
  have h2 := of_decide_eq_true (p := IntKind.i8.min ≤ n ∧ n ≤ IntKind.i8.max) (by simpa using hw)
  exact h2
theorem i8_range {n : Int} (h : (Lit.int .i8 n).wf = true) : isI8 n := by
  simp [Lit.wf] at h
  have h2 := of_decide_eq_true (p := IntKind.i8.min ≤ n ∧ n ≤ IntKind.i8.max) (by simpa using h)
  exact h2
theorem i64_range {n : Int} (h : (Lit.int .i64 n).wf = true) : inI64 n := by
  simp [Lit.wf] at h
  have h2 := of_decide_eq_true (p := IntKind.i64.min ≤ n ∧ n ≤ IntKind.i64.max) (by simpa using h)
  exact h2
theorem opens_i64 {P : Program} {t : TypeId} (ht : P.underlying t = some (.int .i64)) {H : Type} {enc : TypeId × Value → H} {W : World} {base : Nat} {spare : Nat → Bool} {held : Bool} {fuel : Nat} {cs : List Value} {x : DataW H × List MemPlace}
    (h : DataW.trod enc P W base spare held fuel t cs = some x) : ∃ n, cs = [.int .i64 n] ∧ inI64 n := by
  obtain ⟨n, rfl, _, hw⟩ := DataW.trod_int ht h
  exact ⟨n, rfl, i64_range hw⟩
def lnkIn (x : Lnk) : Prop := inI64 x.f ∧ inI64 x.t ∧ inI64 x.lab ∧ inI64 x.c
set_option maxRecDepth 20000 in
theorem opens_link : Opens Try.prog 58 LinkL lnkIn := by
  intro H enc W base spare held fuel cs x h
  obtain ⟨xs, n, _, _, hl, hxl, hi⟩ := DataW.trod_struct Try.underlying58 h
  rw [show Try.prog.cellsOf 58 = 4 by kernel_rfl] at hl
  match cs, hl with
  | [a, b, c, d], _ =>
    have g : ∀ i, i < 4 → ∃ y, xs[i]? = some y := fun i h => ⟨_, List.getElem?_eq_getElem (by simp at hxl; omega)⟩
    obtain ⟨y0, hy0⟩ := g 0 (by omega)
    obtain ⟨y1, hy1⟩ := g 1 (by omega)
    obtain ⟨y2, hy2⟩ := g 2 (by omega)
    obtain ⟨y3, hy3⟩ := g 3 (by omega)
    have ci : Try.prog.cellsOf 3 = 1 := by kernel_rfl
    have e0 := hi 0 _ rfl
    have e1 := hi 1 _ rfl
    have e2 := hi 2 _ rfl
    have e3 := hi 3 _ rfl
    rw [hy0] at e0
    rw [hy1] at e1
    rw [hy2] at e2
    rw [hy3] at e3
    simp [ci] at e0 e1 e2 e3
    obtain ⟨z0, w0, k0⟩ := opens_i64 Try.underlying3 e0
    obtain ⟨z1, w1, k1⟩ := opens_i64 Try.underlying3 e1
    obtain ⟨z2, w2, k2⟩ := opens_i64 Try.underlying3 e2
    obtain ⟨z3, w3, k3⟩ := opens_i64 Try.underlying3 e3
    injection w0 with w0; injection w1 with w1; injection w2 with w2; injection w3 with w3
    subst w0; subst w1; subst w2; subst w3
    exact ⟨⟨z0, z1, z2, z3⟩, rfl, k0, k1, k2, k3⟩
set_option maxRecDepth 20000 in
theorem opens_graph {H : Type} {enc : TypeId × Value → H} {W : World} {base : Nat} {spare : Nat → Bool} {held : Bool} {v : Value} {d : DataW H} {ps : List MemPlace} {b2 : Nat} {r : Reach} (hv : Value.okWide Try.prog W r b2 29 v) (h : DataW.Trod enc Try.prog W base spare held 29 v d ps) :
    ∃ n vL xs, v = .agg #[.int .i64 n, vL] ∧ inI64 n ∧ SliceRep (snap0 W) LinkL vL xs ∧ ∀ x ∈ xs, lnkIn x := by
  obtain ⟨cs, rfl⟩ := agg_of_struct Try.underlying29 hv
  obtain ⟨fuel, h⟩ := h
  obtain ⟨a, b, n, y0, y1, e, h0, h1⟩ := opens_struct2 Try.underlying29 rfl (by kernel_rfl) rfl (by kernel_rfl) (by kernel_rfl) h
  obtain ⟨n, e0, k0⟩ := opens_i64 Try.underlying3 h0
  obtain ⟨vL, xs, e1, k1, k2⟩ := opens_slice Try.underlying27 (by kernel_rfl) (by decide) opens_link h1
  injection e0 with e0; injection e1 with e1
  subst e0; subst e1
  refine ⟨n, b, xs, ?_, k0, k1, k2⟩
  have : cs.toList = [.int .i64 n, b] := e
  rw [← Array.toArray_toList (xs := cs), this]
end Go.Proofs.Ytjdhcblofkkibaa
namespace Go.Proofs.Ytjdhcblofkkibaa
open Go Go.ChangeShapes Go.WideShapes Go.ChangeAt Go.RowKit

theorem opens_i64L {P : Program} {t : TypeId} (ht : P.underlying t = some (.int .i64)) : Opens P t I64 inI64 := by
  intro H enc W base spare held fuel cs x h
  obtain ⟨n, rfl, hw⟩ := opens_i64 ht h
  exact ⟨n, rfl, hw⟩
section
variable {P : Program} {H : Type} {enc : TypeId × Value → H} {W : World} {base : Nat} {spare : Nat → Bool} {held : Bool} {fuel : Nat} {t : TypeId} {cs : List Value} {x : DataW H × List MemPlace}
theorem opens_i8' (ht : P.underlying t = some (.int .i8)) (h : DataW.trod enc P W base spare held fuel t cs = some x) : ∃ n, cs = [.int .i8 n] ∧ isI8 n := by
  obtain ⟨n, rfl, _, hw⟩ := DataW.trod_int ht h
  exact ⟨n, rfl, i8_range hw⟩
theorem opens_b8 (ht : P.underlying t = some (.int .u8)) (h : DataW.trod enc P W base spare held fuel t cs = some x) : ∃ n, cs = [.int .u8 n] ∧ isByte n := by
  obtain ⟨n, rfl, _, hw⟩ := DataW.trod_int ht h
  exact ⟨n, rfl, u8_range hw⟩
theorem opens_fields {fs : Array Field} (ht : P.underlying t = some (.struct fs)) (h : DataW.trod enc P W base spare held fuel t cs = some x) :
    ∃ n, cs.length = P.cellsOf t ∧ ∀ (i : Nat) (f : Field), fs[i]? = some f → ∃ y, DataW.trod enc P W base spare held n f.type ((cs.drop f.offset).take (P.cellsOf f.type)) = some y := by
  obtain ⟨xs, n, _, _, hl, hxl, hi⟩ := DataW.trod_struct ht h
  refine ⟨n, hl, fun i f hf => ?_⟩
  have hil := (Array.getElem?_eq_some_iff.1 hf).1
  exact ⟨xs[i]'(by omega), by rw [hi i f hf]; exact List.getElem?_eq_getElem _⟩
theorem opens_elems {e : TypeId} {k : Nat} (ht : P.underlying t = some (.array k e)) (h : DataW.trod enc P W base spare held fuel t cs = some x) :
    ∃ n, cs.length = P.cellsOf t ∧ ∀ i, i < k → ∃ y, DataW.trod enc P W base spare held n e ((cs.drop (i * P.cellsOf e)).take (P.cellsOf e)) = some y := by
  obtain ⟨xs, n, _, _, hl, hxl, hi⟩ := DataW.trod_array ht h
  refine ⟨n, hl, fun i hik => ?_⟩
  exact ⟨xs[i]'(by omega), by rw [hi i hik]; exact List.getElem?_eq_getElem _⟩
end
/-- A spoil: what, where (twice), by what. -/
structure Spo where
  w : Int
  i : Int
  k : Int
  b : Int
def Spo.ok (s : Spo) : Prop := isByte s.w ∧ isByte s.i ∧ isByte s.k ∧ isI8 s.b
def Spo.cells (s : Spo) : List Value := [.int .u8 s.w, .int .u8 s.i, .int .u8 s.k, .int .i8 s.b]
end Go.Proofs.Ytjdhcblofkkibaa
namespace Go.Proofs.Ytjdhcblofkkibaa
open Go Go.ChangeShapes Go.WideShapes Go.ChangeAt Go.RowKit

set_option maxRecDepth 20000 in
theorem opens_w4 {H : Type} {enc : TypeId × Value → H} {W : World} {base : Nat} {spare : Nat → Bool} {held : Bool} {v : Value} {d : DataW H} {ps : List MemPlace} {b2 : Nat} {r : Reach} (hv : Value.okWide Try.prog W r b2 25 v) (h : DataW.Trod enc Try.prog W base spare held 25 v d ps) :
    ∃ a b c d : Int, v = .agg #[.int .u8 a, .int .u8 b, .int .u8 c, .int .u8 d] ∧ isByte a ∧ isByte b ∧ isByte c ∧ isByte d := by
  obtain ⟨cs, rfl⟩ := agg_of_array Try.underlying25 hv
  obtain ⟨fuel, h⟩ := h
  have h : DataW.trod enc Try.prog W base spare held fuel 25 cs.toList = some (d, ps) := h
  obtain ⟨n, hl, hf⟩ := opens_elems Try.underlying25 h
  rw [show Try.prog.cellsOf 25 = 4 by kernel_rfl] at hl
  have cu : Try.prog.cellsOf 5 = 1 := by kernel_rfl
  rw [← Array.toArray_toList (xs := cs)]
  generalize cs.toList = cs at *
  match cs, hl with
  | [c0, c1, c2, c3], _ =>
    obtain ⟨y0, h0⟩ := hf 0 (by decide)
    obtain ⟨y1, h1⟩ := hf 1 (by decide)
    obtain ⟨y2, h2⟩ := hf 2 (by decide)
    obtain ⟨y3, h3⟩ := hf 3 (by decide)
    simp [cu] at h0 h1 h2 h3
    obtain ⟨n0, e0, k0⟩ := opens_b8 Try.underlying5 h0
    obtain ⟨n1, e1, k1⟩ := opens_b8 Try.underlying5 h1
    obtain ⟨n2, e2, k2⟩ := opens_b8 Try.underlying5 h2
    obtain ⟨n3, e3, k3⟩ := opens_b8 Try.underlying5 h3
    injection e0 with e0; injection e1 with e1; injection e2 with e2; injection e3 with e3
    subst e0; subst e1; subst e2; subst e3
    exact ⟨n0, n1, n2, n3, rfl, k0, k1, k2, k3⟩
set_option maxRecDepth 20000 in
theorem opens_b3 {H : Type} {enc : TypeId × Value → H} {W : World} {base : Nat} {spare : Nat → Bool} {held : Bool} {fuel : Nat} {cs : List Value} {x : DataW H × List MemPlace} (h : DataW.trod enc Try.prog W base spare held fuel 42 cs = some x) :
    ∃ a b c : Int, cs = [.int .u8 a, .int .u8 b, .int .u8 c] ∧ isByte a ∧ isByte b ∧ isByte c := by
  obtain ⟨n, hl, hf⟩ := opens_elems Try.underlying42 h
  rw [show Try.prog.cellsOf 42 = 3 by kernel_rfl] at hl
  have cu : Try.prog.cellsOf 5 = 1 := by kernel_rfl
  match cs, hl with
  | [c0, c1, c2], _ =>
    obtain ⟨y0, h0⟩ := hf 0 (by decide)
    obtain ⟨y1, h1⟩ := hf 1 (by decide)
    obtain ⟨y2, h2⟩ := hf 2 (by decide)
    simp [cu] at h0 h1 h2
    obtain ⟨n0, e0, k0⟩ := opens_b8 Try.underlying5 h0
    obtain ⟨n1, e1, k1⟩ := opens_b8 Try.underlying5 h1
    obtain ⟨n2, e2, k2⟩ := opens_b8 Try.underlying5 h2
    injection e0 with e0; injection e1 with e1; injection e2 with e2
    subst e0; subst e1; subst e2
    exact ⟨n0, n1, n2, rfl, k0, k1, k2⟩
set_option maxRecDepth 20000 in
theorem opens_w23 {H : Type} {enc : TypeId × Value → H} {W : World} {base : Nat} {spare : Nat → Bool} {held : Bool} {v : Value} {d : DataW H} {ps : List MemPlace} {b2 : Nat} {r : Reach} (hv : Value.okWide Try.prog W r b2 47 v) (h : DataW.Trod enc Try.prog W base spare held 47 v d ps) :
    ∃ a b c e f g : Int, v = .agg #[.int .u8 a, .int .u8 b, .int .u8 c, .int .u8 e, .int .u8 f, .int .u8 g] ∧ (isByte a ∧ isByte b ∧ isByte c) ∧ isByte e ∧ isByte f ∧ isByte g := by
  obtain ⟨cs, rfl⟩ := agg_of_array Try.underlying47 hv
  obtain ⟨fuel, h⟩ := h
  have h : DataW.trod enc Try.prog W base spare held fuel 47 cs.toList = some (d, ps) := h
  obtain ⟨n, hl, hf⟩ := opens_elems Try.underlying47 h
  rw [show Try.prog.cellsOf 47 = 6 by kernel_rfl] at hl
  have cu : Try.prog.cellsOf 42 = 3 := by kernel_rfl
  rw [← Array.toArray_toList (xs := cs)]
  generalize cs.toList = cs at *
  match cs, hl with
  | [c0, c1, c2, c3, c4, c5], _ =>
    obtain ⟨y0, h0⟩ := hf 0 (by decide)
    obtain ⟨y1, h1⟩ := hf 1 (by decide)
    simp [cu] at h0 h1
    obtain ⟨a, b, c, e0, k0⟩ := opens_b3 h0
    obtain ⟨e, f, g, e1, k1⟩ := opens_b3 h1
    injection e0 with e00 e0; injection e0 with e01 e0; injection e0 with e02 e0
    injection e1 with e10 e1; injection e1 with e11 e1; injection e1 with e12 e1
    subst e00; subst e01; subst e02; subst e10; subst e11; subst e12
    exact ⟨a, b, c, e, f, g, rfl, k0, k1⟩
end Go.Proofs.Ytjdhcblofkkibaa

/-
  More openers: signed bytes, a graph. Conditions: none.
-/
import Derived.Test.YthlolpckgffebaaTop
import Derived.Test.YthlolpckgffebaaDx
namespace Go.Proofs.Ythlolpckgffebaa
open Go Go.ChangeShapes Go.WideShapes Go.ChangeAt Go.RowKit

theorem opens_i8 {P : Program} {t : TypeId} (ht : P.underlying t = some (.int .i8)) : Opens P t I8 isI8 := by
  intro H enc W base spare held fuel cs x h
  obtain ⟨n, rfl, _, hw⟩ := DataW.trod_int ht h
  refine ⟨n, rfl, ?_⟩
  simp [Lit.wf] at hw
  have h2 := of_decide_eq_true (p := IntKind.i8.min ≤ n ∧ n ≤ IntKind.i8.max) (by simpa using hw)
  exact h2
theorem i8_range {n : Int} (h : (Lit.int .i8 n).wf = true) : isI8 n := by
  simp [Lit.wf] at h
  have h2 := of_decide_eq_true (p := IntKind.i8.min ≤ n ∧ n ≤ IntKind.i8.max) (by simpa using h)
  exact h2
theorem i64_range {n : Int} (h : (Lit.int .i64 n).wf = true) : inI64 n := by
  simp [Lit.wf] at h
  have h2 := of_decide_eq_true (p := IntKind.i64.min ≤ n ∧ n ≤ IntKind.i64.max) (by simpa using h)
  exact h2
theorem opens_i64 {P : Program} {t : TypeId} (ht : P.underlying t = some (.int .i64)) {H : Type} {enc : TypeId × Value → H} {W : World} {base : Nat} {spare : Nat → Bool} {held : Bool} {fuel : Nat} {cs : List Value} {x : DataW H × List MemPlace}
    (h : DataW.trod enc P W base spare held fuel t cs = some x) : ∃ n, cs = [.int .i64 n] ∧ inI64 n := by
  obtain ⟨n, rfl, _, hw⟩ := DataW.trod_int ht h
  exact ⟨n, rfl, i64_range hw⟩
def lnkIn (x : Lnk) : Prop := inI64 x.f ∧ inI64 x.t ∧ inI64 x.lab ∧ inI64 x.c
set_option maxRecDepth 20000 in
theorem opens_link : Opens Try.prog 34 LinkL lnkIn := by
  intro H enc W base spare held fuel cs x h
  obtain ⟨xs, n, _, _, hl, hxl, hi⟩ := DataW.trod_struct Try.underlying34 h
  rw [show Try.prog.cellsOf 34 = 4 by kernel_rfl] at hl
  match cs, hl with
  | [a, b, c, d], _ =>
    have g : ∀ i, i < 4 → ∃ y, xs[i]? = some y := fun i h => ⟨_, List.getElem?_eq_getElem (by simp at hxl; omega)⟩
    obtain ⟨y0, hy0⟩ := g 0 (by omega)
    obtain ⟨y1, hy1⟩ := g 1 (by omega)
    obtain ⟨y2, hy2⟩ := g 2 (by omega)
    obtain ⟨y3, hy3⟩ := g 3 (by omega)
    have ci : Try.prog.cellsOf 3 = 1 := by kernel_rfl
    have e0 := hi 0 _ rfl
    have e1 := hi 1 _ rfl
    have e2 := hi 2 _ rfl
    have e3 := hi 3 _ rfl
    rw [hy0] at e0
    rw [hy1] at e1
    rw [hy2] at e2
    rw [hy3] at e3
    simp [ci] at e0 e1 e2 e3
    obtain ⟨z0, w0, k0⟩ := opens_i64 Try.underlying3 e0
    obtain ⟨z1, w1, k1⟩ := opens_i64 Try.underlying3 e1
    obtain ⟨z2, w2, k2⟩ := opens_i64 Try.underlying3 e2
    obtain ⟨z3, w3, k3⟩ := opens_i64 Try.underlying3 e3
    injection w0 with w0; injection w1 with w1; injection w2 with w2; injection w3 with w3
    subst w0; subst w1; subst w2; subst w3
    exact ⟨⟨z0, z1, z2, z3⟩, rfl, k0, k1, k2, k3⟩
set_option maxRecDepth 20000 in
theorem opens_graph {H : Type} {enc : TypeId × Value → H} {W : World} {base : Nat} {spare : Nat → Bool} {held : Bool} {v : Value} {d : DataW H} {ps : List MemPlace} {b2 : Nat} {r : Reach} (hv : Value.okWide Try.prog W r b2 31 v) (h : DataW.Trod enc Try.prog W base spare held 31 v d ps) :
    ∃ n vL xs, v = .agg #[.int .i64 n, vL] ∧ inI64 n ∧ SliceRep (snap0 W) LinkL vL xs ∧ ∀ x ∈ xs, lnkIn x := by
  obtain ⟨cs, rfl⟩ := agg_of_struct Try.underlying31 hv
  obtain ⟨fuel, h⟩ := h
  obtain ⟨a, b, n, y0, y1, e, h0, h1⟩ := opens_struct2 Try.underlying31 rfl (by kernel_rfl) rfl (by kernel_rfl) (by kernel_rfl) h
  obtain ⟨n, e0, k0⟩ := opens_i64 Try.underlying3 h0
  obtain ⟨vL, xs, e1, k1, k2⟩ := opens_slice Try.underlying29 (by kernel_rfl) (by decide) opens_link h1
  injection e0 with e0; injection e1 with e1
  subst e0; subst e1
  refine ⟨n, b, xs, ?_, k0, k1, k2⟩
  have : cs.toList = [.int .i64 n, b] := e
  rw [← Array.toArray_toList (xs := cs), this]
end Go.Proofs.Ythlolpckgffebaa

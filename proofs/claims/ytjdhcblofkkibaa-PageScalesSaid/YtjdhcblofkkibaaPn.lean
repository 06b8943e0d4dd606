/-
  The law ProofMatchesReference. Conditions: the arguments' form.
-/
import Derived.Test.YtjdhcblofkkibaaMPu
import Derived.Test.YtjdhcblofkkibaaMTop
namespace Go.Proofs.Ytjdhcblofkkibaa
open Go Go.RowKit

theorem encL_cells : ∀ {gl : List Lnk} {k j : Nat} {x : Lnk} {u : Value}, gl[k]? = some x → [Value.int .i64 x.f, .int .i64 x.t, .int .i64 x.lab, .int .i64 x.c][j]? = some u → (encL gl)[k * 4 + j]? = some u
  | [], k, j, x, u, h, _ => by simp at h
  | y :: r, 0, j, x, u, h, hu => by
    simp at h; subst h
    have hj : j < 4 := (List.getElem?_eq_some_iff.1 hu).1
    rw [encL, List.flatMap_cons, Nat.zero_mul, Nat.zero_add, List.getElem?_append_left (by simpa using hj)]
    exact hu
  | y :: r, k + 1, j, x, u, h, hu => by
    rw [encL, List.flatMap_cons, List.getElem?_append_right (by simp; omega)]
    have e : (k + 1) * 4 + j - [Value.int .i64 y.f, .int .i64 y.t, .int .i64 y.lab, .int .i64 y.c].length = k * 4 + j := by simp; omega
    rw [e]
    exact encL_cells (gl := r) (by simpa using h) hu
theorem encL_len : ∀ r : List Lnk, (encL r).length = r.length * 4
  | [] => rfl
  | x :: r => by have := encL_len r; simp only [encL, List.flatMap_cons, List.length_append, List.length_cons, List.length_nil] at *; omega
theorem encL_put : ∀ {gl : List Lnk} {k j : Nat} {x x' : Lnk} {u : Value}, gl[k]? = some x → [Value.int .i64 x'.f, .int .i64 x'.t, .int .i64 x'.lab, .int .i64 x'.c] = [Value.int .i64 x.f, .int .i64 x.t, .int .i64 x.lab, .int .i64 x.c].set j u → j < 4 → setAt (encL gl) (k * 4 + j) u = some (encL (gl.set k x'))
  | [], k, j, x, x', u, h, _, _ => by simp at h
  | y :: r, 0, j, x, x', u, h, hu, hj => by
    simp at h; subst h
    rw [setAt_set _ _ _ (by simp [encL]; omega)]
    simp only [encL, List.flatMap_cons, List.set_cons_zero, Nat.zero_mul, Nat.zero_add]
    rw [hu, List.set_append_left _ _ (by simpa using hj)]
  | y :: r, k + 1, j, x, x', u, h, hu, hj => by
    have ih := encL_put (gl := r) (k := k) (x := x) (by simpa using h) hu hj
    have hk := (List.getElem?_eq_some_iff.1 h).1
    have hlen : (encL r).length = r.length * 4 := encL_len r
    have hb : k * 4 + j < (encL r).length := by rw [hlen]; simp at hk; omega
    rw [setAt_set _ _ _ hb] at ih
    simp only [Option.some.injEq] at ih
    rw [setAt_set _ _ _ (by simp only [encL, List.flatMap_cons] at *; simp; simp at hb; omega)]
    simp only [encL, List.flatMap_cons, List.set_cons_succ] at ih ⊢
    rw [List.set_append_right _ _ (by simp; omega)]
    have e : (k + 1) * 4 + j - [Value.int .i64 y.f, .int .i64 y.t, .int .i64 y.lab, .int .i64 y.c].length = k * 4 + j := by simp; omega
    rw [e, ih]

def GraphL : Lay (Int × List Lnk) where
  sz := 2
  rep H x c := ∃ v, c = [.int .i64 x.1, v] ∧ SliceRep H LinkL v x.2
  mono := by rintro H H' x c hle ⟨v, h1, h2⟩; exact ⟨v, h1, h2.mono hle⟩
  len := by rintro H x c ⟨v, rfl, _⟩; rfl
  one := by
    rintro H x c ⟨v, rfl, ⟨⟨A, cap, rfl, _⟩, _⟩⟩ u hu
    simp at hu
    rcases hu with rfl | rfl <;> rfl
theorem SliceRep.graph {H : Snap} {v : Value} {xs : List (Int × List Lnk)} (h : SliceRep H GraphL v xs) {k : Nat} {x : Int × List Lnk} (hx : xs[k]? = some x) :
    ∃ vl, SliceRep H LinkL vl x.2 ∧ ∀ j u, [.int .i64 x.1, vl][j]? = some u → H.cell (vat v (k * 2 + j)) = some u := by
  obtain ⟨c, ⟨vl, rfl, h1⟩, h2⟩ := h.at hx
  exact ⟨vl, h1, h2⟩

theorem right_pot (N : Int) (gl : List Lnk) : decide (rightP N gl (potL N gl)) = decide (potE N gl = 0) := by
  rw [decide_eq_decide]
  unfold rightP potL potE
  by_cases hg : validG N gl
  · simp [hg]
  · simp [hg]
def oddL (gl : List Lnk) (w0 w1 w2 : Int) : List Lnk :=
  match gl[(w0 % 256 % (gl.length : Int)).toNat]? with
  | some x => gl.set (w0 % 256 % (gl.length : Int)).toNat ⟨x.f, x.t + w1, x.lab, x.c + w2⟩
  | none => gl

end Go.Proofs.Ytjdhcblofkkibaa

/-
  The plain side of the layer of graphs: links, graphs, candidates, the order of lists, the cost of a way. Conditions: none.
-/
import Derived.Test.YthlolpckgffebaaAs
namespace Go.Proofs.Ythlolpckgffebaa
open Go Go.RowKit

structure Lnk where
  f : Int
  t : Int
  lab : Int
  c : Int
  deriving DecidableEq
structure Cand where
  links : List Int
  cost : Int
  deriving DecidableEq

abbrev LinkL : Lay Lnk := Lay.flat 4 (fun x => [.int .i64 x.f, .int .i64 x.t, .int .i64 x.lab, .int .i64 x.c]) (fun _ => rfl) (by simp [one1])
def CandL : Lay Cand where
  sz := 2
  rep H x c := ∃ v, c = [v, .int .i64 x.cost] ∧ SliceRep H I64 v x.links
  mono := by rintro H H' x c hle ⟨v, h1, h2⟩; exact ⟨v, h1, h2.mono hle⟩
  len := by rintro H x c ⟨v, rfl, _⟩; rfl
  one := by
    rintro H x c ⟨v, rfl, ⟨⟨A, cap, rfl, _⟩, _⟩⟩ u hu
    simp at hu
    rcases hu with rfl | rfl <;> rfl

theorem SliceRep.cand {H : Snap} {v : Value} {xs : List Cand} (h : SliceRep H CandL v xs) {k : Nat} {x : Cand} (hx : xs[k]? = some x) :
    ∃ vl, SliceRep H I64 vl x.links ∧ H.cell (vat v (k * 2 + 0)) = some vl ∧ H.cell (vat v (k * 2 + 1)) = some (.int .i64 x.cost) ∧ (∀ j u, [vl, .int .i64 x.cost][j]? = some u → H.cell (vat v (k * 2 + j)) = some u) := by
  obtain ⟨c, ⟨vl, rfl, h1⟩, h2⟩ := h.at hx
  exact ⟨vl, h1, h2 0 vl rfl, h2 1 _ rfl, h2⟩

def lexCmp : List Int → List Int → Int
  | [], [] => 0
  | [], _ :: _ => -1
  | _ :: _, [] => 1
  | x :: xs, y :: ys => if x < y then -1 else if y < x then 1 else lexCmp xs ys

theorem lexCmp_step {xs ys : List Int} {k : Nat} {x y : Int} (hx : xs[k]? = some x) (hy : ys[k]? = some y) : lexCmp (xs.drop k) (ys.drop k) = if x < y then -1 else if y < x then 1 else lexCmp (xs.drop (k + 1)) (ys.drop (k + 1)) := by
  rw [drop_cons_of hx, drop_cons_of hy]; rfl
theorem lexCmp_range (xs ys : List Int) : -1 ≤ lexCmp xs ys ∧ lexCmp xs ys ≤ 1 := by
  induction xs generalizing ys with
  | nil => cases ys <;> simp [lexCmp]
  | cons x xs ih =>
    cases ys with
    | nil => simp [lexCmp]
    | cons y ys =>
      simp only [lexCmp]
      split
      · omega
      · split
        · omega
        · exact ih ys
theorem lexCmp_end {xs ys : List Int} {k : Nat} (h : xs.length ≤ k ∨ ys.length ≤ k) (hx : k ≤ xs.length) (hy : k ≤ ys.length) : (lexCmp (xs.drop k) (ys.drop k) < 0 ↔ xs.length < ys.length) ∧ (lexCmp (xs.drop k) (ys.drop k) = if xs.length < ys.length then -1 else if ys.length < xs.length then 1 else 0) := by
  cases e : xs.drop k with
  | nil =>
    have h1 : xs.length ≤ k := List.drop_eq_nil_iff.1 e
    cases e2 : ys.drop k with
    | nil => have h2 : ys.length ≤ k := List.drop_eq_nil_iff.1 e2; simp [lexCmp]; omega
    | cons y r =>
      have h2 : ¬ ys.length ≤ k := fun h => by rw [List.drop_eq_nil_iff.2 h] at e2; cases e2
      have : xs.length < ys.length := by omega
      simp [lexCmp, this]
  | cons x r =>
    have h1 : ¬ xs.length ≤ k := fun h => by rw [List.drop_eq_nil_iff.2 h] at e; cases e
    have h2 : ys.length ≤ k := by omega
    rw [List.drop_eq_nil_iff.2 h2]
    have h3 : ¬ xs.length < ys.length := by omega
    have h4 : ys.length < xs.length := by omega
    simp [lexCmp, h3, h4]

/-- The cost of a way: node and sum so far. -/
def costGo (gl : List Lnk) : Int → Int → List Int → Option (Int × Int)
  | at_, sum, [] => some (at_, sum)
  | at_, sum, i :: r => if i < 0 ∨ (gl.length : Int) ≤ i then none else
    match gl[i.toNat]? with
    | none => none
    | some l => if l.f ≠ at_ then none else costGo gl l.t (sum + l.c) r
def costOf (N : Int) (gl : List Lnk) (way : List Int) : Option Int :=
  match costGo gl 0 0 way with
  | some (at_, sum) => if at_ = N - 1 then some sum else none
  | none => none

end Go.Proofs.Ythlolpckgffebaa

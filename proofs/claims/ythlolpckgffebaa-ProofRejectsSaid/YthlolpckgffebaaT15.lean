/-
  The graphs that the laws make are valid and small; a list is the beginning of a longer one. Conditions: the raw data hold bytes.
-/
import Derived.Test.YthlolpckgffebaaT14
import Derived.Test.YthlolpckgffebaaDx
namespace Go.Proofs.Ythlolpckgffebaa
open Go Go.RowKit

theorem madeN_range (n : Int) : 1 ≤ madeN n ∧ madeN n ≤ 7 := by unfold madeN; omega
theorem linksOf_mem {N : Int} {xs : List (Int × Int × Int)} (hN : 1 < N) (hx : ∀ x ∈ xs, triOk x) : ∀ y ∈ linksOf N xs, 0 ≤ y.f ∧ y.f < y.t ∧ y.t < N ∧ 0 ≤ y.lab ∧ y.lab < xs.length ∧ 0 ≤ y.c ∧ y.c < 5 := by
  intro y hy
  unfold linksOf at hy
  obtain ⟨⟨x, i⟩, hp, rfl⟩ := List.mem_map.1 hy
  obtain ⟨j, hj⟩ := List.getElem?_of_mem hp
  rw [List.getElem?_zipIdx] at hj
  simp at hj
  obtain ⟨a1, a2, a3, ha, h1, h2⟩ := hj
  have hxo := hx x (by rw [← h1]; exact List.mem_of_getElem? ha)
  have hjl := (List.getElem?_eq_some_iff.1 ha).1
  simp only [triOk, isByte] at hxo
  have hm1 : 0 ≤ x.1 % (N - 1) ∧ x.1 % (N - 1) < N - 1 := ⟨Int.emod_nonneg _ (by omega), Int.emod_lt_of_pos _ (by omega)⟩
  have hm2 : 0 ≤ x.2.1 % (N - 1 - x.1 % (N - 1)) ∧ x.2.1 % (N - 1 - x.1 % (N - 1)) < N - 1 - x.1 % (N - 1) := ⟨Int.emod_nonneg _ (by omega), Int.emod_lt_of_pos _ (by omega)⟩
  simp only [mkLink]
  omega
theorem madeL_length (n : Int) (xs : List (Int × Int × Int)) : (madeL n xs).length ≤ 14 := by
  unfold madeL; split
  · simp [linksOf]; omega
  · simp
theorem made_valid (n : Int) {xs : List (Int × Int × Int)} (hx : ∀ x ∈ xs, triOk x) : validG (madeN n) (madeL n xs) := by
  have h1 := madeN_range n
  have h2 := madeL_length n xs
  refine ⟨h1.1, by omega, by omega, fun y hy => ?_⟩
  unfold madeL at hy
  split at hy
  · rename_i hN
    have := linksOf_mem hN (fun x hxx => hx x (List.mem_of_mem_take hxx)) y hy
    unfold okL
    have h3 : (xs.take 14).length ≤ 14 := by simp; omega
    omega
  · simp at hy
theorem treeT_pow (gl : List Lnk) : ∀ (F : Nat) (n : Int), treeT gl F n ≤ (gl.length + 1) ^ F
  | 0, n => by simp [treeT]
  | F + 1, n => by
    have h1 := sum_le_mul (fun i => treeT gl F (lnk gl i).t) ((gl.length + 1) ^ F) (outOf gl n) fun i _ => treeT_pow gl F _
    have h2 := Nat.mul_le_mul_right ((gl.length + 1) ^ F) (outOf_length gl n)
    have h3 : 1 ≤ (gl.length + 1) ^ F := Nat.pos_of_ne_zero (by simp)
    rw [treeT, Nat.pow_succ, Nat.mul_comm, Nat.succ_mul]
    omega
theorem made_tree (n : Int) (xs : List (Int × Int × Int)) : treeT (madeL n xs) (madeN n).toNat 0 ≤ 2000000000000 := by
  have h1 := madeN_range n
  refine Nat.le_trans (treeT_pow _ _ _) ?_
  have h2 := madeL_length n xs
  refine Nat.le_trans (Nat.pow_le_pow_left (show (madeL n xs).length + 1 ≤ 15 by omega) _) ?_
  refine Nat.le_trans (Nat.pow_le_pow_right (by omega) (show (madeN n).toNat ≤ 7 by omega)) ?_
  decide

theorem listR_ok {N : Int} {gl : List Lnk} {k : Int} (hg : validG N gl) (h0 : 0 ≤ k) (h1 : k ≤ 50) : listE N gl k = 0 ∧ listR N gl k = (ordered (waysG gl N N.toNat 0)).take k.toNat := by
  unfold listE listR
  rw [if_neg (fun h => h hg), if_neg (by omega), if_pos ⟨hg, h0, h1⟩]
  exact ⟨rfl, rfl⟩
end Go.Proofs.Ythlolpckgffebaa

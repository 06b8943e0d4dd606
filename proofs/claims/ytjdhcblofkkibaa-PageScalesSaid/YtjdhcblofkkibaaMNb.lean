/-
  The ways of the list are exactly the lists of links that lead to the last node, with their costs, each once. Conditions: the graph is valid.
  How many ways there are: the tables of both sides hold the numbers of ways; a graph that a law makes has few of them. Conditions: the graph is valid.
-/
import Derived.Test.YtjdhcblofkkibaaMTop
namespace Go.Proofs.Ytjdhcblofkkibaa

theorem costGo_cons {gl : List Lnk} {n s : Int} {i : Nat} {x : Lnk} {r : List Int} (hx : gl[i]? = some x) (hf : x.f = n) : costGo gl n s ((i : Int) :: r) = costGo gl x.t (s + x.c) r := by
  have hl := (List.getElem?_eq_some_iff.1 hx).1
  have h1 : ¬ ((i : Int) < 0 ∨ (gl.length : Int) ≤ (i : Int)) := by omega
  simp only [costGo]
  rw [if_neg h1, Int.toNat_natCast, hx]
  simp [hf]
theorem ways_cost {gl : List Lnk} {N : Int} : ∀ (F : Nat) (n s : Int), ∀ w ∈ waysG gl N F n, costGo gl n s w.links = some (N - 1, s + w.cost)
  | 0, n, s, w, hw => by simp [waysG] at hw
  | F + 1, n, s, w, hw => by
    rw [waysG_out] at hw
    split at hw
    · rename_i hn
      simp at hw; subst hw
      simp [costGo, hn]
    · obtain ⟨i, hi, hw⟩ := List.mem_flatMap.1 hw
      obtain ⟨u, hu, rfl⟩ := List.mem_map.1 hw
      obtain ⟨j, x, rfl, hx, hf, hl⟩ := outOf_mem hi
      rw [hl] at hu
      simp only [ext, hl]
      rw [costGo_cons hx hf, ways_cost F x.t (s + x.c) u hu]
      congr 2
      omega
theorem ways_all {gl : List Lnk} {N : Int} (hg : ∀ x ∈ gl, okL N x) : ∀ (way : List Int) (F : Nat) (n s e : Int), n < N → N ≤ n + F → costGo gl n s way = some (N - 1, e) → (⟨way, e - s⟩ : Cand) ∈ waysG gl N F n
  | [], 0, n, s, e, h0, h1, h => by omega
  | _ :: _, 0, n, s, e, h0, h1, h => by omega
  | [], F + 1, n, s, e, h0, h1, h => by
    simp only [costGo, Option.some.injEq, Prod.mk.injEq] at h
    rw [waysG_out, if_pos h.1]
    simp; omega
  | i :: r, F + 1, n, s, e, h0, h1, h => by
    simp only [costGo] at h
    split at h
    · cases h
    · rename_i hi
      obtain ⟨j, rfl⟩ : ∃ j : Nat, i = (j : Int) := ⟨i.toNat, by omega⟩
      rw [Int.toNat_natCast] at h
      split at h
      · cases h
      · rename_i x hx
        split at h
        · cases h
        · rename_i hf
          have hf : x.f = n := by omega
          have hxo := hg x (List.mem_of_getElem? hx)
          unfold okL at hxo
          have ih := ways_all hg r F x.t (s + x.c) e (by omega) (by omega) h
          rw [waysG_out, if_neg (by omega)]
          refine List.mem_flatMap.2 ⟨(j : Int), ?_, List.mem_map.2 ⟨_, by rw [lnk_at hx]; exact ih, ?_⟩⟩
          · exact (outFrom_mem gl 0 _).2 ⟨j, x, hx, hf, by simp⟩
          · simp only [ext, lnk_at hx]
            congr 1
            omega
theorem outFrom_sorted (n : Int) : ∀ (gl : List Lnk) (i : Nat), (outFrom i n gl).Pairwise (· < ·)
  | [], _ => List.Pairwise.nil
  | x :: r, i => by
    unfold outFrom
    split
    · refine List.pairwise_cons.2 ⟨fun j hj => ?_, outFrom_sorted n r (i + 1)⟩
      obtain ⟨k, y, _, _, e⟩ := (outFrom_mem r (i + 1) j).1 hj
      omega
    · exact outFrom_sorted n r (i + 1)
theorem waysG_nodup {gl : List Lnk} {N : Int} : ∀ (F : Nat) (n : Int), (waysG gl N F n).Pairwise (fun a b => a.links ≠ b.links)
  | 0, n => List.Pairwise.nil
  | F + 1, n => by
    rw [waysG_out]
    split
    · exact List.pairwise_singleton ..
    · refine List.pairwise_flatMap.2 ⟨fun i _ => ?_, ?_⟩
      · refine List.pairwise_map.2 ((waysG_nodup F _).imp fun h e => h ?_)
        simp only [ext] at e
        injection e
      · refine (outFrom_sorted n gl 0).imp fun {a b} hlt x hx y hy e => ?_
        obtain ⟨u, _, rfl⟩ := List.mem_map.1 hx
        obtain ⟨v, _, rfl⟩ := List.mem_map.1 hy
        simp only [ext] at e
        injection e with e1 _
        omega
theorem ordered_strict (gl : List Lnk) (N : Int) (F : Nat) (n : Int) : (ordered (waysG gl N F n)).Pairwise candLt := by
  have h1 := ordered_srt (waysG gl N F n)
  have h2 : (ordered (waysG gl N F n)).Pairwise (fun a b => a.links ≠ b.links) := (ordered_perm _).symm.pairwise (waysG_nodup F n) (fun h e => h e.symm)
  refine (h1.and h2).imp fun {a b} ⟨h, hne⟩ => ?_
  by_cases hc : candLt a b
  · exact hc
  · exact absurd (congrArg Cand.links (candLt_tri hc h)) hne
theorem costGo_snoc {gl : List Lnk} {i : Nat} {x : Lnk} (hx : gl[i]? = some x) : ∀ (out : List Int) (n s : Int) (m e : Int), costGo gl n s out = some (m, e) → x.f = m → costGo gl n s (out ++ [(i : Int)]) = some (x.t, e + x.c)
  | [], n, s, m, e, h, hf => by
    simp only [costGo, Option.some.injEq, Prod.mk.injEq] at h
    rw [List.nil_append, costGo_cons hx (by omega), costGo, h.2]
  | k :: r, n, s, m, e, h, hf => by
    simp only [costGo] at h
    rw [List.cons_append]
    simp only [costGo]
    split at h
    · cases h
    · rename_i hk
      rw [if_neg hk]
      split at h
      · cases h
      · rename_i y hy
        split at h
        · cases h
        · rename_i hyf
          rw [if_neg hyf]
          exact costGo_snoc hx r _ _ m e h hf
theorem choose_cost {gl : List Lnk} {N : Int} {l : List Int} : ∀ (fu i : Nat) (at_ : Int) (out : List Int) (e : Int) (r : List Int × Int), costGo gl 0 0 out = some (at_, e) → chooseGo N gl l fu i at_ out = some r → ∃ e', costGo gl 0 0 r.1 = some (r.2, e')
  | 0, i, at_, out, e, r, h, hc => by
    simp only [chooseGo, Option.some.injEq] at hc
    subst hc; exact ⟨e, h⟩
  | fu + 1, i, at_, out, e, r, h, hc => by
    simp only [chooseGo] at hc
    split at hc
    · injection hc with hc; subst hc; exact ⟨e, h⟩
    · split at hc
      · cases hc
      · rename_i hz
        have hz : 0 < (outOf gl at_).length := by omega
        obtain ⟨m, hm⟩ : ∃ m : Nat, tv l (i : Int) % ((outOf gl at_).length : Int) = (m : Int) := ⟨(tv l (i : Int) % ((outOf gl at_).length : Int)).toNat, by
          have := Int.emod_nonneg (tv l (i : Int)) (b := ((outOf gl at_).length : Int)) (by omega)
          omega⟩
        have hml : m < (outOf gl at_).length := by
          have := Int.emod_lt_of_pos (tv l (i : Int)) (b := ((outOf gl at_).length : Int)) (by omega)
          omega
        obtain ⟨ki, x, hki, hx, hxf⟩ := outOf_at (tv_at hml)
        rw [hm, hki, lnk_at hx] at hc
        exact choose_cost fu (i + 1) x.t _ _ r (costGo_snoc hx out 0 0 at_ e h hxf) hc
theorem chosen_cost {gl : List Lnk} {N : Int} {l out : List Int} (h : chosenOf N gl l = (out, true)) : ∃ e, costGo gl 0 0 out = some (N - 1, e) := by
  unfold chosenOf at h
  split at h
  · cases h
  · rename_i r1 r2 hc
    injection h with h1 h2
    subst h1
    have h2 := of_decide_eq_true h2
    subst h2
    exact choose_cost 10 0 0 [] 0 _ rfl hc
end Go.Proofs.Ytjdhcblofkkibaa
namespace Go.Proofs.Ytjdhcblofkkibaa

def nWays (gl : List Lnk) (N : Int) (F : Nat) (n : Int) : Nat := (waysG gl N F n).length
theorem nWays_out (gl : List Lnk) (N : Int) (F : Nat) (n : Int) : nWays gl N (F + 1) n = if n = N - 1 then 1 else ((outOf gl n).map fun i => nWays gl N F (lnk gl i).t).sum := by
  unfold nWays
  rw [waysG_out]
  split
  · rfl
  · rw [List.length_flatMap]
    congr 1
    exact List.map_congr_left fun i _ => by simp
theorem nWays_step {gl : List Lnk} {N : Int} (hg : ∀ x ∈ gl, okL N x) {F : Nat} {n : Int} (h : n < N) (hF : N ≤ n + F) (hn : n ≠ N - 1) : nWays gl N F n = ((outOf gl n).map fun i => nWays gl N F (lnk gl i).t).sum := by
  unfold nWays
  rw [waysG_step hg h hF hn, List.length_flatMap]
  congr 1
  exact List.map_congr_left fun i _ => by simp
def capN (n : Nat) : Int := if (1000000000 : Int) < n then 1000000000 else n
theorem foldN_cap {α : Type} (f : α → Nat) : ∀ (l : List α) (A : Nat), l.foldl (fun a i => if 1000000000 < a + capN (f i) then 1000000000 else a + capN (f i)) (capN A) = capN (A + (l.map f).sum)
  | [], A => by simp
  | x :: l, A => by
    have e : (if (1000000000 : Int) < capN A + capN (f x) then (1000000000 : Int) else capN A + capN (f x)) = capN (A + f x) := by
      unfold capN
      split <;> split <;> split <;> first | omega | (split <;> omega)
    rw [List.foldl_cons, e, foldN_cap f l, List.map_cons, List.sum_cons, Nat.add_assoc]
theorem num_ways {gl : List Lnk} {N : Nat} {t : List Int} (hg : ∀ x ∈ gl, okL (N : Int) x) (h : IsNum N gl 0 t) : ∀ (F : Nat) (n : Nat), n < N → N ≤ n + F → tv t n = capN (nWays gl N F n)
  | 0, n, h0, h1 => by omega
  | F + 1, n, h0, h1 => by
    rw [nWays_out]
    by_cases hn : (n : Int) = (N : Int) - 1
    · rw [if_pos hn, hn, h.2.2.2.1]; rfl
    · rw [if_neg hn, h.2.2.1 n (Nat.zero_le _) (by omega), numT, ← outOf_fold (stepN t)]
      have := foldN_cap (fun i => nWays gl N F (lnk gl i).t) (outOf gl n) 0
      rw [Nat.zero_add] at this
      rw [← this]
      refine foldl_congr _ _ fun a i hi => ?_
      obtain ⟨j, x, _, hx, hf, hl⟩ := outOf_mem hi
      have hxo := hg x (List.mem_of_getElem? hx)
      unfold okL at hxo
      obtain ⟨m, hm⟩ : ∃ m : Nat, x.t = (m : Int) := ⟨x.t.toNat, by omega⟩
      unfold stepN
      rw [hl, hm, num_ways hg h F m (by omega) (by omega)]

theorem cube_le : ∀ d : Nat, d ≤ 14 → d ^ 3 ≤ 3 ^ d := by decide
theorem bound_of : ∀ (L : List Nat) (M : Nat), (∀ x ∈ L, x ^ 3 ≤ M) → ∃ m, m ^ 3 ≤ M ∧ ∀ x ∈ L, x ≤ m
  | [], M, _ => ⟨0, by simp, by simp⟩
  | x :: L, M, h => by
    obtain ⟨m, h1, h2⟩ := bound_of L M fun y hy => h y (List.mem_cons_of_mem _ hy)
    by_cases hx : x ≤ m
    · refine ⟨m, h1, fun y hy => ?_⟩
      rcases List.mem_cons.1 hy with rfl | hy
      · exact hx
      · exact h2 y hy
    · refine ⟨x, h x (List.mem_cons_self ..), fun y hy => ?_⟩
      rcases List.mem_cons.1 hy with rfl | hy
      · exact Nat.le_refl _
      · exact Nat.le_trans (h2 y hy) (by omega)
theorem filter_len_le {α : Type} {p q : α → Bool} : ∀ (l : List α), (∀ x ∈ l, p x = true → q x = true) → (l.filter p).length ≤ (l.filter q).length
  | [], _ => Nat.le_refl _
  | x :: l, h => by
    have ih := filter_len_le l fun y hy => h y (List.mem_cons_of_mem _ hy)
    have hx := h x (List.mem_cons_self ..)
    rw [List.filter_cons, List.filter_cons]
    by_cases hp : p x = true
    · rw [if_pos hp, if_pos (hx hp)]; simpa using ih
    · rw [if_neg hp]
      split
      · simp; omega
      · exact ih
theorem filter_split_len (n : Int) : ∀ (gl : List Lnk), (gl.filter (fun x => decide (n + 1 ≤ x.f))).length + (gl.filter (fun x => decide (x.f = n))).length = (gl.filter (fun x => decide (n ≤ x.f))).length
  | [] => rfl
  | x :: l => by
    have ih := filter_split_len n l
    simp only [List.filter_cons, decide_eq_true_eq]
    by_cases h1 : n + 1 ≤ x.f
    · rw [if_pos h1, if_neg (by omega), if_pos (by omega)]; simp; omega
    · by_cases h2 : x.f = n
      · rw [if_neg h1, if_pos h2, if_pos (by omega)]; simp; omega
      · rw [if_neg h1, if_neg h2, if_neg (by omega)]; exact ih
theorem outOf_len_filter (gl : List Lnk) (n : Int) : (outOf gl n).length = (gl.filter (fun x => decide (x.f = n))).length := by
  rw [← outOf_map]; simp
theorem ways_cube {gl : List Lnk} {N : Int} (hg : ∀ x ∈ gl, okL N x) (hl : gl.length ≤ 14) : ∀ (F : Nat) (n : Int), nWays gl N F n ^ 3 ≤ 3 ^ (gl.filter (fun x => decide (n ≤ x.f))).length
  | 0, n => by simp [nWays, waysG]
  | F + 1, n => by
    rw [nWays_out]
    split
    · exact Nat.pos_of_ne_zero (Nat.ne_of_gt (Nat.pow_pos (by omega)))
    · have hs := filter_split_len n gl
      rw [← outOf_len_filter] at hs
      have hd : (outOf gl n).length ≤ 14 := Nat.le_trans (outOf_length gl n) hl
      obtain ⟨m, h1, h2⟩ := bound_of ((outOf gl n).map fun i => nWays gl N F (lnk gl i).t) (3 ^ (gl.filter (fun x => decide (n + 1 ≤ x.f))).length) (by
        intro y hy
        obtain ⟨i, hi, rfl⟩ := List.mem_map.1 hy
        obtain ⟨j, x, _, hx, hf, hlx⟩ := outOf_mem hi
        have hxo := hg x (List.mem_of_getElem? hx)
        unfold okL at hxo
        refine Nat.le_trans (ways_cube hg hl F _) (Nat.pow_le_pow_right (by omega) (filter_len_le gl fun z _ hz => ?_))
        rw [hlx] at hz
        have hz := of_decide_eq_true hz
        exact decide_eq_true (by omega))
      have h3 := sum_le_mul (fun i => nWays gl N F (lnk gl i).t) m (outOf gl n) (fun i hi => h2 _ (List.mem_map.2 ⟨i, hi, rfl⟩))
      refine Nat.le_trans (Nat.pow_le_pow_left h3 3) ?_
      rw [Nat.mul_pow, ← hs, Nat.pow_add, Nat.mul_comm]
      exact Nat.mul_le_mul h1 (cube_le _ hd)
theorem ways_few {gl : List Lnk} {N : Int} (hg : ∀ x ∈ gl, okL N x) (hl : gl.length ≤ 14) (F : Nat) (n : Int) : nWays gl N F n ≤ 168 := by
  have h1 := ways_cube hg hl F n
  have h2 : (gl.filter (fun x => decide (n ≤ x.f))).length ≤ 14 := Nat.le_trans (List.length_filter_le _ _) hl
  have h3 := Nat.le_trans h1 (Nat.pow_le_pow_right (show 0 < 3 by omega) h2)
  refine Nat.le_of_not_lt fun h => ?_
  have h4 := Nat.pow_le_pow_left (show 169 ≤ nWays gl N F n by omega) 3
  have : 169 ^ 3 ≤ 3 ^ 14 := Nat.le_trans h4 h3
  revert this; decide
theorem capN_few {n : Nat} (h : n ≤ 168) : capN n = n := by unfold capN; rw [if_neg (by omega)]
theorem made_few (n : Int) {xs : List (Int × Int × Int)} (hx : ∀ x ∈ xs, triOk x) (F : Nat) (m : Int) : nWays (madeL n xs) (madeN n) F m ≤ 168 := ways_few (made_valid n hx).2.2.2 (madeL_length n xs) F m
/-- The number that both sides return. -/
theorem num_zero {gl : List Lnk} {N : Nat} {t : List Int} (hg : validG N gl) (h : IsNum N gl 0 t) : tv t 0 = capN (nWays gl N N 0) := by
  have := num_ways hg.2.2.2 h N 0 (by have := hg.1; omega) (by omega)
  exact this
theorem ordered_len (gl : List Lnk) (N : Int) (F : Nat) (n : Int) : (ordered (waysG gl N F n)).length = nWays gl N F n := by rw [ordered_length, nWays]
end Go.Proofs.Ytjdhcblofkkibaa

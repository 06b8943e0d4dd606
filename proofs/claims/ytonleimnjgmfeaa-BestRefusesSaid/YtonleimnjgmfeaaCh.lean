/-
  The chains of the law BestRefuses, and how great the tree of a graph with few links is. Conditions: the graph is valid.
-/
import Derived.Test.YtonleimnjgmfeaaSu
import Derived.Test.YtonleimnjgmfeaaDx
namespace Go.Proofs.Ytonleimnjgmfeaa
open Go Go.RowKit

theorem treeT_out (gl : List Lnk) (F : Nat) (n : Int) : treeT gl (F + 1) n = 1 + ((gl.filter (fun x => decide (x.f = n))).map fun x => treeT gl F x.t).sum := by
  rw [treeT, outOf_map' (fun x => treeT gl F x.t)]
theorem treeT_links {gl : List Lnk} {N : Int} (hg : ∀ x ∈ gl, okL N x) : ∀ (F : Nat) (n : Int), treeT gl F n ≤ 2 ^ (gl.filter (fun x => decide (n ≤ x.f))).length
  | 0, n => Nat.one_le_two_pow
  | F + 1, n => by
    have hs := filter_split_len n gl
    have h1 : ∀ x ∈ gl.filter (fun x => decide (x.f = n)), treeT gl F x.t ≤ 2 ^ (gl.filter (fun x => decide (n + 1 ≤ x.f))).length := by
      intro x hx
      have hxf := of_decide_eq_true (List.mem_filter.1 hx).2
      have hxo := hg x (List.mem_filter.1 hx).1
      unfold okL at hxo
      refine Nat.le_trans (treeT_links hg F x.t) (Nat.pow_le_pow_right (by omega) (filter_len_le gl fun z _ hz => ?_))
      have hz := of_decide_eq_true hz
      exact decide_eq_true (by omega)
    have h2 := sum_le_mul (fun x : Lnk => treeT gl F x.t) _ _ h1
    have h5 : 1 ≤ 2 ^ (gl.filter (fun x => decide (n + 1 ≤ x.f))).length := Nat.one_le_two_pow
    rw [treeT_out, ← hs, Nat.pow_add]
    generalize (gl.filter (fun x => decide (x.f = n))).length = d at *
    generalize 2 ^ (gl.filter (fun x => decide (n + 1 ≤ x.f))).length = B at *
    have h3 : d + 1 ≤ 2 ^ d := Nat.lt_two_pow_self
    have h4 : B * (d + 1) ≤ B * 2 ^ d := Nat.mul_le_mul_left B h3
    rw [Nat.mul_succ, Nat.mul_comm B d] at h4
    omega

def chainL (m : Nat) : List Lnk := (List.range m).flatMap fun (i : Nat) => [⟨i, i + 1, 0, 1⟩, ⟨i, i + 1, 0, 3⟩]
theorem chainL_succ (m : Nat) : chainL (m + 1) = chainL m ++ [⟨m, m + 1, 0, 1⟩, ⟨m, m + 1, 0, 3⟩] := by
  simp [chainL, List.range_succ]
theorem chainL_length : ∀ m, (chainL m).length = 2 * m
  | 0 => rfl
  | m + 1 => by rw [chainL_succ, List.length_append, chainL_length m]; simp; omega
theorem chainL_mem {m : Nat} {x : Lnk} (h : x ∈ chainL m) : 0 ≤ x.f ∧ x.f < m ∧ x.t = x.f + 1 ∧ x.lab = 0 ∧ (x.c = 1 ∨ x.c = 3) := by
  obtain ⟨i, hi, hx⟩ := List.mem_flatMap.1 h
  have hi := List.mem_range.1 hi
  simp at hx
  rcases hx with rfl | rfl <;> (simp; omega)
theorem chainL_filter (n : Nat) : ∀ m : Nat, (chainL m).filter (fun x => decide (x.f = (n : Int))) = if n < m then [⟨n, n + 1, 0, 1⟩, ⟨n, n + 1, 0, 3⟩] else []
  | 0 => rfl
  | m + 1 => by
    rw [chainL_succ, List.filter_append, chainL_filter n m]
    by_cases h : n < m
    · have h1 : ¬ ((m : Int) = (n : Int)) := by omega
      rw [if_pos h, if_pos (by omega)]
      simp [h1]
    · by_cases h2 : n = m
      · subst h2
        rw [if_neg h, if_pos (by omega)]
        simp
      · have h1 : ¬ ((m : Int) = (n : Int)) := by omega
        rw [if_neg h, if_neg (by omega)]
        simp [h1]
theorem chain_ok {m : Nat} (x : Lnk) (h : x ∈ chainL m) : okL ((m : Int) + 1) x := by
  have := chainL_mem h
  unfold okL
  omega
theorem chain_valid {m : Nat} (hm : m ≤ 39) : validG ((m : Int) + 1) (chainL m) := ⟨by omega, by omega, by rw [chainL_length]; omega, chain_ok⟩
theorem chain_tree (m : Nat) : ∀ (F n k : Nat), n + k = m → treeT (chainL m) F n + 1 ≤ 2 ^ (k + 1)
  | 0, n, k, h => by
    have : 2 ≤ 2 ^ (k + 1) := Nat.le_trans (by decide : 2 ≤ 2 ^ 1) (Nat.pow_le_pow_right (by omega) (by omega))
    simpa [treeT] using this
  | F + 1, n, k, h => by
    rw [treeT_out, chainL_filter]
    cases k with
    | zero => rw [if_neg (by omega)]; simp
    | succ k =>
      have ih := chain_tree m F (n + 1) k (by omega)
      rw [if_pos (by omega)]
      simp only [List.map_cons, List.map_nil, List.sum_cons, List.sum_nil]
      have e : ((n + 1 : Nat) : Int) = (n : Int) + 1 := by omega
      rw [e] at ih
      rw [Nat.pow_succ]
      omega
theorem chain_tree39 {m : Nat} (hm : m ≤ 39) (F : Nat) : treeT (chainL m) F 0 ≤ 2000000000000 := by
  have h1 := chain_tree m F 0 m (by omega)
  have h2 : 2 ^ (m + 1) ≤ 2 ^ 40 := Nat.pow_le_pow_right (by omega) (by omega)
  have h3 : (2 : Nat) ^ 40 = 1099511627776 := by decide
  have h1 : treeT (chainL m) F 0 + 1 ≤ 2 ^ (m + 1) := h1
  omega
theorem chain_ways (m F : Nat) (n : Nat) (h : n < m) : waysG (chainL m) ((m : Int) + 1) (F + 1) n = (outOf (chainL m) n).flatMap fun i => (waysG (chainL m) ((m : Int) + 1) F (lnk (chainL m) i).t).map (ext i (lnk (chainL m) i).c) := by
  rw [waysG_out, if_neg (by omega)]
theorem chain_num (m : Nat) : ∀ (k F n : Nat), n + k = m → k ≤ F → nWays (chainL m) ((m : Int) + 1) (F + 1) n = 2 ^ k
  | 0, F, n, h, hF => by
    rw [nWays_out, if_pos (by omega)]
  | k + 1, F, n, h, hF => by
    obtain ⟨F, rfl⟩ : ∃ F', F = F' + 1 := ⟨F - 1, by omega⟩
    have ih := chain_num m k F (n + 1) (by omega) (by omega)
    rw [nWays_out, if_neg (by omega), outOf_map' (fun x => nWays (chainL m) ((m : Int) + 1) (F + 1) x.t), chainL_filter, if_pos (by omega)]
    simp only [List.map_cons, List.map_nil, List.sum_cons, List.sum_nil]
    have e : ((n + 1 : Nat) : Int) = (n : Int) + 1 := by omega
    rw [e] at ih
    rw [ih, Nat.pow_succ]
    omega
/-- How many ways cost at most so much. -/
def cntW (gl : List Lnk) (N : Int) (F : Nat) (n B : Int) : Nat := ((waysG gl N F n).filter fun c => decide (c.cost ≤ B)).length
theorem sum_flat_len {α β : Type} (f : α → List β) (p : β → Bool) : ∀ l : List α, ((l.flatMap f).filter p).length = (l.map fun a => ((f a).filter p).length).sum
  | [] => rfl
  | a :: l => by rw [List.flatMap_cons, List.filter_append, List.length_append, sum_flat_len f p l, List.map_cons, List.sum_cons]
theorem cntW_step (m F : Nat) (n : Nat) (h : n < m) (B : Int) : cntW (chainL m) ((m : Int) + 1) (F + 1) n B = cntW (chainL m) ((m : Int) + 1) F ((n + 1 : Nat) : Int) (B - 1) + cntW (chainL m) ((m : Int) + 1) F ((n + 1 : Nat) : Int) (B - 3) := by
  unfold cntW
  rw [chain_ways m F n h, sum_flat_len]
  have e : (fun i : Int => (((waysG (chainL m) ((m : Int) + 1) F (lnk (chainL m) i).t).map (ext i (lnk (chainL m) i).c)).filter fun c => decide (c.cost ≤ B)).length) = fun i => (fun x : Lnk => ((waysG (chainL m) ((m : Int) + 1) F x.t).filter fun c => decide (c.cost ≤ B - x.c)).length) (lnk (chainL m) i) := by
    funext i
    rw [List.filter_map, List.length_map]
    congr 1
    refine List.filter_congr fun c _ => ?_
    show decide (c.cost + (lnk (chainL m) i).c ≤ B) = decide (c.cost ≤ B - (lnk (chainL m) i).c)
    rw [decide_eq_decide]
    omega
  rw [e, outOf_map' (fun x : Lnk => ((waysG (chainL m) ((m : Int) + 1) F x.t).filter fun c => decide (c.cost ≤ B - x.c)).length), chainL_filter, if_pos h]
  simp
theorem chain_cnt (m : Nat) : ∀ (k F n : Nat) (r : Int), n + k = m → k ≤ F → (r < 0 → cntW (chainL m) ((m : Int) + 1) (F + 1) n (k + r) = 0) ∧ (0 ≤ r → r ≤ 1 → cntW (chainL m) ((m : Int) + 1) (F + 1) n (k + r) = 1) ∧ (2 ≤ r → r ≤ 3 → cntW (chainL m) ((m : Int) + 1) (F + 1) n (k + r) = k + 1)
  | 0, F, n, r, h, hF => by
    have e : waysG (chainL m) ((m : Int) + 1) (F + 1) n = [⟨[], 0⟩] := by rw [waysG_out, if_pos (by omega)]
    unfold cntW
    rw [e]
    refine ⟨fun h => ?_, fun h1 h2 => ?_, fun h1 h2 => ?_⟩
    · have : ¬ (0 : Int) ≤ ((0 : Nat) : Int) + r := by omega
      simp only [List.filter_cons, this, decide_false, if_false, List.filter_nil]; rfl
    · have : (0 : Int) ≤ ((0 : Nat) : Int) + r := by omega
      simp only [List.filter_cons, this, decide_true, if_true, List.filter_nil]; rfl
    · have : (0 : Int) ≤ ((0 : Nat) : Int) + r := by omega
      simp only [List.filter_cons, this, decide_true, if_true, List.filter_nil]; rfl
  | k + 1, F, n, r, h, hF => by
    obtain ⟨F, rfl⟩ : ∃ F', F = F' + 1 := ⟨F - 1, by omega⟩
    have i1 := chain_cnt m k F (n + 1) r (by omega) (by omega)
    have i2 := chain_cnt m k F (n + 1) (r - 2) (by omega) (by omega)
    have e := cntW_step m (F + 1) n (by omega) (((k + 1 : Nat) : Int) + r)
    have e1 : ((k + 1 : Nat) : Int) + r - 1 = (k : Int) + r := by omega
    have e2 : ((k + 1 : Nat) : Int) + r - 3 = (k : Int) + (r - 2) := by omega
    rw [e1, e2] at e
    rw [e]
    refine ⟨fun h => ?_, fun h1 h2 => ?_, fun h1 h2 => ?_⟩
    · rw [i1.1 h, i2.1 (by omega)]
    · rw [i1.2.1 h1 h2, i2.1 (by omega)]
    · rw [i1.2.2 h1 h2, i2.2.1 (by omega) (by omega)]
theorem sorted_cnt {B : Int} : ∀ {L : List Cand}, L.Pairwise (fun a b => a.cost ≤ b.cost) → ∀ {i : Nat} {c : Cand}, L[i]? = some c → (c.cost ≤ B ↔ i < (L.filter fun c => decide (c.cost ≤ B)).length)
  | [], _, i, c, h => by cases h
  | x :: L, hs, i, c, h => by
    obtain ⟨h1, h2⟩ := List.pairwise_cons.1 hs
    by_cases hx : x.cost ≤ B
    · rw [List.filter_cons, if_pos (by simpa using hx), List.length_cons]
      cases i with
      | zero => simp at h; subst h; simp [hx]
      | succ i =>
        have := sorted_cnt (B := B) h2 (i := i) (c := c) (by simpa using h)
        omega
    · have e : (L.filter fun c => decide (c.cost ≤ B)) = [] := by
        rw [List.filter_eq_nil_iff]
        intro y hy
        have := h1 y hy
        simp; omega
      rw [List.filter_cons, if_neg (by simpa using hx), e]
      have hc : x.cost ≤ c.cost := by
        cases i with
        | zero => simp at h; subst h; exact Int.le_refl _
        | succ i => exact h1 c (List.mem_of_getElem? (by simpa using h))
      simp; omega
theorem chain_first {m : Nat} {i : Nat} {c : Cand} (h : (ordered (waysG (chainL m) ((m : Int) + 1) (m + 1) 0))[i]? = some c) : (i = 0 → c.cost = m) ∧ (0 < i → i < m + 1 → c.cost = m + 2) := by
  have hs : (ordered (waysG (chainL m) ((m : Int) + 1) (m + 1) 0)).Pairwise (fun a b => a.cost ≤ b.cost) := (ordered_srt _).imp fun {a b} hab => by
    unfold candLt at hab
    omega
  have hp := fun B => ((ordered_perm (waysG (chainL m) ((m : Int) + 1) (m + 1) 0)).filter (fun c => decide (c.cost ≤ B))).length_eq
  have hc := fun B => sorted_cnt (B := B) hs h
  have k0 := (chain_cnt m m m 0 (-1) (by omega) (Nat.le_refl _)).1 (by omega)
  have k1 := (chain_cnt m m m 0 0 (by omega) (Nat.le_refl _)).2.1 (by omega) (by omega)
  have k2 := (chain_cnt m m m 0 1 (by omega) (Nat.le_refl _)).2.1 (by omega) (by omega)
  have k3 := (chain_cnt m m m 0 2 (by omega) (Nat.le_refl _)).2.2 (by omega) (by omega)
  have c0 := hc ((m : Int) + -1)
  have c1 := hc ((m : Int) + 0)
  have c2 := hc ((m : Int) + 1)
  have c3 := hc ((m : Int) + 2)
  unfold cntW at k0 k1 k2 k3
  simp only [Int.natCast_zero] at k0 k1 k2 k3
  have q0 := hp ((m : Int) + -1)
  have q1 := hp ((m : Int) + 0)
  have q2 := hp ((m : Int) + 1)
  have q3 := hp ((m : Int) + 2)
  rw [q0, k0] at c0
  rw [q1, k1] at c1
  rw [q2, k2] at c2
  rw [q3, k3] at c3
  omega

theorem QF.shl {P : Program} {l : Env} {T T' : TypeId} {x y : Operand} {a b : Int} (hx : opv l x = some (.int .i64 a)) (hy : opv l y = some (.int .i64 b)) (h0 : 0 ≤ b ∧ b ≤ 64) : QF P l (.binOp .shl T x y T') (.int .i64 (IntKind.i64.wrap (a * 2 ^ b.toNat))) := by
  intro o ho ρ hρ w
  simp [execOp, ho, hρ _ _ hx, hρ _ _ hy, eqGuard_shl, binOp_shl, shift_shl .i64 _ a b h0.1 h0.2]
end Go.Proofs.Ytonleimnjgmfeaa

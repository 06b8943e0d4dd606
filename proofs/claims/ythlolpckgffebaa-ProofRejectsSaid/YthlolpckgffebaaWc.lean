/-
  The ways of the list are exactly the lists of links that lead to the last node, with their costs, each once. Conditions: the graph is valid.
-/
import Derived.Test.YthlolpckgffebaaT13
namespace Go.Proofs.Ythlolpckgffebaa

theorem costGo_cons {gl : List Lnk} {n s : Int} {i : Nat} {x : Lnk} {r : List Int} (hx : gl[i]? = some x) (hf : x.f = n) : costGo gl n s ((i : Int) :: r) = costGo gl x.t (s + x.c) r := by
  have hl := (List.getElem?_eq_some_iff.1 hx).1
  have h1 : ¬ ((i : Int) < 0 ∨ (gl.length : Int) ≤ (i : Int)) := by omega
  simp only [costGo]
  rw [if_neg h1, Int.toNat_natCast, hx]
  simp [hf]
theorem ways_cost {gl : List Lnk} {N : Int} : ∀ (F : Nat) (n s : Int), ∀ w ∈ waysG gl N F n, costGo gl n s w.links = some (N - 1, s + w.cost)
  | 0, n, s, w, hw => by simp [waysG] at hw
  | F + 1, n, s, w, hw => by
    rw [waysG_out] at hw
    split at hw
    · rename_i hn
      simp at hw; subst hw
      simp [costGo, hn]
    · obtain ⟨i, hi, hw⟩ := List.mem_flatMap.1 hw
      obtain ⟨u, hu, rfl⟩ := List.mem_map.1 hw
      obtain ⟨j, x, rfl, hx, hf, hl⟩ := outOf_mem hi
      rw [hl] at hu
      simp only [ext, hl]
      rw [costGo_cons hx hf, ways_cost F x.t (s + x.c) u hu]
      congr 2
      omega
theorem ways_all {gl : List Lnk} {N : Int} (hg : ∀ x ∈ gl, okL N x) : ∀ (way : List Int) (F : Nat) (n s e : Int), n < N → N ≤ n + F → costGo gl n s way = some (N - 1, e) → (⟨way, e - s⟩ : Cand) ∈ waysG gl N F n
  | [], 0, n, s, e, h0, h1, h => by omega
  | _ :: _, 0, n, s, e, h0, h1, h => by omega
  | [], F + 1, n, s, e, h0, h1, h => by
    simp only [costGo, Option.some.injEq, Prod.mk.injEq] at h
    rw [waysG_out, if_pos h.1]
    simp; omega
  | i :: r, F + 1, n, s, e, h0, h1, h => by
    simp only [costGo] at h
    split at h
    · cases h
    · rename_i hi
      obtain ⟨j, rfl⟩ : ∃ j : Nat, i = (j : Int) := ⟨i.toNat, by omega⟩
      rw [Int.toNat_natCast] at h
      split at h
      · cases h
      · rename_i x hx
        split at h
        · cases h
        · rename_i hf
          have hf : x.f = n := by omega
          have hxo := hg x (List.mem_of_getElem? hx)
          unfold okL at hxo
          have ih := ways_all hg r F x.t (s + x.c) e (by omega) (by omega) h
          rw [waysG_out, if_neg (by omega)]
          refine List.mem_flatMap.2 ⟨(j : Int), ?_, List.mem_map.2 ⟨_, by rw [lnk_at hx]; exact ih, ?_⟩⟩
          · exact (outFrom_mem gl 0 _).2 ⟨j, x, hx, hf, by simp⟩
          · simp only [ext, lnk_at hx]
            congr 1
            omega
theorem outFrom_sorted (n : Int) : ∀ (gl : List Lnk) (i : Nat), (outFrom i n gl).Pairwise (· < ·)
  | [], _ => List.Pairwise.nil
  | x :: r, i => by
    unfold outFrom
    split
    · refine List.pairwise_cons.2 ⟨fun j hj => ?_, outFrom_sorted n r (i + 1)⟩
      obtain ⟨k, y, _, _, e⟩ := (outFrom_mem r (i + 1) j).1 hj
      omega
    · exact outFrom_sorted n r (i + 1)
theorem waysG_nodup {gl : List Lnk} {N : Int} : ∀ (F : Nat) (n : Int), (waysG gl N F n).Pairwise (fun a b => a.links ≠ b.links)
  | 0, n => List.Pairwise.nil
  | F + 1, n => by
    rw [waysG_out]
    split
    · exact List.pairwise_singleton ..
    · refine List.pairwise_flatMap.2 ⟨fun i _ => ?_, ?_⟩
      · refine List.pairwise_map.2 ((waysG_nodup F _).imp fun h e => h ?_)
        simp only [ext] at e
        injection e
      · refine (outFrom_sorted n gl 0).imp fun {a b} hlt x hx y hy e => ?_
        obtain ⟨u, _, rfl⟩ := List.mem_map.1 hx
        obtain ⟨v, _, rfl⟩ := List.mem_map.1 hy
        simp only [ext] at e
        injection e with e1 _
        omega
theorem ordered_strict (gl : List Lnk) (N : Int) (F : Nat) (n : Int) : (ordered (waysG gl N F n)).Pairwise candLt := by
  have h1 := ordered_srt (waysG gl N F n)
  have h2 : (ordered (waysG gl N F n)).Pairwise (fun a b => a.links ≠ b.links) := (ordered_perm _).symm.pairwise (waysG_nodup F n) (fun h e => h e.symm)
  refine (h1.and h2).imp fun {a b} ⟨h, hne⟩ => ?_
  by_cases hc : candLt a b
  · exact hc
  · exact absurd (congrArg Cand.links (candLt_tri hc h)) hne
theorem costGo_snoc {gl : List Lnk} {i : Nat} {x : Lnk} (hx : gl[i]? = some x) : ∀ (out : List Int) (n s : Int) (m e : Int), costGo gl n s out = some (m, e) → x.f = m → costGo gl n s (out ++ [(i : Int)]) = some (x.t, e + x.c)
  | [], n, s, m, e, h, hf => by
    simp only [costGo, Option.some.injEq, Prod.mk.injEq] at h
    rw [List.nil_append, costGo_cons hx (by omega), costGo, h.2]
  | k :: r, n, s, m, e, h, hf => by
    simp only [costGo] at h
    rw [List.cons_append]
    simp only [costGo]
    split at h
    · cases h
    · rename_i hk
      rw [if_neg hk]
      split at h
      · cases h
      · rename_i y hy
        split at h
        · cases h
        · rename_i hyf
          rw [if_neg hyf]
          exact costGo_snoc hx r _ _ m e h hf
theorem choose_cost {gl : List Lnk} {N : Int} {l : List Int} : ∀ (fu i : Nat) (at_ : Int) (out : List Int) (e : Int) (r : List Int × Int), costGo gl 0 0 out = some (at_, e) → chooseGo N gl l fu i at_ out = some r → ∃ e', costGo gl 0 0 r.1 = some (r.2, e')
  | 0, i, at_, out, e, r, h, hc => by
    simp only [chooseGo, Option.some.injEq] at hc
    subst hc; exact ⟨e, h⟩
  | fu + 1, i, at_, out, e, r, h, hc => by
    simp only [chooseGo] at hc
    split at hc
    · injection hc with hc; subst hc; exact ⟨e, h⟩
    · split at hc
      · cases hc
      · rename_i hz
        have hz : 0 < (outOf gl at_).length := by omega
        obtain ⟨m, hm⟩ : ∃ m : Nat, tv l (i : Int) % ((outOf gl at_).length : Int) = (m : Int) := ⟨(tv l (i : Int) % ((outOf gl at_).length : Int)).toNat, by
          have := Int.emod_nonneg (tv l (i : Int)) (b := ((outOf gl at_).length : Int)) (by omega)
          omega⟩
        have hml : m < (outOf gl at_).length := by
          have := Int.emod_lt_of_pos (tv l (i : Int)) (b := ((outOf gl at_).length : Int)) (by omega)
          omega
        obtain ⟨ki, x, hki, hx, hxf⟩ := outOf_at (tv_at hml)
        rw [hm, hki, lnk_at hx] at hc
        exact choose_cost fu (i + 1) x.t _ _ r (costGo_snoc hx out 0 0 at_ e h hxf) hc
theorem chosen_cost {gl : List Lnk} {N : Int} {l out : List Int} (h : chosenOf N gl l = (out, true)) : ∃ e, costGo gl 0 0 out = some (N - 1, e) := by
  unfold chosenOf at h
  split at h
  · cases h
  · rename_i r1 r2 hc
    injection h with h1 h2
    subst h1
    have h2 := of_decide_eq_true h2
    subst h2
    exact choose_cost 10 0 0 [] 0 _ rfl hc
end Go.Proofs.Ythlolpckgffebaa

/-
  One more link: the ways that do not use it are the ways before. Conditions: none.
-/
import Derived.Test.YtonleimnjgmfeaaSu
namespace Go.Proofs.Ytonleimnjgmfeaa

def noUse (M : Int) (c : Cand) : Bool := !(c.links.any fun i => decide (i = M))
theorem lnk_append {gl : List Lnk} {x : Lnk} {j : Nat} (h : j < gl.length) : lnk (gl ++ [x]) (j : Int) = lnk gl (j : Int) := by
  simp [lnk, List.getElem?_append_left h]
theorem ways_snoc (gl : List Lnk) (x : Lnk) (N : Int) : ∀ (F : Nat) (n : Int), (waysG (gl ++ [x]) N F n).filter (noUse gl.length) = waysG gl N F n
  | 0, n => rfl
  | F + 1, n => by
    rw [waysG_out, waysG_out]
    split
    · rfl
    · rw [outOf_snoc, List.flatMap_append, List.filter_append, List.filter_flatMap]
      have e2 : List.filter (noUse gl.length) ((if x.f = n then [(gl.length : Int)] else []).flatMap fun i => (waysG (gl ++ [x]) N F (lnk (gl ++ [x]) i).t).map (ext i (lnk (gl ++ [x]) i).c)) = [] := by
        split
        · rw [List.flatMap_cons, List.flatMap_nil, List.append_nil, List.filter_eq_nil_iff]
          intro c hc
          obtain ⟨w, _, rfl⟩ := List.mem_map.1 hc
          simp [noUse, ext]
        · rfl
      rw [e2, List.append_nil]
      refine flatMap_congr' fun i hi => ?_
      obtain ⟨j, y, rfl, hy, hf, hl⟩ := outOf_mem hi
      have hj := (List.getElem?_eq_some_iff.1 hy).1
      rw [lnk_append hj, List.filter_map, ← ways_snoc gl x N F]
      congr 1
      refine List.filter_congr fun w _ => ?_
      have : ¬ ((j : Int) = (gl.length : Int)) := by omega
      simp [noUse, ext, this]
theorem ordered_filter {p : Cand → Bool} {A B : List Cand} (h : A.filter p = B) : (ordered A).filter p = ordered B := by
  refine srt_unique ((ordered_srt A).sublist List.filter_sublist) (ordered_srt B) ?_
  rw [← h]
  exact ((ordered_perm A).filter p).trans (ordered_perm _).symm
theorem filt_at {α : Type} {p : α → Bool} {L : List α} {i : Nat} {c : α} (hi : L[i]? = some c) (hp : p c = true) : (L.filter p)[((L.take i).filter p).length]? = some c := by
  conv => lhs; arg 1; rw [split_at hi]
  rw [List.filter_append, List.getElem?_append_right (Nat.le_refl _), Nat.sub_self, List.filter_cons, if_pos hp]; rfl
theorem filt_succ {α : Type} {p : α → Bool} {L : List α} {i : Nat} {c : α} (hi : L[i]? = some c) : ((L.take (i + 1)).filter p).length = ((L.take i).filter p).length + if p c = true then 1 else 0 := by
  rw [take_snoc_of hi, List.filter_append, List.length_append]
  congr 1
  by_cases h : p c = true <;> simp [h]
theorem made_snoc {n : Int} {xs : List (Int × Int × Int)} (a : Int × Int × Int) : (1 < madeN n ∧ ∃ x, madeL n (xs.take 13 ++ [a]) = madeL n (xs.take 13) ++ [x]) ∨ (madeL n (xs.take 13 ++ [a]) = [] ∧ madeL n (xs.take 13) = []) := by
  unfold madeL
  by_cases h : 1 < madeN n
  · refine .inl ⟨h, ?_⟩
    have e1 : (xs.take 13 ++ [a]).take 14 = xs.take 13 ++ [a] := List.take_of_length_le (by simp; omega)
    have e2 : (xs.take 13).take 14 = xs.take 13 := List.take_of_length_le (by simp; omega)
    rw [if_pos h, if_pos h, e1, e2, linksOf_snoc]
    exact ⟨_, rfl⟩
  · exact .inr ⟨by rw [if_neg h], by rw [if_neg h]⟩
theorem ways_nil_links (N : Int) (F : Nat) (n : Int) : ∀ w ∈ waysG [] N F n, w.links = [] := by
  intro w hw
  have h := waysG_links F n w hw
  match hl : w.links with
  | [] => rfl
  | i :: r =>
    have := h i (by rw [hl]; exact List.mem_cons_self ..)
    simp at this; omega
theorem made_filter {n : Int} {xs : List (Int × Int × Int)} (a : Int × Int × Int) (N : Int) (F : Nat) : (ordered (waysG (madeL n (xs.take 13 ++ [a])) N F 0)).filter (noUse (madeL n (xs.take 13)).length) = ordered (waysG (madeL n (xs.take 13)) N F 0) := by
  refine ordered_filter ?_
  rcases made_snoc (n := n) (xs := xs) a with ⟨_, x, h⟩ | ⟨h1, h2⟩
  · rw [h]; exact ways_snoc _ x N F 0
  · rw [h1, h2, List.filter_eq_self]
    intro w hw
    simp [noUse, ways_nil_links N F 0 w hw]
theorem srt_first {L : List Cand} (h : Srt L) {b : Cand} (hb : L[0]? = some b) : ∀ a ∈ L, ¬ candLt a b := by
  cases L with
  | nil => cases hb
  | cons x L =>
    simp at hb; subst hb
    intro a ha
    rcases List.mem_cons.1 ha with rfl | ha
    · exact fun h => candLt_asymm h h
    · exact (List.pairwise_cons.1 h).1 a ha
end Go.Proofs.Ytonleimnjgmfeaa

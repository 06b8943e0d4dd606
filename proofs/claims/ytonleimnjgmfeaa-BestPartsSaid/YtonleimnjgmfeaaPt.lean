/-
  The end of the first way is the first way from the node at which it begins. Conditions: the graph is valid.
-/
import Derived.Test.YtonleimnjgmfeaaLk
namespace Go.Proofs.Ytonleimnjgmfeaa

theorem candLt_ext {i c : Int} {a b : Cand} : candLt (ext i c a) (ext i c b) ↔ candLt a b := by
  unfold candLt
  simp only [ext, lexCmp]
  rw [if_neg (Int.lt_irrefl i), if_neg (Int.lt_irrefl i)]
  omega
theorem end_first {gl : List Lnk} {N : Int} {F : Nat} (hg : ∀ x ∈ gl, okL N x) : ∀ (k : Nat) (n : Int) (w : Cand), 0 ≤ n → n < N → N ≤ n + F → w ∈ waysG gl N F n → (∀ u ∈ waysG gl N F n, ¬ candLt u w) → k < w.links.length →
    ∃ (j : Nat) (x : Lnk) (e : Int), w.links[k]? = some (j : Int) ∧ gl[j]? = some x ∧ (⟨w.links.drop k, e⟩ : Cand) ∈ waysG gl N F x.f ∧ ∀ u ∈ waysG gl N F x.f, ¬ candLt u ⟨w.links.drop k, e⟩
  | k, n, w, h0, h1, hF, hw, hmin, hk => by
    by_cases hn : n = N - 1
    · rw [hn, waysG_end (by omega)] at hw
      simp at hw; subst hw
      simp at hk
    · have hw0 := hw
      rw [waysG_step hg h1 hF hn] at hw
      obtain ⟨i, hi, hw⟩ := List.mem_flatMap.1 hw
      obtain ⟨u, hu, rfl⟩ := List.mem_map.1 hw
      obtain ⟨j, x, rfl, hx, hf, hl⟩ := outOf_mem hi
      rw [hl] at hu hw0 hmin hk ⊢
      have hxo := hg x (List.mem_of_getElem? hx)
      unfold okL at hxo
      cases k with
      | zero =>
        refine ⟨j, x, (ext (j : Int) x.c u).cost, rfl, hx, ?_, ?_⟩
        · rw [hf]; exact hw0
        · rw [hf]; exact hmin
      | succ k =>
        have hm2 : ∀ v ∈ waysG gl N F x.t, ¬ candLt v u := fun v hv h => hmin (ext (j : Int) x.c v) (by
          rw [waysG_step hg h1 hF hn]
          refine List.mem_flatMap.2 ⟨(j : Int), hi, List.mem_map.2 ⟨v, by rw [hl]; exact hv, by rw [hl]⟩⟩) (candLt_ext.2 h)
        simpa [ext] using end_first hg k x.t u (by omega) (by omega) (by omega) hu hm2 (by simpa [ext] using hk)
theorem head_min {L : List Cand} (hs : Srt L) {w : Cand} (hw : w ∈ L) (hmin : ∀ u ∈ L, ¬ candLt u w) : L.take 1 = [w] := by
  cases L with
  | nil => simp at hw
  | cons x L =>
    have h1 := srt_first hs (b := x) rfl w hw
    have h2 := hmin x (List.mem_cons_self ..)
    rw [candLt_tri h2 h1]; rfl
/-- The first way of the graph from that node on, in its own numbers. -/
theorem part_first {gl : List Lnk} {N : Nat} (hg : ∀ x ∈ gl, okL (N : Int) x) (hN : 0 < N) {c0 : Cand} {W : List Cand} (hW : ordered (waysG gl N N 0) = c0 :: W) {k : Nat} (hk : k < c0.links.length) :
    ∃ (j : Nat) (x : Lnk) (m : Cand), c0.links[k]? = some (j : Int) ∧ gl[j]? = some x ∧ (ordered (waysG (subG (shL x.f) x.f gl) ((N : Int) - x.f) ((N : Int) - x.f).toNat 0)).take 1 = [m] ∧ m.links.map (tv (sel x.f gl)) = c0.links.drop k ∧ ∀ i ∈ m.links, 0 ≤ i ∧ i < ((sel x.f gl).length : Int) := by
  have hs := ordered_srt (waysG gl N N 0)
  rw [hW] at hs
  have hmem : c0 ∈ waysG gl N N 0 := (ordered_perm _).mem_iff.1 (by rw [hW]; exact List.mem_cons_self ..)
  have hmin : ∀ u ∈ waysG gl N N 0, ¬ candLt u c0 := fun u hu => srt_first hs (b := c0) rfl u (by rw [← hW]; exact (ordered_perm _).mem_iff.2 hu)
  obtain ⟨j, x, e, h1, h2, h3, h4⟩ := end_first hg k 0 c0 (by omega) (by omega) (by omega) hmem hmin hk
  have hxo := hg x (List.mem_of_getElem? h2)
  unfold okL at hxo
  have hfu := waysG_fuel hg N ((N : Int) - x.f).toNat x.f (by omega) (by omega) (by omega)
  have hsub := ordered_sub (d := x.f) hg ((N : Int) - x.f).toNat x.f (Int.le_refl _)
  rw [Int.sub_self, ← hfu] at hsub
  have hhd := head_min (ordered_srt (waysG gl N N x.f)) ((ordered_perm _).mem_iff.2 h3) (fun u hu => h4 u ((ordered_perm _).mem_iff.1 hu))
  rw [← hsub] at hhd
  cases hL : ordered (waysG (subG (shL x.f) x.f gl) ((N : Int) - x.f) ((N : Int) - x.f).toNat 0) with
  | nil => rw [hL] at hhd; cases hhd
  | cons m L =>
    rw [hL] at hhd
    simp only [List.map_cons, List.take_succ_cons, List.take_zero, List.cons.injEq, and_true] at hhd
    refine ⟨j, x, m, h1, h2, by rw [hL]; rfl, ?_, fun i hi => ?_⟩
    · have := congrArg Cand.links hhd
      exact this
    · have hm : m ∈ waysG (subG (shL x.f) x.f gl) ((N : Int) - x.f) ((N : Int) - x.f).toNat 0 := (ordered_perm _).mem_iff.1 (by rw [hL]; exact List.mem_cons_self ..)
      have := waysG_links _ _ m hm i hi
      rw [subG_length] at this
      exact this
end Go.Proofs.Ytonleimnjgmfeaa

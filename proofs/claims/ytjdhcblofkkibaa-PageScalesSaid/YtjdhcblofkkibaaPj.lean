/-
  The plain law of potentials and of the check: potentials are the least costs, what is left of the tree bounds the ways that are not known. Conditions: the graph is valid.
-/
import Derived.Test.YtjdhcblofkkibaaPh
import Derived.Test.YtjdhcblofkkibaaSu
namespace Go.Proofs.Ytjdhcblofkkibaa

section
variable {gl : List Lnk} {N : Nat} {h : List Int}

/-! ### Potentials are least costs -/
theorem foldP_le {t : List Int} {n : Int} : ∀ (gl : List Lnk) (a : Int), a ≠ -1 → (∀ x ∈ gl, x.f = n → tv t x.t ≠ -1 → 0 ≤ x.c + tv t x.t) → gl.foldl (fun a x => if x.f = n then stepP t a x else a) a ≠ -1 ∧ gl.foldl (fun a x => if x.f = n then stepP t a x else a) a ≤ a
  | [], a, ha, _ => ⟨ha, Int.le_refl _⟩
  | x :: r, a, ha, hp => by
    rw [List.foldl_cons]
    have key : (if x.f = n then stepP t a x else a) ≠ -1 ∧ (if x.f = n then stepP t a x else a) ≤ a := by
      split
      · rename_i hf
        have h1 := hp x (List.mem_cons_self ..) hf
        unfold stepP
        split
        · exact ⟨ha, Int.le_refl _⟩
        · split
          · rename_i h2 h3
            have := h1 h2
            omega
          · exact ⟨ha, Int.le_refl _⟩
      · exact ⟨ha, Int.le_refl _⟩
    have := foldP_le r _ key.1 (fun y hy => hp y (List.mem_cons_of_mem _ hy))
    exact ⟨this.1, Int.le_trans this.2 key.2⟩
theorem foldP_mem {t : List Int} {n : Int} {x : Lnk} (hf : x.f = n) (ht : tv t x.t ≠ -1) : ∀ (gl : List Lnk) (a : Int), x ∈ gl → (∀ x ∈ gl, x.f = n → tv t x.t ≠ -1 → 0 ≤ x.c + tv t x.t) →
    gl.foldl (fun a x => if x.f = n then stepP t a x else a) a ≠ -1 ∧ gl.foldl (fun a x => if x.f = n then stepP t a x else a) a ≤ x.c + tv t x.t
  | [], a, h, _ => by simp at h
  | y :: r, a, h, hp => by
    rw [List.foldl_cons]
    rcases List.mem_cons.1 h with rfl | h
    · have h1 := hp x (List.mem_cons_self ..) hf ht
      have key : (if x.f = n then stepP t a x else a) ≠ -1 ∧ (if x.f = n then stepP t a x else a) ≤ x.c + tv t x.t := by
        rw [if_pos hf]
        unfold stepP
        rw [if_neg ht]
        split
        · omega
        · omega
      have := foldP_le r _ key.1 (fun y hy => hp y (List.mem_cons_of_mem _ hy))
      exact ⟨this.1, Int.le_trans this.2 key.2⟩
    · exact foldP_mem hf ht r _ h (fun y hy => hp y (List.mem_cons_of_mem _ hy))
theorem foldP_from {t : List Int} {n : Int} : ∀ (gl : List Lnk) (a : Int), gl.foldl (fun a x => if x.f = n then stepP t a x else a) a = a ∨ ∃ x ∈ gl, x.f = n ∧ tv t x.t ≠ -1 ∧ gl.foldl (fun a x => if x.f = n then stepP t a x else a) a = x.c + tv t x.t
  | [], a => .inl rfl
  | x :: r, a => by
    rw [List.foldl_cons]
    rcases foldP_from (t := t) (n := n) r (if x.f = n then stepP t a x else a) with h | ⟨y, h1, h2⟩
    · rw [h]
      split
      · rename_i hf
        unfold stepP
        split
        · exact .inl rfl
        · rename_i ht
          split
          · exact .inr ⟨x, List.mem_cons_self .., hf, ht, rfl⟩
          · exact .inl rfl
      · exact .inl rfl
    · exact .inr ⟨y, List.mem_cons_of_mem _ h1, h2⟩
theorem pot_lb (hg : ∀ x ∈ gl, okL (N : Int) x) (hp : IsPot N gl 0 h) : ∀ (F : Nat) (n : Nat), n < N → ∀ w ∈ waysG gl N F n, tv h n ≠ -1 ∧ tv h n ≤ w.cost
  | 0, n, _, w, hw => by simp [waysG] at hw
  | F + 1, n, h1, w, hw => by
    rw [waysG_out] at hw
    split at hw
    · rename_i hn
      simp at hw; subst hw
      rw [hn, hp.2.2.2]; simp
    · rename_i hn
      obtain ⟨i, hi, hw⟩ := List.mem_flatMap.1 hw
      obtain ⟨u, hu, rfl⟩ := List.mem_map.1 hw
      obtain ⟨j, x, _, hx, hf, hl⟩ := outOf_mem hi
      rw [hl] at hu ⊢
      have hxm := List.mem_of_getElem? hx
      have hxo := hg x hxm
      unfold okL at hxo
      obtain ⟨m, hm⟩ : ∃ m : Nat, x.t = (m : Int) := ⟨x.t.toNat, by omega⟩
      rw [hm] at hu
      have hlb := pot_lb hg hp F m (by omega) u hu
      rw [hp.2.2.1 n (Nat.zero_le _) (by omega), potT]
      have := foldP_mem hf (by rw [hm]; exact hlb.1) gl (-1) hxm (fun y hy hyf hyt => by
        have hyo := hg y hy
        unfold okL at hyo
        have := hp.2.1 y.t (by omega) (by omega)
        omega)
      refine ⟨this.1, ?_⟩
      rw [hm] at this
      simp only [ext]
      omega
theorem pot_at (hg : ∀ x ∈ gl, okL (N : Int) x) (hp : IsPot N gl 0 h) : ∀ (F : Nat) (n : Nat), n < N → N ≤ n + F → tv h n ≠ -1 → ∃ w ∈ waysG gl N F n, w.cost = tv h n
  | 0, n, h1, h2, _ => by omega
  | F + 1, n, h1, h2, hne => by
    rw [waysG_out]
    by_cases hn : (n : Int) = N - 1
    · rw [if_pos hn]
      exact ⟨⟨[], 0⟩, by simp, by rw [hn, hp.2.2.2]⟩
    · rw [if_neg hn]
      have e := hp.2.2.1 n (Nat.zero_le _) (by omega)
      rcases foldP_from (t := h) (n := (n : Int)) gl (-1) with h3 | ⟨x, hx, hf, ht, h3⟩
      · exact absurd (e.trans h3) hne
      · have hxo := hg x hx
        unfold okL at hxo
        obtain ⟨m, hm⟩ : ∃ m : Nat, x.t = (m : Int) := ⟨x.t.toNat, by omega⟩
        rw [hm] at ht
        obtain ⟨u, hu, hc⟩ := pot_at hg hp F m (by omega) (by omega) ht
        obtain ⟨j, hj⟩ := List.getElem?_of_mem hx
        have hi : (j : Int) ∈ outOf gl n := by
          have : (outOf gl (n : Int)) = outFrom 0 n gl := rfl
          rw [this, outFrom_mem]
          exact ⟨j, x, hj, hf, by simp⟩
        refine ⟨ext j x.c u, List.mem_flatMap.2 ⟨(j : Int), hi, ?_⟩, ?_⟩
        · rw [lnk_at hj, hm]; exact List.mem_map.2 ⟨u, hu, rfl⟩
        · rw [e, potT, h3]; simp only [ext, hm]; omega

/-! ### Ways as lists of links -/
theorem costGo_append : ∀ (a b : List Int) (n s : Int), costGo gl n s (a ++ b) = match costGo gl n s a with | some (m, e) => costGo gl m e b | none => none
  | [], b, n, s => rfl
  | i :: a, b, n, s => by
    simp only [List.cons_append, costGo]
    split
    · rfl
    · split
      · rfl
      · split
        · rfl
        · exact costGo_append a b _ _
theorem costGo_step' {i : Int} {r : List Int} {n s m e : Int} (h : costGo gl n s (i :: r) = some (m, e)) : i ∈ outOf gl n ∧ (lnk gl i).f = n ∧ costGo gl (lnk gl i).t (s + (lnk gl i).c) r = some (m, e) := by
  simp only [costGo] at h
  split at h
  · cases h
  · rename_i hi
    split at h
    · cases h
    · rename_i x hx
      split at h
      · cases h
      · rename_i hf
        have hl : lnk gl i = x := by unfold lnk; rw [hx]; rfl
        have hf' : x.f = n := by omega
        rw [hl]
        refine ⟨?_, hf', h⟩
        have : outOf gl n = outFrom 0 n gl := rfl
        rw [this, outFrom_mem]
        exact ⟨i.toNat, x, hx, hf', by omega⟩
theorem costGo_up (hg : ∀ x ∈ gl, okL (N : Int) x) : ∀ (r : List Int) (n s m e : Int), costGo gl n s r = some (m, e) → n + r.length ≤ m ∧ (r ≠ [] → m < N)
  | [], n, s, m, e, h => by simp [costGo] at h; simp; omega
  | i :: r, n, s, m, e, h => by
    obtain ⟨hi, hf, h2⟩ := costGo_step' h
    obtain ⟨j, x, _, hx, hxf, hl⟩ := outOf_mem hi
    have hxo := hg x (List.mem_of_getElem? hx)
    unfold okL at hxo
    rw [hl] at h2 hf
    have := costGo_up hg r _ _ _ _ h2
    refine ⟨by simp; omega, fun _ => ?_⟩
    cases r with
    | nil => simp [costGo] at h2; omega
    | cons _ _ => exact this.2 (by simp)
theorem costGo_at {i n s : Int} (hi : i ∈ outOf gl n) (r : List Int) : costGo gl n s (i :: r) = costGo gl (lnk gl i).t (s + (lnk gl i).c) r := by
  obtain ⟨j, x, rfl, hx, hf, hl⟩ := outOf_mem hi
  rw [hl]
  exact costGo_cons hx hf
theorem ways_go {w : Cand} (hw : w ∈ waysG gl N N 0) : costGo gl 0 0 w.links = some ((N : Int) - 1, w.cost) := by
  have := ways_cost N 0 0 w hw
  rwa [Int.zero_add] at this
theorem go_ways (hg : ∀ x ∈ gl, okL (N : Int) x) (hN : 0 < N) {l : List Int} {e : Int} (h1 : costGo gl 0 0 l = some ((N : Int) - 1, e)) : (⟨l, e⟩ : Cand) ∈ waysG gl N N 0 := by
  have := ways_all hg l N 0 0 e (by omega) (by omega) h1
  rwa [Int.sub_zero] at this
theorem ways_links {w u : Cand} (hw : w ∈ waysG gl N N 0) (hu : u ∈ waysG gl N N 0) (h1 : w.links = u.links) : w = u := by
  have a := ways_go hw
  have b := ways_go hu
  rw [h1, b] at a
  cases w; cases u
  simp_all
/-- No way goes on behind its end. -/
theorem ways_prefix (hg : ∀ x ∈ gl, okL (N : Int) x) {w u : Cand} (hw : w ∈ waysG gl N N 0) (hu : u ∈ waysG gl N N 0) (h1 : w.links <+: u.links) : w = u := by
  obtain ⟨r, hr⟩ := h1
  have a := ways_go hw
  have b := ways_go hu
  rw [← hr, costGo_append, a] at b
  simp only at b
  refine ways_links hw hu ?_
  have hr0 : r = [] := by
    have := costGo_up hg r _ _ _ _ b
    cases r with
    | nil => rfl
    | cons _ _ => have h1 := this.1; simp at h1; omega
  rw [← hr, hr0, List.append_nil]

/-! ### What is left -/
theorem hasK_pre {known : List Cand} {p q : List Int} (hp : hasK known p = true) (h : q <+: p) : hasK known q = true := by
  simp only [hasK, decide_eq_true_eq] at *
  rcases hp with rfl | ⟨x, hx, hp⟩
  · exact .inl (List.prefix_nil.1 h)
  · exact .inr ⟨x, hx, h.trans hp⟩
theorem pre_snoc {q p : List Int} {i : Int} (h : q <+: p ++ [i]) (hne : q ≠ p ++ [i]) : q <+: p := by
  obtain ⟨r, hr⟩ := h
  rcases List.eq_nil_or_concat r with rfl | ⟨r', a, rfl⟩
  · simp at hr; exact absurd hr hne
  · rw [List.concat_eq_append, ← List.append_assoc] at hr
    have := List.append_inj' hr rfl
    exact ⟨r', this.1⟩
theorem visit_sound (hg : ∀ x ∈ gl, okL (N : Int) x) (hN : 0 < N) (hp : IsPot N gl 0 h) {known : List Cand} (hk : ∀ x ∈ known, x ∈ waysG gl N N 0) : ∀ (fu : Nat) (p : List Int) (n : Nat) (c : Int), costGo gl 0 0 p = some ((n : Int), c) → n < N → N ≤ n + fu → hasK known p = true →
    ∀ y ∈ visitL gl h N (hasK known) (whK known) fu p n c, (∃ w ∈ waysG gl N N 0, y.2 <+: w.links ∧ w.cost = y.1) ∧ (∀ x ∈ known, ¬ y.2 <+: x.links) ∧ ∀ q, q <+: y.2 → q ≠ y.2 → hasK known q = true
  | 0, p, n, c, _, h1, h2, _ => by omega
  | fu + 1, p, n, c, hc, h1, h2, hkp => by
    intro y hy
    rw [visitL] at hy
    rcases List.mem_append.1 hy with hy | hy
    · obtain ⟨i, hi, hy⟩ := List.mem_flatMap.1 hy
      obtain ⟨j, x, hij, hx, hf, hl⟩ := outOf_mem hi
      have hxo := hg x (List.mem_of_getElem? hx)
      unfold okL at hxo
      obtain ⟨m, hm⟩ : ∃ m : Nat, x.t = (m : Int) := ⟨x.t.toNat, by omega⟩
      have hc2 : costGo gl 0 0 (p ++ [i]) = some ((m : Int), c + x.c) := by
        rw [costGo_append, hc]
        simp only
        rw [costGo_at hi, hl, hm]; rfl
      rw [hl, hm] at hy
      split at hy
      · rename_i hh
        exact visit_sound hg hN hp hk fu (p ++ [i]) m (c + x.c) hc2 (by omega) (by omega) hh y hy
      · rename_i hh
        split at hy
        · simp at hy
        · rename_i ht
          simp at hy; subst hy
          obtain ⟨u, hu, huc⟩ := pot_at hg hp N m (by omega) (by omega) ht
          refine ⟨⟨⟨(p ++ [i]) ++ u.links, c + x.c + u.cost⟩, go_ways hg hN ?_, List.prefix_append .., by simp [huc]⟩, ?_, ?_⟩
          · rw [costGo_append, hc2]
            simp only
            exact ways_cost N m (c + x.c) u hu
          · intro z hz hpz
            exact hh (by simp only [hasK, decide_eq_true_eq]; exact .inr ⟨z, hz, hpz⟩)
          · intro q hq hne
            exact hasK_pre hkp (pre_snoc hq hne)
    · split at hy
      · rename_i hn
        simp at hy; subst hy
        have hw : (⟨p, c⟩ : Cand) ∈ waysG gl N N 0 := go_ways hg hN (by rw [hc, ← hn.1])
        refine ⟨⟨⟨p, c⟩, hw, List.prefix_refl _, rfl⟩, ?_, fun q hq _ => hasK_pre hkp hq⟩
        intro x hx hpx
        have := ways_prefix hg hw (hk x hx) hpx
        have h3 : whK known p = true := by
          simp only [whK, decide_eq_true_eq]
          exact ⟨x, hx, by rw [← this]⟩
        rw [hn.2] at h3; cases h3
      · simp at hy
theorem visit_complete (hg : ∀ x ∈ gl, okL (N : Int) x) (hp : IsPot N gl 0 h) {known : List Cand} (hk : ∀ x ∈ known, x ∈ waysG gl N N 0) : ∀ (fu : Nat) (p r : List Int) (n : Nat) (c : Int), costGo gl 0 0 p = some ((n : Int), c) → n < N → N ≤ n + fu →
    ∀ w ∈ waysG gl N N 0, w.links = p ++ r → w ∉ known → ∃ y ∈ visitL gl h N (hasK known) (whK known) fu p n c, y.2 <+: w.links ∧ y.1 ≤ w.cost
  | 0, p, r, n, c, _, h1, h2, _, _, _, _ => by omega
  | fu + 1, p, r, n, c, hc, h1, h2, w, hw, hwl, hwk => by
    have hgo := ways_go hw
    rw [hwl, costGo_append, hc] at hgo
    simp only at hgo
    rw [visitL]
    cases r with
    | nil =>
      simp [costGo] at hgo
      have hwh : whK known p = false := by
        simp only [whK, decide_eq_false_iff_not]
        rintro ⟨x, hx, hpx⟩
        refine hwk ?_
        rw [ways_links hw (hk x hx) (by rw [hwl, List.append_nil, hpx])]
        exact hx
      refine ⟨(c, p), List.mem_append_right _ (by rw [if_pos ⟨hgo.1, hwh⟩]; simp), ?_, by simp [hgo.2]⟩
      rw [hwl]; exact List.prefix_append ..
    | cons i r =>
      obtain ⟨hi, hf, h3⟩ := costGo_step' hgo
      obtain ⟨j, x, hij, hx, hxf, hl⟩ := outOf_mem hi
      have hxo := hg x (List.mem_of_getElem? hx)
      unfold okL at hxo
      obtain ⟨m, hm⟩ : ∃ m : Nat, x.t = (m : Int) := ⟨x.t.toNat, by omega⟩
      have hc2 : costGo gl 0 0 (p ++ [i]) = some ((m : Int), c + x.c) := by
        rw [costGo_append, hc]
        simp only
        rw [costGo_at hi, hl, hm]; rfl
      have hwl2 : w.links = (p ++ [i]) ++ r := by rw [hwl]; simp
      by_cases hh : hasK known (p ++ [i]) = true
      · obtain ⟨y, hy, h4⟩ := visit_complete hg hp hk fu (p ++ [i]) r m (c + x.c) hc2 (by omega) (by omega) w hw hwl2 hwk
        refine ⟨y, List.mem_append_left _ (List.mem_flatMap.2 ⟨i, hi, ?_⟩), h4⟩
        rw [if_pos hh, hl, hm]; exact hy
      · rw [hl, hm] at h3
        have h5 := ways_all hg r N m (c + x.c) w.cost (by omega) (by omega) h3
        have h6 := pot_lb hg hp N m (by omega) _ h5
        refine ⟨(c + x.c + tv h (m : Int), p ++ [i]), List.mem_append_left _ (List.mem_flatMap.2 ⟨i, hi, ?_⟩), ?_, ?_⟩
        · rw [if_neg hh, hl, hm, if_neg h6.1]; simp
        · rw [hwl2]; exact List.prefix_append ..
        · have := h6.2; simp only at this ⊢; omega
theorem left_sound (hg : ∀ x ∈ gl, okL (N : Int) x) (hN : 0 < N) (hp : IsPot N gl 0 h) {known : List Cand} (hk : ∀ x ∈ known, x ∈ waysG gl N N 0) {y : Int × List Int} (hy : y ∈ leftL gl h N known) :
    (∃ w ∈ waysG gl N N 0, y.2 <+: w.links ∧ w.cost = y.1) ∧ (∀ x ∈ known, ¬ y.2 <+: x.links) ∧ ∀ q, q <+: y.2 → q ≠ y.2 → hasK known q = true :=
  visit_sound hg hN hp hk N [] 0 0 rfl hN (by omega) (by simp [hasK]) y hy
theorem left_complete (hg : ∀ x ∈ gl, okL (N : Int) x) (hN : 0 < N) (hp : IsPot N gl 0 h) {known : List Cand} (hk : ∀ x ∈ known, x ∈ waysG gl N N 0) {w : Cand} (hw : w ∈ waysG gl N N 0) (hwk : w ∉ known) :
    ∃ y ∈ leftL gl h N known, y.2 <+: w.links ∧ y.1 ≤ w.cost :=
  visit_complete hg hp hk N [] w.links 0 0 rfl hN (by omega) w hw (by simp) hwk
end
end Go.Proofs.Ytjdhcblofkkibaa

/-
  The graph from a node on: its ways are the ways from that node on. Conditions: the graph is valid.
-/
import Derived.Test.YtjdhcblofkkibaaMNb
namespace Go.Proofs.Ytjdhcblofkkibaa

theorem nWays_fuel {gl : List Lnk} {N : Int} (hg : ∀ x ∈ gl, okL N x) {F F' : Nat} {n : Int} (h : n < N) (h1 : N ≤ n + F) (h2 : N ≤ n + F') : nWays gl N F n = nWays gl N F' n := by
  unfold nWays; rw [waysG_fuel hg F F' n h h1 h2]
theorem outOf_map' {β : Type} (g : Lnk → β) (gl : List Lnk) (n : Int) : ((outOf gl n).map fun i => g (lnk gl i)) = (gl.filter (fun x => decide (x.f = n))).map g := by
  rw [← outOf_map, List.map_map]; rfl
def nOut (gl : List Lnk) (N : Int) (F : Nat) (n : Int) (k : Nat) : Nat := (((gl.take k).filter (fun x => decide (x.f = n))).map fun x => nWays gl N F x.t).sum
theorem nOut_succ {gl : List Lnk} {N : Int} {F : Nat} {n : Int} {k : Nat} {x : Lnk} (hx : gl[k]? = some x) : nOut gl N F n (k + 1) = nOut gl N F n k + if x.f = n then nWays gl N F x.t else 0 := by
  unfold nOut
  rw [take_snoc_of hx, List.filter_append, List.map_append, List.sum_append]
  congr 1
  by_cases h : x.f = n <;> simp [h]
theorem nOut_all {gl : List Lnk} {N : Int} (hg : ∀ x ∈ gl, okL N x) {F : Nat} {n : Int} (h : n < N) (hF : N ≤ n + F) (hn : n ≠ N - 1) {k : Nat} (hk : gl.length ≤ k) : nWays gl N F n = nOut gl N F n k := by
  rw [nWays_step hg h hF hn, outOf_map' (fun x => nWays gl N F x.t), nOut, List.take_of_length_le hk]
theorem nOut_le {gl : List Lnk} {N : Int} (hg : ∀ x ∈ gl, okL N x) (hl : gl.length ≤ 14) (F : Nat) (n : Int) (k : Nat) : nOut gl N F n k ≤ 2352 := by
  unfold nOut
  have h1 := sum_le_mul (fun x => nWays gl N F x.t) 168 ((gl.take k).filter (fun x => decide (x.f = n))) (fun x _ => ways_few hg hl F x.t)
  have h2 : ((gl.take k).filter (fun x => decide (x.f = n))).length ≤ 14 := Nat.le_trans (List.length_filter_le _ _) (by simp; omega)
  have h3 := Nat.mul_le_mul_right 168 h2
  omega

def shZ (d : Int) (x : Lnk) : Lnk := ⟨x.f - d, x.t - d, 0, 0⟩
def shL (d : Int) (x : Lnk) : Lnk := ⟨x.f - d, x.t - d, x.lab, x.c⟩
def subG (sh : Lnk → Lnk) (d : Int) (gl : List Lnk) : List Lnk := (gl.filter (fun x => decide (d ≤ x.f))).map sh
theorem subG_succ {sh : Lnk → Lnk} {d : Int} {gl : List Lnk} {k : Nat} {x : Lnk} (hx : gl[k]? = some x) : subG sh d (gl.take (k + 1)) = subG sh d (gl.take k) ++ if d ≤ x.f then [sh x] else [] := by
  unfold subG
  rw [take_snoc_of hx, List.filter_append, List.map_append]
  congr 1
  by_cases h : d ≤ x.f <;> simp [h]
theorem subG_len {sh : Lnk → Lnk} {d : Int} (gl : List Lnk) : (subG sh d gl).length ≤ gl.length := by
  unfold subG; rw [List.length_map]; exact List.length_filter_le _ _
theorem nWays_sub {sh : Lnk → Lnk} {d N : Int} {gl : List Lnk} (h1 : ∀ x, (sh x).f = x.f - d) (h2 : ∀ x, (sh x).t = x.t - d) (hg : ∀ x ∈ gl, okL N x) : ∀ (F : Nat) (n : Int), d ≤ n → nWays (subG sh d gl) (N - d) F (n - d) = nWays gl N F n
  | 0, n, _ => rfl
  | F + 1, n, hn => by
    rw [nWays_out, nWays_out]
    by_cases he : n = N - 1
    · rw [if_pos he, if_pos (by omega)]
    · rw [if_neg he, if_neg (by omega), outOf_map' (fun x => nWays (subG sh d gl) (N - d) F x.t), outOf_map' (fun x => nWays gl N F x.t)]
      congr 1
      have e : (subG sh d gl).filter (fun x => decide (x.f = n - d)) = (gl.filter (fun x => decide (x.f = n))).map sh := by
        unfold subG
        rw [List.filter_map, List.filter_filter]
        congr 1
        refine List.filter_congr fun x _ => ?_
        rw [Bool.eq_iff_iff]
        simp only [Function.comp, h1, Bool.and_eq_true, decide_eq_true_eq]
        omega
      rw [e, List.map_map]
      refine List.map_congr_left fun x hx => ?_
      have hxf := of_decide_eq_true (List.mem_filter.1 hx).2
      have hxo := hg x (List.mem_filter.1 hx).1
      unfold okL at hxo
      simp only [Function.comp, h2]
      exact nWays_sub h1 h2 hg F x.t (by omega)
theorem subG_ok {sh : Lnk → Lnk} {d N : Int} {gl : List Lnk} (h1 : ∀ x, (sh x).f = x.f - d) (h2 : ∀ x, (sh x).t = x.t - d) (h3 : ∀ x, okL N x → 0 ≤ (sh x).lab ∧ (sh x).lab ≤ 1000000 ∧ 0 ≤ (sh x).c ∧ (sh x).c ≤ 1000000) (hg : ∀ x ∈ gl, okL N x) : ∀ x ∈ subG sh d gl, okL (N - d) x := by
  intro y hy
  obtain ⟨x, hx, rfl⟩ := List.mem_map.1 hy
  have hxf := of_decide_eq_true (List.mem_filter.1 hx).2
  have hxo := hg x (List.mem_filter.1 hx).1
  have h4 := h3 x hxo
  unfold okL at *
  rw [h1, h2]
  omega
theorem subG_valid {sh : Lnk → Lnk} {d N : Int} {gl : List Lnk} (h1 : ∀ x, (sh x).f = x.f - d) (h2 : ∀ x, (sh x).t = x.t - d) (h3 : ∀ x, okL N x → 0 ≤ (sh x).lab ∧ (sh x).lab ≤ 1000000 ∧ 0 ≤ (sh x).c ∧ (sh x).c ≤ 1000000) (hg : validG N gl) (h0 : 0 ≤ d) (hd : d < N) : validG (N - d) (subG sh d gl) := by
  obtain ⟨a1, a2, a3, a4⟩ := hg
  have := subG_len (sh := sh) (d := d) gl
  exact ⟨by omega, by omega, by omega, subG_ok h1 h2 h3 a4⟩
theorem shZ_ok {d N : Int} (x : Lnk) (_ : okL N x) : 0 ≤ (shZ d x).lab ∧ (shZ d x).lab ≤ 1000000 ∧ 0 ≤ (shZ d x).c ∧ (shZ d x).c ≤ 1000000 := by simp [shZ]
theorem shL_ok {d N : Int} (x : Lnk) (h : okL N x) : 0 ≤ (shL d x).lab ∧ (shL d x).lab ≤ 1000000 ∧ 0 ≤ (shL d x).c ∧ (shL d x).c ≤ 1000000 := by unfold okL at h; simp only [shL]; omega

/-! ### The links' numbers in the graph from a node on -/
def selF (d : Int) : Nat → List Lnk → List Int
  | _, [] => []
  | i, x :: r => if d ≤ x.f then (i : Int) :: selF d (i + 1) r else selF d (i + 1) r
def sel (d : Int) (gl : List Lnk) : List Int := selF d 0 gl
theorem selF_snoc (d : Int) (x : Lnk) : ∀ (gl : List Lnk) (i : Nat), selF d i (gl ++ [x]) = selF d i gl ++ if d ≤ x.f then [((i + gl.length : Nat) : Int)] else []
  | [], i => by simp [selF]
  | y :: r, i => by
    simp only [List.cons_append, selF, selF_snoc d x r (i + 1), List.length_cons]
    have : i + 1 + r.length = i + (r.length + 1) := by omega
    rw [this]
    split <;> simp
theorem sel_succ {d : Int} {gl : List Lnk} {k : Nat} {x : Lnk} (hx : gl[k]? = some x) : sel d (gl.take (k + 1)) = sel d (gl.take k) ++ if d ≤ x.f then [(k : Int)] else [] := by
  have hk := (List.getElem?_eq_some_iff.1 hx).1
  unfold sel
  rw [take_snoc_of hx, selF_snoc, Nat.zero_add, List.length_take, Nat.min_eq_left (by omega)]
theorem selF_map (d : Int) : ∀ (gl pre : List Lnk), (selF d pre.length gl).map (lnk (pre ++ gl)) = gl.filter (fun x => decide (d ≤ x.f))
  | [], pre => rfl
  | x :: r, pre => by
    have ih := selF_map d r (pre ++ [x])
    simp only [List.append_assoc, List.cons_append, List.nil_append, List.length_append, List.length_cons, List.length_nil, Nat.zero_add] at ih
    unfold selF
    by_cases h : d ≤ x.f
    · rw [if_pos h, List.map_cons, ih, List.filter_cons, if_pos (by simpa using h)]
      congr 1
      exact lnk_at (by simp)
    · rw [if_neg h, ih, List.filter_cons, if_neg (by simpa using h)]
theorem sel_map (d : Int) (gl : List Lnk) : (sel d gl).map (lnk gl) = gl.filter (fun x => decide (d ≤ x.f)) := selF_map d gl []
theorem sel_length (d : Int) (gl : List Lnk) : (sel d gl).length = (gl.filter (fun x => decide (d ≤ x.f))).length := by rw [← sel_map]; simp
theorem subG_length (sh : Lnk → Lnk) (d : Int) (gl : List Lnk) : (subG sh d gl).length = (sel d gl).length := by rw [sel_length, subG]; simp
theorem selF_ge (d : Int) : ∀ (gl : List Lnk) (i : Nat), ∀ j ∈ selF d i gl, (i : Int) ≤ j ∧ j < (i + gl.length : Nat)
  | [], i, j, h => by simp [selF] at h
  | x :: r, i, j, h => by
    unfold selF at h
    split at h
    · rcases List.mem_cons.1 h with rfl | h
      · simp; omega
      · have := selF_ge d r (i + 1) j h; simp only [List.length_cons]; omega
    · have := selF_ge d r (i + 1) j h; simp only [List.length_cons]; omega
theorem selF_sorted (d : Int) : ∀ (gl : List Lnk) (i : Nat), (selF d i gl).Pairwise (· < ·)
  | [], _ => List.Pairwise.nil
  | x :: r, i => by
    unfold selF
    split
    · refine List.pairwise_cons.2 ⟨fun j hj => ?_, selF_sorted d r (i + 1)⟩
      have := selF_ge d r (i + 1) j hj
      omega
    · exact selF_sorted d r (i + 1)
theorem sel_outFrom (sh : Lnk → Lnk) (d n : Int) (h1 : ∀ x, (sh x).f = x.f - d) (hn : d ≤ n) : ∀ (gl : List Lnk) (i : Nat) (pre : List Int), (outFrom pre.length (n - d) ((gl.filter (fun x => decide (d ≤ x.f))).map sh)).map (tv (pre ++ selF d i gl)) = outFrom i n gl
  | [], i, pre => rfl
  | x :: r, i, pre => by
    have e2 : outFrom i n (x :: r) = if x.f = n then (i : Int) :: outFrom (i + 1) n r else outFrom (i + 1) n r := rfl
    by_cases h : d ≤ x.f
    · have ih := sel_outFrom sh d n h1 hn r (i + 1) (pre ++ [(i : Int)])
      simp only [List.append_assoc, List.cons_append, List.nil_append, List.length_append, List.length_cons, List.length_nil, Nat.zero_add] at ih
      have e : selF d i (x :: r) = (i : Int) :: selF d (i + 1) r := by rw [selF, if_pos h]
      rw [e, List.filter_cons, if_pos (by simpa using h), List.map_cons]
      have e1 : ∀ L, outFrom pre.length (n - d) (sh x :: L) = if (sh x).f = n - d then (pre.length : Int) :: outFrom (pre.length + 1) (n - d) L else outFrom (pre.length + 1) (n - d) L := fun _ => rfl
      rw [e1, e2, h1]
      by_cases hx : x.f = n
      · rw [if_pos hx, if_pos (by omega), List.map_cons, ih]
        congr 1
        simp [tv]
      · rw [if_neg hx, if_neg (by omega), ih]
    · have ih := sel_outFrom sh d n h1 hn r (i + 1) pre
      have e : selF d i (x :: r) = selF d (i + 1) r := by rw [selF, if_neg h]
      rw [e, List.filter_cons, if_neg (by simpa using h), ih, e2, if_neg (by omega)]
theorem sel_out (sh : Lnk → Lnk) {d n : Int} (h1 : ∀ x, (sh x).f = x.f - d) (hn : d ≤ n) (gl : List Lnk) : (outOf (subG sh d gl) (n - d)).map (tv (sel d gl)) = outOf gl n := sel_outFrom sh d n h1 hn gl 0 []
theorem lnk_sub {sh : Lnk → Lnk} {d : Int} {gl : List Lnk} {k : Nat} (hk : k < (sel d gl).length) : lnk (subG sh d gl) (k : Int) = sh (lnk gl (tv (sel d gl) (k : Int))) := by
  have h1 := tv_at hk
  have h2 : ((sel d gl).map (lnk gl))[k]? = some (lnk gl (tv (sel d gl) (k : Int))) := by rw [List.getElem?_map, h1]; rfl
  rw [sel_map] at h2
  refine lnk_at ?_
  rw [subG, List.getElem?_map, h2]; rfl
def ren (t : List Int) (c : Cand) : Cand := ⟨c.links.map (tv t), c.cost⟩
theorem ways_sub {d N : Int} {gl : List Lnk} (hg : ∀ x ∈ gl, okL N x) : ∀ (F : Nat) (n : Int), d ≤ n → (waysG (subG (shL d) d gl) (N - d) F (n - d)).map (ren (sel d gl)) = waysG gl N F n
  | 0, n, _ => rfl
  | F + 1, n, hn => by
    rw [waysG_out, waysG_out]
    by_cases he : n = N - 1
    · rw [if_pos he, if_pos (by omega)]; rfl
    · rw [if_neg he, if_neg (by omega), ← sel_out (shL d) (fun x => rfl) hn gl, List.map_flatMap, List.flatMap_map]
      refine flatMap_congr' fun i hi => ?_
      obtain ⟨j, x, rfl, hx, hf, hl⟩ := outOf_mem hi
      have hj : j < (sel d gl).length := by rw [← subG_length (shL d)]; exact (List.getElem?_eq_some_iff.1 hx).1
      rw [lnk_sub hj]
      rw [lnk_sub hj] at hl
      generalize hy : tv (sel d gl) (j : Int) = y at *
      have hyo : y ∈ outOf gl n := by
        rw [← sel_out (shL d) (fun x => rfl) hn gl]
        exact List.mem_map.2 ⟨(j : Int), hi, hy⟩
      obtain ⟨jj, z, e1, e2, e3, e4⟩ := outOf_mem hyo
      have hzo := hg z (List.mem_of_getElem? e2)
      unfold okL at hzo
      rw [e4, List.map_map]
      have ih := ways_sub hg F z.t (d := d) (by omega)
      simp only [shL]
      rw [← ih, List.map_map]
      refine List.map_congr_left fun w _ => ?_
      simp only [Function.comp, ren, ext, List.map_cons, hy]
/-- Numbers of links, each below a bound. -/
theorem waysG_links {gl : List Lnk} {N : Int} : ∀ (F : Nat) (n : Int), ∀ w ∈ waysG gl N F n, ∀ i ∈ w.links, 0 ≤ i ∧ i < gl.length
  | 0, n, w, hw => by simp [waysG] at hw
  | F + 1, n, w, hw => by
    rw [waysG_out] at hw
    split at hw
    · simp at hw; subst hw; simp
    · obtain ⟨i, hi, hw⟩ := List.mem_flatMap.1 hw
      obtain ⟨u, hu, rfl⟩ := List.mem_map.1 hw
      obtain ⟨j, x, rfl, hx, hf, hl⟩ := outOf_mem hi
      have := (List.getElem?_eq_some_iff.1 hx).1
      intro k hk
      rcases List.mem_cons.1 hk with rfl | hk
      · omega
      · exact waysG_links F _ u hu k hk
theorem lexCmp_map {g : Int → Int} {M : Int} (hg : ∀ i j, 0 ≤ i → i < j → j < M → g i < g j) : ∀ a b : List Int, (∀ i ∈ a, 0 ≤ i ∧ i < M) → (∀ i ∈ b, 0 ≤ i ∧ i < M) → lexCmp (a.map g) (b.map g) = lexCmp a b
  | [], [], _, _ => rfl
  | [], _ :: _, _, _ => rfl
  | _ :: _, [], _, _ => rfl
  | x :: a, y :: b, ha, hb => by
    have hx := ha x (List.mem_cons_self ..)
    have hy := hb y (List.mem_cons_self ..)
    have ih := lexCmp_map hg a b (fun i hi => ha i (List.mem_cons_of_mem _ hi)) (fun i hi => hb i (List.mem_cons_of_mem _ hi))
    simp only [List.map_cons, lexCmp]
    rcases Int.lt_trichotomy x y with h | h | h
    · have := hg x y hx.1 h hy.2
      rw [if_pos h, if_pos this]
    · subst h
      simp [ih]
    · have := hg y x hy.1 h hx.2
      have n1 : ¬ x < y := by omega
      have n2 : ¬ g x < g y := by omega
      simp [n1, n2, h, this]
theorem tv_sorted {t : List Int} (h : t.Pairwise (· < ·)) : ∀ i j : Int, 0 ≤ i → i < j → j < t.length → tv t i < tv t j := by
  intro i j h0 h1 h2
  obtain ⟨a, rfl⟩ : ∃ a : Nat, i = (a : Int) := ⟨i.toNat, by omega⟩
  obtain ⟨b, rfl⟩ : ∃ b : Nat, j = (b : Int) := ⟨j.toNat, by omega⟩
  have := List.pairwise_iff_getElem.1 h a b (by omega) (by omega) (by omega)
  simp only [tv, Int.toNat_natCast]
  rw [List.getElem?_eq_getElem (by omega), List.getElem?_eq_getElem (by omega)]
  exact this
theorem srt_map_ren {t : List Int} (ht : t.Pairwise (· < ·)) {L : List Cand} (hl : ∀ w ∈ L, ∀ i ∈ w.links, 0 ≤ i ∧ i < (t.length : Int)) (h : Srt L) : Srt (L.map (ren t)) := by
  unfold Srt
  rw [List.pairwise_map]
  refine List.Pairwise.imp_of_mem ?_ h
  intro a b ha hb hab
  unfold candLt at *
  simp only [ren]
  rw [lexCmp_map (tv_sorted ht) b.links a.links (hl b hb) (hl a ha)]
  exact hab
theorem ordered_sub {d N : Int} {gl : List Lnk} (hg : ∀ x ∈ gl, okL N x) (F : Nat) (n : Int) (hn : d ≤ n) : (ordered (waysG (subG (shL d) d gl) (N - d) F (n - d))).map (ren (sel d gl)) = ordered (waysG gl N F n) := by
  refine srt_unique (srt_map_ren (selF_sorted d gl 0) ?_ (ordered_srt _)) (ordered_srt _) ?_
  · intro w hw i hi
    have := waysG_links F _ w ((ordered_perm _).mem_iff.1 hw) i hi
    have e := subG_length (shL d) d gl
    unfold sel at e
    rw [← e]; exact this
  · refine ((ordered_perm _).map _).trans ?_
    rw [ways_sub hg F n hn]
    exact (ordered_perm _).symm
end Go.Proofs.Ytjdhcblofkkibaa

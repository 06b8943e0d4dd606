/-
  The plain law of the search for the first ways. Conditions: the graph is valid, the table holds the least costs.
-/
import Derived.Test.YtjdhcblofkkibaaMHp
namespace Go.Proofs.Ytjdhcblofkkibaa

theorem flatMap_congr' {α β : Type} {f g : α → List β} : ∀ {l : List α}, (∀ a ∈ l, f a = g a) → l.flatMap f = l.flatMap g
  | [], _ => rfl
  | x :: l, h => by rw [List.flatMap_cons, List.flatMap_cons, h x (List.mem_cons_self ..), flatMap_congr' fun a ha => h a (List.mem_cons_of_mem _ ha)]
theorem outFrom_flat {β : Type} (g : Int → Lnk → List β) (n : Int) : ∀ (gl pre : List Lnk), (gl.zipIdx pre.length).flatMap (fun p => if p.1.f = n then g (p.2 : Nat) p.1 else []) = (outFrom pre.length n gl).flatMap (fun i => g i (lnk (pre ++ gl) i))
  | [], pre => rfl
  | x :: r, pre => by
    have ih := outFrom_flat g n r (pre ++ [x])
    simp only [List.append_assoc, List.cons_append, List.nil_append, List.length_append, List.length_cons, List.length_nil, Nat.zero_add] at ih
    have e : outFrom pre.length n (x :: r) = if x.f = n then (pre.length : Int) :: outFrom (pre.length + 1) n r else outFrom (pre.length + 1) n r := rfl
    rw [List.zipIdx_cons, List.flatMap_cons, ih, e]
    by_cases h : x.f = n
    · rw [if_pos h, if_pos h, List.flatMap_cons]
      congr 2
      exact (lnk_at (by simp)).symm
    · rw [if_neg h, if_neg h, List.nil_append]
theorem outOf_flat {β : Type} (g : Int → Lnk → List β) (n : Int) (gl : List Lnk) : gl.zipIdx.flatMap (fun p => if p.1.f = n then g (p.2 : Nat) p.1 else []) = (outOf gl n).flatMap (fun i => g i (lnk gl i)) := outFrom_flat g n gl []
theorem outOf_mem {gl : List Lnk} {n : Int} {i : Int} (h : i ∈ outOf gl n) : ∃ (j : Nat) (x : Lnk), i = (j : Int) ∧ gl[j]? = some x ∧ x.f = n ∧ lnk gl i = x := by
  obtain ⟨k, hk⟩ := List.getElem?_of_mem h
  obtain ⟨j, x, h1, h2, h3⟩ := outOf_at hk
  exact ⟨j, x, h1, h2, h3, by rw [h1]; exact lnk_at h2⟩

section
variable {gl : List Lnk} {N : Int}
theorem waysG_out (F : Nat) (n : Int) : waysG gl N (F + 1) n = if n = N - 1 then [⟨[], 0⟩] else (outOf gl n).flatMap fun i => (waysG gl N F (lnk gl i).t).map (ext i (lnk gl i).c) := by
  rw [waysG, ← outOf_flat (fun i x => (waysG gl N F x.t).map (ext i x.c))]
theorem waysG_fuel (hg : ∀ x ∈ gl, okL N x) : ∀ (F F' : Nat) (n : Int), n < N → N ≤ n + F → N ≤ n + F' → waysG gl N F n = waysG gl N F' n
  | 0, _, n, h, h1, _ => by omega
  | _, 0, n, h, _, h1 => by omega
  | F + 1, F' + 1, n, h, h1, h2 => by
    rw [waysG_out, waysG_out]
    split
    · rfl
    · refine flatMap_congr' fun i hi => ?_
      obtain ⟨j, x, _, hx, hf, hl⟩ := outOf_mem hi
      have := hg x (List.mem_of_getElem? hx)
      unfold okL at this
      rw [hl, waysG_fuel hg F F' x.t (by omega) (by omega) (by omega)]
theorem waysG_step (hg : ∀ x ∈ gl, okL N x) {F : Nat} {n : Int} (h : n < N) (hF : N ≤ n + F) (hn : n ≠ N - 1) : waysG gl N F n = (outOf gl n).flatMap fun i => (waysG gl N F (lnk gl i).t).map (ext i (lnk gl i).c) := by
  cases F with
  | zero => omega
  | succ F =>
    rw [waysG_out, if_neg hn]
    refine flatMap_congr' fun i hi => ?_
    obtain ⟨j, x, _, hx, hf, hl⟩ := outOf_mem hi
    have := hg x (List.mem_of_getElem? hx)
    unfold okL at this
    rw [hl, waysG_fuel hg F (F + 1) x.t (by omega) (by omega) (by omega)]
theorem waysG_end {F : Nat} (hF : 0 < F) : waysG gl N F (N - 1) = [⟨[], 0⟩] := by
  cases F with
  | zero => omega
  | succ F => rw [waysG_out, if_pos rfl]

def comp (gl : List Lnk) (N : Int) (F : Nat) (p : Part) : List Cand := (waysG gl N F p.at_).map fun w => ⟨p.links ++ w.links, p.cost + w.cost⟩
def child (gl : List Lnk) (t : List Int) (p : Part) (i : Int) : Part := ⟨p.links ++ [i], (lnk gl i).t, p.cost + (lnk gl i).c, p.cost + (lnk gl i).c + tv t (lnk gl i).t⟩
theorem comp_step (hg : ∀ x ∈ gl, okL N x) (t : List Int) {F : Nat} {p : Part} (h : p.at_ < N) (hF : N ≤ p.at_ + F) (hn : p.at_ ≠ N - 1) : comp gl N F p = (outOf gl p.at_).flatMap fun i => comp gl N F (child gl t p i) := by
  unfold comp
  rw [waysG_step hg h hF hn, List.map_flatMap]
  refine flatMap_congr' fun i _ => ?_
  rw [List.map_map]
  refine List.map_congr_left fun w _ => ?_
  simp only [Function.comp, ext, child, List.append_assoc, List.cons_append, List.nil_append]
  congr 1
  omega
theorem comp_end {F : Nat} {p : Part} (hF : 0 < F) (hn : p.at_ = N - 1) : comp gl N F p = [⟨p.links, p.cost⟩] := by
  unfold comp
  rw [hn, waysG_end hF]; simp

theorem foldL_le (t : List Int) (n : Int) : ∀ (gl : List Lnk) (a : Int), gl.foldl (fun a x => if x.f = n then stepL t a x else a) a ≤ a
  | [], a => Int.le_refl _
  | x :: r, a => by
    rw [List.foldl_cons]
    refine Int.le_trans (foldL_le t n r _) ?_
    split
    · unfold stepL; split
      · split <;> omega
      · omega
    · omega
theorem foldL_mem (t : List Int) (n : Int) {x : Lnk} (hf : x.f = n) (ht : tv t x.t < farI) : ∀ (gl : List Lnk) (a : Int), x ∈ gl → gl.foldl (fun a x => if x.f = n then stepL t a x else a) a ≤ tv t x.t + x.c
  | [], a, h => by simp at h
  | y :: r, a, h => by
    rw [List.foldl_cons]
    rcases List.mem_cons.1 h with rfl | h
    · refine Int.le_trans (foldL_le t n r _) ?_
      rw [if_pos hf]
      unfold stepL
      rw [if_pos (show tv t x.t < 1152921504606846976 from ht)]
      split <;> omega
    · exact foldL_mem t n hf ht r _ h
theorem least_lb {M : Nat} {t : List Int} (hg : ∀ x ∈ gl, okL (M : Int) x) (ht : IsLeast M gl 0 t) : ∀ (F : Nat) (n : Int), F ≤ 4000 → 0 ≤ n → n < M → ∀ w ∈ waysG gl M F n, tv t n ≤ w.cost
  | 0, n, _, _, _, w, hw => by simp [waysG] at hw
  | F + 1, n, hF, h0, h1, w, hw => by
    rw [waysG_out] at hw
    split at hw
    · rename_i hn
      simp at hw; subst hw
      rw [hn, ht.2.2.2]; exact Int.le_refl _
    · rename_i hn
      obtain ⟨i, hi, hw⟩ := List.mem_flatMap.1 hw
      obtain ⟨u, hu, rfl⟩ := List.mem_map.1 hw
      obtain ⟨j, x, _, hx, hf, hl⟩ := outOf_mem hi
      rw [hl] at hu ⊢
      have hxm := List.mem_of_getElem? hx
      have hxo := hg x hxm
      unfold okL at hxo
      have hub := waysG_bound hg F _ u hu
      have hlb := least_lb hg ht F x.t (by omega) (by omega) (by omega) u hu
      obtain ⟨m, rfl⟩ : ∃ m : Nat, n = (m : Int) := ⟨n.toNat, by omega⟩
      rw [ht.2.2.1 m (Nat.zero_le _) (by omega), leastT]
      have := foldL_mem t (m : Int) hf (by unfold farI; omega) gl farI hxm
      simp only [ext]
      omega

def Good (_gl : List Lnk) (N : Int) (t : List Int) (p : Part) : Prop :=
  0 ≤ p.at_ ∧ p.at_ < N ∧ p.whole = p.cost + tv t p.at_ ∧ tv t p.at_ < farI ∧ 0 ≤ p.cost ∧ p.cost ≤ p.at_ * 1000000 ∧ (p.links.length : Int) ≤ p.at_
theorem lexCmp_prefix : ∀ a b : List Int, lexCmp a (a ++ b) ≤ 0
  | [], [] => by simp [lexCmp]
  | [], _ :: _ => by simp [lexCmp]
  | x :: a, b => by simp [lexCmp]; exact lexCmp_prefix a b
theorem comp_lb {M F : Nat} {t : List Int} (hg : ∀ x ∈ gl, okL (M : Int) x) (ht : IsLeast M gl 0 t) (hF : F ≤ 4000) {p : Part} (hp : Good gl M t p) : ∀ c ∈ comp gl M F p, p.whole ≤ c.cost ∧ lexCmp p.links c.links ≤ 0 := by
  intro c hc
  obtain ⟨w, hw, rfl⟩ := List.mem_map.1 hc
  have := least_lb hg ht F p.at_ hF hp.1 hp.2.1 w hw
  refine ⟨?_, lexCmp_prefix _ _⟩
  rw [hp.2.2.1]; simp only; omega
theorem child_good {M : Nat} {t : List Int} (hg : ∀ x ∈ gl, okL (M : Int) x) {p : Part} (hp : Good gl M t p) {i : Int} (hi : i ∈ outOf gl p.at_) (hf : tv t (lnk gl i).t < farI) : Good gl M t (child gl t p i) := by
  obtain ⟨j, x, _, hx, hxf, hl⟩ := outOf_mem hi
  have hxo := hg x (List.mem_of_getElem? hx)
  unfold okL at hxo
  unfold Good at *
  simp only [child, hl, List.length_append, List.length_cons, List.length_nil] at *
  refine ⟨by omega, by omega, trivial, hf, by omega, by omega, by omega⟩
theorem comp_far {M F : Nat} {t : List Int} (hg : ∀ x ∈ gl, okL (M : Int) x) (ht : IsLeast M gl 0 t) (hF : F ≤ 4000) {p : Part} (h0 : 0 ≤ p.at_) (h1 : p.at_ < M) (hp : tv t p.at_ = farI) : comp gl M F p = [] := by
  unfold comp
  rw [List.map_eq_nil_iff]
  refine List.eq_nil_iff_forall_not_mem.2 fun w hw => ?_
  have h2 := least_lb hg ht F p.at_ hF h0 h1 w hw
  have h3 := waysG_bound hg F _ w hw
  rw [hp, farI] at h2
  omega

/-! ### The order of candidates -/
theorem candLt_asymm {a b : Cand} (h : candLt a b) : ¬ candLt b a := by
  unfold candLt at *
  have := lexCmp_neg a.links b.links
  omega
theorem candLt_neg {x y z : Cand} (h1 : ¬ candLt x y) (h2 : ¬ candLt y z) : ¬ candLt x z := by
  unfold candLt at *
  have e1 := lexCmp_neg x.links y.links
  have e2 := lexCmp_neg y.links z.links
  have e3 := lexCmp_neg x.links z.links
  have e4 := lexCmp_trans z.links y.links x.links
  by_cases c1 : lexCmp z.links y.links ≤ 0
  · by_cases c2 : lexCmp y.links x.links ≤ 0
    · have := e4 c1 c2; omega
    · omega
  · omega
theorem candLt_tri {a b : Cand} (h1 : ¬ candLt a b) (h2 : ¬ candLt b a) : a = b := by
  unfold candLt at *
  have := lexCmp_neg a.links b.links
  have h3 : a.cost = b.cost := by omega
  have h4 : lexCmp a.links b.links = 0 := by omega
  have h5 := lexCmp_eq _ _ h4
  cases a; cases b; simp_all
def Srt (l : List Cand) : Prop := l.Pairwise fun a b => ¬ candLt b a
theorem insC_perm (x : Cand) (L : List Cand) : (insC x L).Perm (x :: L) := by
  unfold insC
  refine List.perm_middle.trans ?_
  rw [List.takeWhile_append_dropWhile]
theorem insC_srt {x : Cand} : ∀ {L : List Cand}, Srt L → Srt (insC x L)
  | [], _ => by simp [insC, Srt]
  | y :: L, h => by
    obtain ⟨h1, h2⟩ := List.pairwise_cons.1 h
    by_cases hy : candLt y x
    · have e : insC x (y :: L) = y :: insC x L := by simp [insC, hy]
      rw [e]
      refine List.pairwise_cons.2 ⟨fun z hz => ?_, insC_srt h2⟩
      rcases List.mem_cons.1 ((insC_perm x L).mem_iff.1 hz) with rfl | hz
      · exact candLt_asymm hy
      · exact h1 z hz
    · have e : insC x (y :: L) = x :: y :: L := by simp [insC, hy]
      rw [e]
      refine List.pairwise_cons.2 ⟨fun z hz => ?_, h⟩
      rcases List.mem_cons.1 hz with rfl | hz
      · exact hy
      · exact candLt_neg (h1 z hz) hy
theorem ordered_snoc (xs : List Cand) (x : Cand) : ordered (xs ++ [x]) = insC x (ordered xs) := by simp [ordered]
theorem ordered_go : ∀ (xs L : List Cand), Srt L → Srt (xs.foldl (fun L x => insC x L) L) ∧ (xs.foldl (fun L x => insC x L) L).Perm (xs ++ L)
  | [], L, h => ⟨h, List.Perm.refl _⟩
  | x :: xs, L, h => by
    obtain ⟨h1, h2⟩ := ordered_go xs (insC x L) (insC_srt h)
    refine ⟨h1, h2.trans ?_⟩
    exact (List.Perm.append_left xs (insC_perm x L)).trans List.perm_middle
theorem ordered_srt (xs : List Cand) : Srt (ordered xs) := (ordered_go xs [] List.Pairwise.nil).1
theorem ordered_perm (xs : List Cand) : (ordered xs).Perm xs := by simpa [ordered] using (ordered_go xs [] List.Pairwise.nil).2
theorem srt_unique {a b : List Cand} (ha : Srt a) (hb : Srt b) (h : a.Perm b) : a = b :=
  List.Perm.eq_of_pairwise (le := fun a b => ¬ candLt b a) (fun _ _ _ _ h1 h2 => candLt_tri h2 h1) ha hb h

/-! ### The search -/
def SearchI (gl : List Lnk) (N : Int) (F : Nat) (t : List Int) (h : List Part) (l : List Cand) : Prop :=
  (∀ p ∈ h, Good gl N t p) ∧ (l ++ h.flatMap (comp gl N F)).Perm (waysG gl N F 0) ∧ Srt l ∧ ∀ a ∈ l, ∀ c ∈ h.flatMap (comp gl N F), ¬ candLt c a
variable {F : Nat} {t : List Int} {h h' h2 : List Part} {l : List Cand} {p : Part}
theorem SearchI.congr (hs : SearchI gl N F t h l) (hg : ∀ p ∈ h2, Good gl N t p) (hp : (h2.flatMap (comp gl N F)).Perm (h.flatMap (comp gl N F))) : SearchI gl N F t h2 l :=
  ⟨hg, (List.Perm.append_left l hp).trans hs.2.1, hs.2.2.1, fun a ha c hc => hs.2.2.2 a ha c (hp.mem_iff.1 hc)⟩
theorem SearchI.found {M : Nat} (hg : ∀ x ∈ gl, okL (M : Int) x) (ht : IsLeast M gl 0 t) (hF : F ≤ 4000) (hF0 : 0 < F) (hs : SearchI gl M F t h l) (hp : h.Perm (p :: h')) (hmin : ∀ q ∈ h', ¬ partLt q p) (he : p.at_ = M - 1) : SearchI gl M F t h' (l ++ [⟨p.links, p.cost⟩]) := by
  have hs := SearchI.congr (h2 := p :: h') hs (fun q hq => hs.1 q (hp.mem_iff.2 hq)) (hp.symm.flatMap_right _)
  obtain ⟨h1, h2, h3, h4⟩ := hs
  have hc := comp_end (gl := gl) (N := M) (F := F) hF0 he
  have hpg := h1 p (List.mem_cons_self ..)
  have hpw : p.whole = p.cost := by rw [hpg.2.2.1, he, ht.2.2.2]; omega
  refine ⟨fun q hq => h1 q (List.mem_cons_of_mem _ hq), ?_, ?_, ?_⟩
  · rw [List.flatMap_cons, hc] at h2
    simpa using h2
  · refine List.pairwise_append.2 ⟨h3, List.pairwise_singleton .., fun a ha b hb => ?_⟩
    rw [List.mem_singleton] at hb; subst hb
    exact h4 a ha _ (by rw [List.flatMap_cons, hc]; simp)
  · intro a ha c hc'
    rcases List.mem_append.1 ha with ha | ha
    · exact h4 a ha c (by rw [List.flatMap_cons]; exact List.mem_append_right _ hc')
    · rw [List.mem_singleton] at ha; subst ha
      obtain ⟨q, hq, hcq⟩ := List.mem_flatMap.1 hc'
      have hqg := h1 q (List.mem_cons_of_mem _ hq)
      obtain ⟨b1, b2⟩ := comp_lb hg ht hF hqg c hcq
      have hm := hmin q hq
      unfold partLt at hm
      unfold candLt
      simp only
      have e1 := lexCmp_neg q.links p.links
      have e2 := lexCmp_neg c.links p.links
      have e3 := lexCmp_trans p.links q.links c.links
      by_cases c1 : lexCmp p.links q.links ≤ 0
      · have := e3 c1 b2; omega
      · omega
theorem SearchI.done (hs : SearchI gl N F t h l) {k : Nat} (hk : l.length ≤ k) (he : h = [] ∨ k ≤ l.length) : l = (ordered (waysG gl N F 0)).take k := by
  obtain ⟨_, h2, h3, h4⟩ := hs
  have hr : Srt (l ++ ordered (h.flatMap (comp gl N F))) := List.pairwise_append.2 ⟨h3, ordered_srt _, fun a ha b hb => h4 a ha b ((ordered_perm _).mem_iff.1 hb)⟩
  have e := srt_unique hr (ordered_srt (waysG gl N F 0)) ((List.Perm.append_left l (ordered_perm _)).trans (h2.trans (ordered_perm _).symm))
  rw [← e]
  rcases he with rfl | he
  · simp [ordered]; rw [List.take_of_length_le hk]
  · rw [List.take_append_of_le_length he, List.take_of_length_le hk]

/-! ### The size of the search -/
def treeT (gl : List Lnk) : Nat → Int → Nat
  | 0, _ => 1
  | F + 1, n => 1 + ((outOf gl n).map fun i => treeT gl F (lnk gl i).t).sum
theorem outOf_nil (hg : ∀ x ∈ gl, okL N x) {n : Int} (hn : N ≤ n) : outOf gl n = [] := by
  refine List.eq_nil_iff_forall_not_mem.2 fun i hi => ?_
  obtain ⟨j, x, _, hx, hf, hl⟩ := outOf_mem hi
  have := hg x (List.mem_of_getElem? hx)
  unfold okL at this
  omega
theorem treeT_far (hg : ∀ x ∈ gl, okL N x) (F : Nat) {n : Int} (hn : N ≤ n) : treeT gl F n = 1 := by
  cases F with
  | zero => rfl
  | succ F => simp [treeT, outOf_nil hg hn]
theorem treeT_fuel (hg : ∀ x ∈ gl, okL N x) : ∀ (F F' : Nat) (n : Int), N ≤ n + F → N ≤ n + F' → treeT gl F n = treeT gl F' n
  | 0, F', n, h1, _ => by rw [treeT_far hg F' (by omega)]; rfl
  | F + 1, 0, n, _, h1 => by rw [treeT_far hg (F + 1) (by omega)]; rfl
  | F + 1, F' + 1, n, h1, h2 => by
    unfold treeT
    congr 2
    refine List.map_congr_left fun i hi => ?_
    obtain ⟨j, x, _, hx, hf, hl⟩ := outOf_mem hi
    have := hg x (List.mem_of_getElem? hx)
    unfold okL at this
    rw [hl, treeT_fuel hg F F' x.t (by omega) (by omega)]
theorem treeT_step (hg : ∀ x ∈ gl, okL N x) {n : Int} (hn : N ≤ n + F) (h0 : n < N) : treeT gl F n = 1 + ((outOf gl n).map fun i => treeT gl F (lnk gl i).t).sum := by
  cases F with
  | zero => omega
  | succ F =>
    rw [treeT]
    congr 2
    refine List.map_congr_left fun i hi => ?_
    obtain ⟨j, x, _, hx, hf, hl⟩ := outOf_mem hi
    have := hg x (List.mem_of_getElem? hx)
    unfold okL at this
    rw [hl, treeT_fuel hg F (F + 1) x.t (by omega) (by omega)]
theorem treeT_pos (F : Nat) (n : Int) : 1 ≤ treeT gl F n := by cases F <;> simp [treeT]
def mu (gl : List Lnk) (F : Nat) (h : List Part) : Nat := (h.map fun p => treeT gl F p.at_).sum
theorem mu_perm (hp : h.Perm h2) : mu gl F h = mu gl F h2 := List.Perm.sum_nat (hp.map _)
theorem mu_len : ∀ h : List Part, h.length ≤ mu gl F h
  | [] => Nat.zero_le _
  | p :: h => by
    have := mu_len h
    have h2 := treeT_pos (gl := gl) F p.at_
    simp only [mu, List.map_cons, List.sum_cons, List.length_cons] at *
    omega
theorem mu_append (a b : List Part) : mu gl F (a ++ b) = mu gl F a + mu gl F b := by simp [mu, List.sum_append]
theorem mu_cons (p : Part) (b : List Part) : mu gl F (p :: b) = treeT gl F p.at_ + mu gl F b := by simp [mu]
/-- Behind some of the children of a part. -/
def MidI (gl : List Lnk) (N : Int) (F : Nat) (t : List Int) (p : Part) (h' : List Part) (k : Nat) (h : List Part) : Prop :=
  (∀ q ∈ h, Good gl N t q) ∧ (h.flatMap (comp gl N F)).Perm (h'.flatMap (comp gl N F) ++ ((outOf gl p.at_).take k).flatMap fun i => comp gl N F (child gl t p i)) ∧
    mu gl F h ≤ mu gl F h' + (((outOf gl p.at_).take k).map fun i => treeT gl F (lnk gl i).t).sum
theorem MidI.start (hg : ∀ q ∈ h', Good gl N t q) : MidI gl N F t p h' 0 h' := ⟨hg, by simp, by simp⟩
theorem MidI.skip {k : Nat} {i : Int} (hm : MidI gl N F t p h' k h) (hi : (outOf gl p.at_)[k]? = some i) (he : comp gl N F (child gl t p i) = []) : MidI gl N F t p h' (k + 1) h := by
  obtain ⟨h1, h2, h3⟩ := hm
  refine ⟨h1, ?_, ?_⟩
  · rw [take_snoc_of hi, List.flatMap_append, List.flatMap_singleton, he, List.append_nil]; exact h2
  · rw [take_snoc_of hi, List.map_append, List.sum_append]; omega
theorem MidI.push {k : Nat} {i : Int} (hm : MidI gl N F t p h' k h) (hi : (outOf gl p.at_)[k]? = some i) (hg : Good gl N t (child gl t p i)) (hp : h2.Perm (h ++ [child gl t p i])) : MidI gl N F t p h' (k + 1) h2 := by
  obtain ⟨h1, h3, h4⟩ := hm
  refine ⟨fun q hq => ?_, ?_, ?_⟩
  · rcases List.mem_append.1 (hp.mem_iff.1 hq) with hq | hq
    · exact h1 q hq
    · rw [List.mem_singleton] at hq; subst hq; exact hg
  · refine (hp.flatMap_right _).trans ?_
    rw [List.flatMap_append, List.flatMap_singleton, take_snoc_of hi, List.flatMap_append, List.flatMap_singleton, ← List.append_assoc]
    exact List.Perm.append_right _ h3
  · rw [mu_perm hp, mu_append, take_snoc_of hi, List.map_append, List.sum_append]
    simp only [mu, child, List.map_cons, List.map_nil, List.sum_cons, List.sum_nil] at *
    omega
theorem MidI.close {k : Nat} (hgl : ∀ x ∈ gl, okL N x) (hm : MidI gl N F t p h' k h2) (hk : (outOf gl p.at_).length ≤ k) (hs : SearchI gl N F t h l) (hp : h.Perm (p :: h')) (hN : p.at_ < N) (hF : N ≤ p.at_ + F) (hn : p.at_ ≠ N - 1) : SearchI gl N F t h2 l ∧ mu gl F h2 < mu gl F h := by
  obtain ⟨h1, h3, h4⟩ := hm
  rw [List.take_of_length_le hk] at h3 h4
  refine ⟨hs.congr h1 (h3.trans ?_), ?_⟩
  · refine List.Perm.trans ?_ (hp.symm.flatMap_right _)
    rw [List.flatMap_cons, comp_step hgl t hN hF hn]
    exact List.perm_append_comm
  · rw [mu_perm hp, mu_cons, treeT_step hgl hF hN]
    omega
end
end Go.Proofs.Ytjdhcblofkkibaa

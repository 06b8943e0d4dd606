/-
  The plain law of the check: a candidate is accepted exactly if it is the next one. Conditions: the graph is valid, the potentials are right.
-/
import Derived.Test.YtjdhcblofkkibaaPj
namespace Go.Proofs.Ytjdhcblofkkibaa

section
variable {gl : List Lnk} {N : Nat} {h : List Int}

theorem runY_ok (x : Cand) : ∀ (L : List (Int × List Int)) (s : Int), (runY (stepC x) L s).1 = true ↔ ∀ y ∈ L, laterR x y = true
  | [], s => by simp [runY]
  | y :: L, s => by
    rw [runY]
    cases e : stepC x s y with
    | mk b s' =>
      have hb : b = laterR x y := by have := congrArg Prod.fst e; simpa [stepC] using this.symm
      cases b with
      | true => simp only [runY_ok x L s', List.mem_cons, forall_eq_or_imp, ← hb, true_and]
      | false => simp [← hb]
theorem runY_from (x : Cand) : ∀ (L : List (Int × List Int)) (s : Int), (runY (stepC x) L s).1 = true → (runY (stepC x) L s).2 = s ∨ ∃ y ∈ L, y.2 <+: x.links ∧ (runY (stepC x) L s).2 = (y.2.length : Int)
  | [], s, _ => .inl rfl
  | y :: L, s, hk => by
    rw [runY] at hk ⊢
    cases e : stepC x s y with
    | mk b s' =>
      rw [e] at hk
      cases b with
      | false => cases hk
      | true =>
        simp only at hk ⊢
        have hs : s' = if y.2 = x.links.take (min y.2.length x.links.length) then (y.2.length : Int) else s := by have := congrArg Prod.snd e; simpa [stepC] using this.symm
        rcases runY_from x L s' hk with h1 | ⟨z, hz, h1⟩
        · rw [h1, hs]
          split
          · rename_i hc
            exact .inr ⟨y, List.mem_cons_self .., by rw [hc]; exact List.take_prefix .., rfl⟩
          · exact .inl rfl
        · exact .inr ⟨z, List.mem_cons_of_mem _ hz, h1⟩
theorem runY_some (x : Cand) : ∀ (L : List (Int × List Int)) (s : Int), (runY (stepC x) L s).1 = true → (∃ y ∈ L, y.2 <+: x.links) → (runY (stepC x) L s).2 ≠ -1
  | [], s, _, h => by obtain ⟨y, hy, _⟩ := h; simp at hy
  | y :: L, s, hk, hex => by
    rw [runY] at hk ⊢
    cases e : stepC x s y with
    | mk b s' =>
      rw [e] at hk
      cases b with
      | false => cases hk
      | true =>
        simp only at hk ⊢
        have hs : s' = if y.2 = x.links.take (min y.2.length x.links.length) then (y.2.length : Int) else s := by have := congrArg Prod.snd e; simpa [stepC] using this.symm
        by_cases hL : ∃ z ∈ L, z.2 <+: x.links
        · exact runY_some x L s' hk hL
        · have hy : y.2 <+: x.links := by
            obtain ⟨z, hz, hzp⟩ := hex
            rcases List.mem_cons.1 hz with rfl | hz
            · exact hzp
            · exact absurd ⟨z, hz, hzp⟩ hL
          have hc : y.2 = x.links.take (min y.2.length x.links.length) := by
            rw [Nat.min_eq_left hy.length_le]; exact List.prefix_iff_eq_take.1 hy
          rw [if_pos hc] at hs
          rcases runY_from x L s' hk with h1 | ⟨z, hz, hzp, _⟩
          · rw [h1, hs]; omega
          · exact absurd ⟨z, hz, hzp⟩ hL

/-! ### The first difference -/
theorem first_diff : ∀ (u v : List Int), ¬ u <+: v → ¬ v <+: u → ∃ q a b u' v', u = q ++ a :: u' ∧ v = q ++ b :: v' ∧ a ≠ b
  | [], v, h, _ => absurd List.nil_prefix h
  | a :: u, [], _, h => absurd List.nil_prefix h
  | a :: u, b :: v, h1, h2 => by
    by_cases e : a = b
    · subst e
      obtain ⟨q, a', b', u', v', e1, e2, e3⟩ := first_diff u v (fun h => h1 (by simpa using h)) (fun h => h2 (by simpa using h))
      exact ⟨a :: q, a', b', u', v', by simp [e1], by simp [e2], e3⟩
    · exact ⟨[], a, b, u, v, rfl, rfl, e⟩
theorem lexCmp_same (q : List Int) : ∀ s t : List Int, lexCmp (q ++ s) (q ++ t) = lexCmp s t := by
  induction q with
  | nil => intro s t; rfl
  | cons a q ih => intro s t; simp [lexCmp, ih]
theorem lexCmp_diff (q : List Int) {a b : Int} (s t : List Int) : lexCmp (q ++ a :: s) (q ++ b :: t) = if a < b then -1 else if b < a then 1 else lexCmp s t := by
  rw [lexCmp_same]; rfl
theorem lexCmp_take : ∀ (u v : List Int) (k : Nat), 0 ≤ lexCmp u v → 0 ≤ lexCmp (u.take k) (v.take k)
  | _, _, 0, _ => by simp [lexCmp]
  | [], [], k + 1, _ => by simp [lexCmp]
  | [], _ :: _, k + 1, h => by simp [lexCmp] at h
  | _ :: _, [], k + 1, _ => by simp [lexCmp]
  | a :: u, b :: v, k + 1, h => by
    simp only [List.take_succ_cons, lexCmp] at *
    split
    · rename_i h1; rw [if_pos h1] at h; exact h
    · rename_i h1
      rw [if_neg h1] at h
      split
      · omega
      · rename_i h2
        rw [if_neg h2] at h
        exact lexCmp_take u v k h
theorem lexCmp_self (u : List Int) : lexCmp u u = 0 := by have := lexCmp_neg u u; omega

/-! ### leads -/
def sumC (gl : List Lnk) (r : List Int) : Int := (r.map fun i => (lnk gl i).c).sum
theorem leadsR_iff {xc fr : Int} : ∀ (r : List Int) (k : Nat) (cost : Int), leadsR gl h xc fr k cost r = true ↔ ∀ (m : Nat) (i : Int), r[m]? = some i → fr ≤ ((k + m : Nat) : Int) → ∀ j ∈ outOf gl (lnk gl i).f, soon gl h xc i (cost + sumC gl (r.take m)) j = false
  | [], k, cost => by simp [leadsR]
  | i :: r, k, cost => by
    rw [leadsR]
    split
    · rename_i hc
      obtain ⟨h1, h2⟩ := hc
      obtain ⟨j, hj, hs⟩ := List.any_eq_true.1 h2
      constructor
      · intro h; cases h
      · intro h3
        have := h3 0 i rfl (by simpa using h1) j hj
        simp [sumC] at this
        rw [this] at hs; cases hs
    · rename_i hc
      rw [leadsR_iff r (k + 1) _]
      constructor
      · intro h3 m i' hi' hfr j hj
        cases m with
        | zero =>
          simp at hi'; subst hi'
          simp only [List.take_zero, sumC, List.map_nil, List.sum_nil, Int.add_zero]
          cases e : soon gl h xc i cost j with
          | false => rfl
          | true => exact absurd ⟨by simpa using hfr, List.any_eq_true.2 ⟨j, hj, e⟩⟩ hc
        | succ m =>
          have := h3 m i' (by simpa using hi') (by have : k + 1 + m = k + (m + 1) := by omega
                                                   rw [this]; exact hfr) j hj
          simp only [sumC, List.take_succ_cons, List.map_cons, List.sum_cons] at this ⊢
          rwa [Int.add_assoc] at this
      · intro h3 m i' hi' hfr j hj
        have := h3 (m + 1) i' (by simpa using hi') (by have : k + (m + 1) = k + 1 + m := by omega
                                                       rw [this]; exact hfr) j hj
        simp only [sumC, List.take_succ_cons, List.map_cons, List.sum_cons] at this ⊢
        rwa [Int.add_assoc]
theorem costGo_sum : ∀ (r : List Int) (n s m e : Int), costGo gl n s r = some (m, e) → e = s + sumC gl r
  | [], n, s, m, e, h => by simp [costGo] at h; simp [sumC, h.2]
  | i :: r, n, s, m, e, h => by
    obtain ⟨_, _, h2⟩ := costGo_step' h
    have := costGo_sum r _ _ _ _ h2
    simp only [sumC, List.map_cons, List.sum_cons] at this ⊢
    omega

/-! ### A candidate is accepted exactly if it is the next one -/
theorem left_unique {known : List Cand} {x : Cand} (hN1 : ∀ p i r, x.links = p ++ i :: r → ∀ y, y = ([] : List Int) → True) {b b' : List Int} (hb : b <+: x.links) (hb' : b' <+: x.links)
    (h1 : ∀ z ∈ known, ¬ b <+: z.links) (h2 : ∀ q, q <+: b' → q ≠ b' → hasK known q = true) (hne : b <+: b') (h0 : b ≠ []) : b = b' := by
  by_cases e : b = b'
  · exact e
  · have := h2 b hne e
    simp only [hasK, decide_eq_true_eq] at this
    rcases this with h | ⟨z, hz, hp⟩
    · exact absurd h h0
    · exact absurd hp (h1 z hz)

/-- The next candidate: a way that is not known, before all others that are not. -/
def IsNext (gl : List Lnk) (N : Nat) (known : List Cand) (x : Cand) : Prop := x ∈ waysG gl N N 0 ∧ x ∉ known ∧ ∀ w ∈ waysG gl N N 0, w ∉ known → w = x ∨ candLt x w

theorem mid_go {w : Cand} (hw : w ∈ waysG gl N N 0) {q : List Int} {i : Int} {r : List Int} (e : w.links = q ++ i :: r) :
    ∃ n, costGo gl 0 0 q = some (n, sumC gl q) ∧ i ∈ outOf gl n ∧ (lnk gl i).f = n ∧ costGo gl (lnk gl i).t (sumC gl q + (lnk gl i).c) r = some ((N : Int) - 1, w.cost) := by
  have hgo := ways_go hw
  rw [e, costGo_append] at hgo
  cases hq : costGo gl 0 0 q with
  | none => rw [hq] at hgo; cases hgo
  | some p =>
    obtain ⟨n, c⟩ := p
    rw [hq] at hgo
    simp only at hgo
    have hc := costGo_sum q _ _ _ _ hq
    rw [Int.zero_add] at hc
    subst hc
    obtain ⟨a, b, c⟩ := costGo_step' hgo
    exact ⟨n, rfl, a, b, c⟩

theorem acc_next (hg : ∀ x ∈ gl, okL (N : Int) x) (hN : 0 < N) (hp : IsPot N gl 0 h) {known : List Cand} (hk : ∀ x ∈ known, x ∈ waysG gl N N 0) {x : Cand} (hx : x ∈ waysG gl N N 0) (hacc : accR gl h N known x) : IsNext gl N known x := by
  obtain ⟨_, ha, hf, hl⟩ := hacc
  have hlat := (runY_ok x _ _).1 ha
  generalize hfr : (runY (stepC x) (leftL gl h N known) (-1)).2 = fr at hf hl
  obtain ⟨y, hy, hyp, hyl⟩ : ∃ y ∈ leftL gl h N known, y.2 <+: x.links ∧ fr = (y.2.length : Int) := by
    rcases runY_from x _ _ ha with h1 | ⟨y, hy, hyp, hyl⟩
    · rw [hfr] at h1; exact absurd h1 hf
    · exact ⟨y, hy, hyp, by rw [← hfr, hyl]⟩
  obtain ⟨_, hyk, hyq⟩ := left_sound hg hN hp hk hy
  refine ⟨hx, fun hxk => hyk x hxk hyp, fun w hw hwk => ?_⟩
  by_cases hwx : w = x
  · exact .inl hwx
  refine .inr ?_
  have n1 : ¬ x.links <+: w.links := fun h => hwx (ways_prefix hg hx hw h).symm
  have n2 : ¬ w.links <+: x.links := fun h => hwx (ways_prefix hg hw hx h)
  obtain ⟨z, hz, hzp, hzc⟩ := left_complete hg hN hp hk hw hwk
  obtain ⟨_, hzk, hzq⟩ := left_sound hg hN hp hk hz
  have hzl := hlat z hz
  by_cases hzx : z.2 <+: x.links
  · -- the same beginning
    have hlen : y.2.length ≤ z.2.length := by
      by_cases hle : y.2.length ≤ z.2.length
      · exact hle
      · have hpre : z.2 <+: y.2 := List.prefix_of_prefix_length_le hzx hyp (by omega)
        have hne : z.2 ≠ y.2 := fun e => hle (by rw [e]; exact Nat.le_refl _)
        have hh := hyq z.2 hpre hne
        simp only [hasK, decide_eq_true_eq] at hh
        rcases hh with h0 | ⟨u, hu, hup⟩
        · -- a beginning without links: the graph has one node
          exfalso
          obtain ⟨⟨u, hu, hup, huc⟩, _, _⟩ := left_sound hg hN hp hk hz
          have hy0 : y.2 ≠ [] := fun e => hne (by rw [h0, e])
          have hh2 := hyq [] List.nil_prefix (Ne.symm hy0)
          have hz0 : ∀ (fu : Nat) (p : List Int) (n c : Int), p ≠ [] → ∀ v ∈ visitL gl h N (hasK known) (whK known) fu p n c, v.2 ≠ [] := by
            intro fu
            induction fu with
            | zero => intro p n c _ v hv; simp [visitL] at hv
            | succ fu ih =>
              intro p n c hp0 v hv
              rw [visitL] at hv
              rcases List.mem_append.1 hv with hv | hv
              · obtain ⟨i, _, hv⟩ := List.mem_flatMap.1 hv
                split at hv
                · exact ih _ _ _ (by simp) v hv
                · split at hv
                  · simp at hv
                  · simp at hv; subst hv; simp
              · split at hv
                · simp at hv; subst hv; exact hp0
                · simp at hv
          unfold leftL at hz
          obtain ⟨M, rfl⟩ : ∃ M, N = M + 1 := ⟨N - 1, by omega⟩
          rw [visitL] at hz
          rcases List.mem_append.1 hz with hz | hz
          · obtain ⟨i, _, hz⟩ := List.mem_flatMap.1 hz
            split at hz
            · exact hz0 _ _ _ _ (by simp) z hz h0
            · split at hz
              · simp at hz
              · simp at hz; rw [hz] at h0; simp at h0
          · split at hz
            · rename_i hc
              have : waysG gl ((M + 1 : Nat) : Int) (M + 1) 0 = [⟨[], 0⟩] := by rw [waysG_out, if_pos hc.1]
              rw [this] at hx hw
              simp at hx hw
              exact hwx (by rw [hx, hw])
            · simp at hz
        · exact absurd hup (hzk u hu)
    obtain ⟨q, a, b, u', v', e1, e2, e3⟩ := first_diff _ _ n1 n2
    have hql : y.2.length ≤ q.length := by
      by_cases hle : z.2.length ≤ q.length
      · omega
      · exfalso
        obtain ⟨r1, hr1⟩ := hzx
        obtain ⟨r2, hr2⟩ := hzp
        have hlt : q.length < z.2.length := by omega
        have t1 : x.links[q.length]? = some a := by rw [e1]; simp
        have t2 : w.links[q.length]? = some b := by rw [e2]; simp
        rw [← hr1, List.getElem?_append_left hlt] at t1
        rw [← hr2, List.getElem?_append_left hlt] at t2
        rw [t1] at t2
        exact e3 (Option.some.inj t2)
    have hcw : x.cost ≤ z.1 := by
      unfold laterR at hzl
      split at hzl
      · have := of_decide_eq_true hzl; omega
      · rename_i h1; omega
    by_cases hlt : x.cost < w.cost
    · exact .inl hlt
    · have hceq : w.cost = x.cost := by omega
      refine .inr ⟨hceq.symm, ?_⟩
      obtain ⟨n, hq, hi, hif, _⟩ := mid_go hx e1
      obtain ⟨n', hq', hj, hjf, hjr⟩ := mid_go hw e2
      rw [hq] at hq'
      simp at hq'
      subst hq'
      obtain ⟨jj, lj, _, hjx, hjxf, hjl⟩ := outOf_mem hj
      have hjo := hg lj (List.mem_of_getElem? hjx)
      unfold okL at hjo
      obtain ⟨m, hm⟩ : ∃ m : Nat, lj.t = (m : Int) := ⟨lj.t.toNat, by omega⟩
      rw [hjl, hm] at hjr
      have h5 := ways_all hg v' N m _ w.cost (by omega) (by omega) hjr
      have h6 := pot_lb hg hp N m (by omega) _ h5
      have h7 := (leadsR_iff (gl := gl) (h := h) x.links 0 0).1 hl q.length a (by rw [e1]; simp) (by rw [hyl, Nat.zero_add]; omega) b (by rw [hif]; exact hj)
      have htk : x.links.take q.length = q := by rw [e1]; simp
      rw [htk, Int.zero_add] at h7
      rw [e1, e2, lexCmp_diff]
      by_cases hab : a < b
      · rw [if_pos hab]; omega
      · exfalso
        have hba : b < a := by omega
        have h8 := h6.2
        simp only at h8
        simp only [soon, hjl, hm, decide_eq_true hba, decide_eq_true h6.1, Bool.true_and, decide_eq_false_iff_not] at h7
        omega
  · -- another beginning
    have nx : ¬ x.links <+: z.2 := fun h => n1 (h.trans hzp)
    obtain ⟨q, a, b, u', v', e1, e2, e3⟩ := first_diff _ _ nx hzx
    unfold laterR at hzl
    split at hzl
    · have := of_decide_eq_true hzl
      exact .inl (by omega)
    · rename_i hzc2
      have hzl := of_decide_eq_true hzl
      have hk1 : q.length < min z.2.length x.links.length := by rw [e1, e2]; simp
      generalize min z.2.length x.links.length = kk at hk1 hzl
      obtain ⟨d, rfl⟩ : ∃ d, kk = q.length + (d + 1) := ⟨kk - q.length - 1, by omega⟩
      rw [e1, e2, List.take_length_add_append, List.take_length_add_append, List.take_succ_cons, List.take_succ_cons, lexCmp_diff] at hzl
      obtain ⟨r2, hr2⟩ := hzp
      have hlex : lexCmp x.links w.links = -1 := by
        rw [← hr2, e1, e2, List.append_assoc, List.cons_append, lexCmp_diff]
        by_cases hab : a < b
        · rw [if_pos hab]
        · exfalso
          have hba : b < a := by omega
          rw [if_pos hba] at hzl
          omega
      by_cases hlt : x.cost < w.cost
      · exact .inl hlt
      · exact .inr ⟨by omega, by omega⟩

theorem next_acc (hg : ∀ x ∈ gl, okL (N : Int) x) (hN : 0 < N) (hp : IsPot N gl 0 h) {known : List Cand} (hk : ∀ x ∈ known, x ∈ waysG gl N N 0) {x : Cand} (hnx : IsNext gl N known x) : accR gl h N known x := by
  obtain ⟨hx, hxk, hmin⟩ := hnx
  have hlat : ∀ y ∈ leftL gl h N known, laterR x y = true := by
    intro y hy
    obtain ⟨⟨w, hw, hwp, hwc⟩, hyk, _⟩ := left_sound hg hN hp hk hy
    have hwk : w ∉ known := fun h => hyk w h hwp
    have hle : ¬ candLt w x := by
      rcases hmin w hw hwk with rfl | h1
      · intro h; unfold candLt at h; have := lexCmp_self w.links; omega
      · exact candLt_asymm h1
    unfold candLt at hle
    unfold laterR
    split
    · rename_i hne
      rw [decide_eq_true]
      omega
    · rename_i he
      rw [decide_eq_true]
      have hl0 : 0 ≤ lexCmp w.links x.links := by
        by_cases h : 0 ≤ lexCmp w.links x.links
        · exact h
        · exact absurd (.inr ⟨by omega, by omega⟩) hle
      have h2 := lexCmp_take _ _ (min y.2.length x.links.length) hl0
      have h3 : w.links.take (min y.2.length x.links.length) = y.2.take (min y.2.length x.links.length) := by
        obtain ⟨r, hr⟩ := hwp
        rw [← hr, List.take_append_of_le_length (Nat.min_le_left ..)]
      rwa [h3] at h2
  have ha := (runY_ok x (leftL gl h N known) (-1)).2 hlat
  obtain ⟨y0, hy0, hy0p, _⟩ := left_complete hg hN hp hk hx hxk
  have hfn := runY_some x _ (-1) ha ⟨y0, hy0, hy0p⟩
  have hco : costOf N gl x.links = some x.cost := by
    unfold costOf
    rw [ways_go hx]
    simp
  refine ⟨hco, ha, hfn, ?_⟩
  rw [leadsR_iff]
  intro m i hi hfr j hj
  cases hs : soon gl h x.cost i (0 + sumC gl (x.links.take m)) j with
  | false => rfl
  | true =>
    exfalso
    rw [Int.zero_add] at hs
    simp only [soon, Bool.and_eq_true, decide_eq_true_eq] at hs
    obtain ⟨hji, hne, hcost⟩ := hs
    obtain ⟨y, hy, hyp, hyl⟩ : ∃ y ∈ leftL gl h N known, y.2 <+: x.links ∧ (runY (stepC x) (leftL gl h N known) (-1)).2 = (y.2.length : Int) := by
      rcases runY_from x _ _ ha with h1 | h1
      · exact absurd h1 hfn
      · exact h1
    obtain ⟨_, hyk, _⟩ := left_sound hg hN hp hk hy
    rw [hyl] at hfr
    have hml := (List.getElem?_eq_some_iff.1 hi).1
    have e1 : x.links = x.links.take m ++ i :: x.links.drop (m + 1) := by
      have := split_at hi
      exact this
    generalize hq : x.links.take m = q at e1 hcost
    have hqm : q.length = m := by rw [← hq]; simp only [List.length_take]; omega
    obtain ⟨n, hgo, hii, hif, _⟩ := mid_go hx e1
    rw [hif] at hj
    obtain ⟨jj, lj, _, hjx, hjxf, hjl⟩ := outOf_mem hj
    have hjo := hg lj (List.mem_of_getElem? hjx)
    unfold okL at hjo
    obtain ⟨t, ht⟩ : ∃ t : Nat, lj.t = (t : Int) := ⟨lj.t.toNat, by omega⟩
    rw [hjl, ht] at hne hcost
    obtain ⟨u, hu, huc⟩ := pot_at hg hp N t (by omega) (by omega) hne
    have hw : (⟨q ++ j :: u.links, sumC gl q + lj.c + u.cost⟩ : Cand) ∈ waysG gl N N 0 := go_ways hg hN (by
      rw [costGo_append, hgo]
      simp only
      rw [costGo_at hj, hjl, ht]
      exact ways_cost N t _ u hu)
    have hbq : y.2 <+: q := by
      rw [e1] at hyp
      exact List.prefix_of_prefix_length_le hyp (List.prefix_append ..) (by omega)
    have hwk : (⟨q ++ j :: u.links, sumC gl q + lj.c + u.cost⟩ : Cand) ∉ known := fun hh => hyk _ hh (hbq.trans (List.prefix_append ..))
    rcases hmin _ hw hwk with h1 | h1
    · have : q ++ j :: u.links = q ++ i :: x.links.drop (m + 1) := by
        have := congrArg Cand.links h1
        simp only at this
        rw [this]; exact e1
      have := List.append_cancel_left this
      simp at this
      omega
    · unfold candLt at h1
      simp only at h1
      rcases h1 with h1 | ⟨_, h1⟩
      · omega
      · rw [e1, lexCmp_diff, if_neg (by omega), if_pos hji] at h1
        omega
theorem acc_iff (hg : ∀ x ∈ gl, okL (N : Int) x) (hN : 0 < N) (hp : IsPot N gl 0 h) {known : List Cand} (hk : ∀ x ∈ known, x ∈ waysG gl N N 0) {x : Cand} : accR gl h N known x ↔ IsNext gl N known x := by
  refine ⟨fun ha => acc_next hg hN hp hk ?_ ha, next_acc hg hN hp hk⟩
  have h1 := ha.1
  unfold costOf at h1
  split at h1
  · rename_i at_ sum he
    split at h1
    · rename_i hat
      cases h1
      subst hat
      exact go_ways hg hN he
    · cases h1
  · cases h1
end
end Go.Proofs.Ytjdhcblofkkibaa

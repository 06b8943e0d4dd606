/-
  The law ProofPotentials. Conditions: the arguments' form.
-/
import Derived.Test.YthlolpckgffebaaPu
import Derived.Test.YthlolpckgffebaaT13
namespace Go.Proofs.Ythlolpckgffebaa
open Go Go.RowKit

theorem pot_first {N : Nat} {gl : List Lnk} {h : List Int} (hg : ∀ x ∈ gl, okL (N : Int) x) (hN : 0 < N) (hp : IsPot N gl 0 h) : (∀ c0, (allW gl N)[0]? = some c0 → tv h 0 = c0.cost) ∧ ((allW gl N)[0]? = none → tv h 0 = -1) := by
  have hmem : ∀ w, w ∈ waysG gl N N 0 ↔ w ∈ allW gl N := fun w => (ordered_perm _).mem_iff.symm
  constructor
  · intro c0 h0
    have h1 := pot_lb hg hp N 0 hN c0 ((hmem c0).2 (List.mem_of_getElem? h0))
    obtain ⟨w, hw, hc⟩ := pot_at hg hp N 0 hN (by omega) h1.1
    obtain ⟨j, hj⟩ := List.getElem?_of_mem ((hmem w).1 hw)
    have hle : c0.cost ≤ w.cost := by
      by_cases e : j = 0
      · subst e; rw [h0] at hj; rw [Option.some.inj hj]; exact Int.le_refl _
      · have := strict_ne (ordered_strict gl N N 0) h0 hj (by omega)
        unfold candLt at this
        omega
    have h2 := h1.2
    have e0 : ((0 : Nat) : Int) = 0 := rfl
    rw [e0] at hc h2
    omega
  · intro hn
    by_cases e : tv h 0 = -1
    · exact e
    · obtain ⟨w, hw, _⟩ := pot_at hg hp N 0 hN (by omega) e
      have hnil : allW gl N = [] := by
        cases ha : allW gl N with
        | nil => rfl
        | cons _ _ => rw [ha] at hn; simp at hn
      have := (hmem w).1 hw
      rw [hnil] at this; simp at this
theorem sumC_cons (gl : List Lnk) (i : Int) (r : List Int) : sumC gl (i :: r) = (lnk gl i).c + sumC gl r := by simp [sumC]
theorem suffix_way {N : Nat} {gl : List Lnk} (hg : ∀ x ∈ gl, okL (N : Int) x) {w : Cand} (hw : w ∈ waysG gl N N 0) {q : List Int} {i : Int} {r : List Int} (e : w.links = q ++ i :: r) :
    ∃ (j n : Nat) (x : Lnk), i = (j : Int) ∧ gl[j]? = some x ∧ x.f = (n : Int) ∧ n < N ∧ (⟨i :: r, sumC gl (i :: r)⟩ : Cand) ∈ waysG gl N N n := by
  obtain ⟨n, hq, hi, hf, hr⟩ := mid_go hw e
  obtain ⟨j, x, rfl, hx, hxf, hl⟩ := outOf_mem hi
  have hxo := hg x (List.mem_of_getElem? hx)
  unfold okL at hxo
  have h1 : costGo gl n 0 ((j : Int) :: r) = some ((N : Int) - 1, sumC gl ((j : Int) :: r)) := by
    have hgo := ways_go hw
    rw [e, costGo_append, hq] at hgo
    simp only at hgo
    have hs := costGo_sum _ _ _ _ _ hgo
    have sh : ∀ (r : List Int) (n s m e d : Int), costGo gl n s r = some (m, e) → costGo gl n (s + d) r = some (m, e + d) := by
      intro r
      induction r with
      | nil => intro n s m e d h; simp [costGo] at h ⊢; omega
      | cons i r ih =>
        intro n s m e d h
        obtain ⟨a, b, c⟩ := costGo_step' h
        rw [costGo_at a]
        have := ih _ _ _ _ d c
        rw [show s + d + (lnk gl i).c = s + (lnk gl i).c + d by omega]
        exact this
    have := sh _ _ _ _ _ (- sumC gl q) hgo
    rw [show sumC gl q + -sumC gl q = 0 by omega] at this
    rw [this]
    congr 2
    omega
  refine ⟨j, x.f.toNat, x, rfl, hx, by omega, by omega, ?_⟩
  have := ways_all hg ((j : Int) :: r) N n 0 _ (by omega) (by omega) h1
  rw [Int.sub_zero] at this
  rwa [show ((x.f.toNat : Nat) : Int) = n by omega]

set_option maxHeartbeats 4000000 in
theorem potentials16_c {H : Snap} {n : Int} {vL vw : Value} {xs : List (Int × Int × Int)} {l : List Int} (hl : SliceRep H TriL vL xs) (hn : isByte n) (hx : ∀ x ∈ xs, triOk x) (hw : SliceRep H U8 vw l) (hlb : ∀ x ∈ l, isByte x) :
    Pure Try.prog 8 #[.agg #[.int .u8 n, vL], vw] H (fun _ r => r = .bool true) := by
  have hg := made_valid n hx
  have hgl14 := madeL_length n xs
  have hT := made_tree n xs
  refine Pure.intro Try.func8 rfl Try.ntmps8 rfl (fun E R hM hR => ?_)
  repeat (first | refine a1 ?_ | refine a3 ?_ | refine a4 ?_ | refine a5 ?_ | refine a6 ?_ | refine s_loadBs ?_ | refine s_loadHs ?_ | refine s_len ?_ | refine s_lenR ?_ | refine s_fieldB ?_ | refine s_fieldV ?_ | refine s_loadB ?_ | refine s_loadH ?_ | refine s_loadR ?_ | refine s_indexT ?_ | refine s_indexRT ?_ | refine s_subI ?_ | refine s_index ?_ | refine s_indexR ?_ | refine s_addI ?_ | refine a7 ?_ | refine a8 ?_ | refine a9 ?_ | refine RW.storeR rfl rfl rfl rfl (by first | rfl | (simp [allOne, cellsL, one1]; done) | (simp [allOne, cellsL, one1]; first | assumption | (refine ⟨?_, ?_⟩ <;> assumption))) rfl ?_ | refine a10 ?_ | refine RW.storeR1 rfl rfl (by first | rfl | exact IsSl.one1 (by assumption) | exact IsSl.one1 (SliceRep.isSl (by assumption))) rfl rfl ?_)
  refine RW.box rfl rfl rfl rfl (fun b2 => ?_)
  repeat (first | refine a1 ?_ | refine a3 ?_ | refine a4 ?_ | refine a5 ?_ | refine a6 ?_ | refine s_loadBs ?_ | refine s_loadHs ?_ | refine s_len ?_ | refine s_lenR ?_ | refine s_fieldB ?_ | refine s_fieldV ?_ | refine s_loadB ?_ | refine s_loadH ?_ | refine s_loadR ?_ | refine s_indexT ?_ | refine s_indexRT ?_ | refine s_subI ?_ | refine s_index ?_ | refine s_indexR ?_ | refine s_addI ?_ | refine a7 ?_ | refine a8 ?_ | refine a9 ?_ | refine RW.storeR rfl rfl rfl rfl (by first | rfl | (simp [allOne, cellsL, one1]; done) | (simp [allOne, cellsL, one1]; first | assumption | (refine ⟨?_, ?_⟩ <;> assumption))) rfl ?_ | refine a10 ?_ | refine RW.storeR1 rfl rfl (by first | rfl | exact IsSl.one1 (by assumption) | exact IsSl.one1 (SliceRep.isSl (by assumption))) rfl rfl ?_)
  refine RW.callV rfl (sanity16_c (H := H)) rfl rfl ?_
  rintro _ _ rfl
  repeat (first | refine a1 ?_ | refine a3 ?_ | refine a4 ?_ | refine a5 ?_ | refine a6 ?_ | refine s_loadBs ?_ | refine s_loadHs ?_ | refine s_len ?_ | refine s_lenR ?_ | refine s_fieldB ?_ | refine s_fieldV ?_ | refine s_loadB ?_ | refine s_loadH ?_ | refine s_loadR ?_ | refine s_indexT ?_ | refine s_indexRT ?_ | refine s_subI ?_ | refine s_index ?_ | refine s_indexR ?_ | refine s_addI ?_ | refine a7 ?_ | refine a8 ?_ | refine a9 ?_ | refine RW.storeR rfl rfl rfl rfl (by first | rfl | (simp [allOne, cellsL, one1]; done) | (simp [allOne, cellsL, one1]; first | assumption | (refine ⟨?_, ?_⟩ <;> assumption))) rfl ?_ | refine a10 ?_ | refine RW.storeR1 rfl rfl (by first | rfl | exact IsSl.one1 (by assumption) | exact IsSl.one1 (SliceRep.isSl (by assumption))) rfl rfl ?_)
  refine RW.call rfl (made_c hl hn hx) rfl rfl ?_
  rintro _ Hg ⟨vg, rfl, hgl⟩ hleg
  generalize hGe : madeL n xs = gl at hgl hg hgl14 hT
  generalize hNe : madeN n = N at hg hT ⊢
  obtain ⟨N, rfl⟩ : ∃ M : Nat, N = (M : Int) := ⟨N.toNat, by have := hg.1; omega⟩
  have hgv := hg
  obtain ⟨hN1, hN2, hlen, hall⟩ := hg
  have hvg1 := hgl.isSl.one1
  have hbgl := hgl.isSl.bound
  have hP := bpot_c (N := (N : Int)) hgl
  rw [potE_valid hgv, potL_valid hgv] at hP
  have hpot := pot_is hall (by omega)
  have hpl := hpot.1
  have hpf := pot_first hall (by omega) hpot
  have hpe := hpot.2.2.2
  have hplb := pot_lb hall hpot N
  generalize pot gl N = h at hP hpot hpl hpf hpe hplb
  refine RW.alloc rfl rfl rfl (fun b6 => ?_)
  repeat (first | refine a1 ?_ | refine a3 ?_ | refine a4 ?_ | refine a5 ?_ | refine a6 ?_ | refine s_loadBs ?_ | refine s_loadHs ?_ | refine s_len ?_ | refine s_lenR ?_ | refine s_fieldB ?_ | refine s_fieldV ?_ | refine s_loadB ?_ | refine s_loadH ?_ | refine s_loadR ?_ | refine s_indexT ?_ | refine s_indexRT ?_ | refine s_subI ?_ | refine s_index ?_ | refine s_indexR ?_ | refine s_addI ?_ | refine a7 ?_ | refine a8 ?_ | refine a9 ?_ | refine RW.storeR rfl rfl rfl rfl (by first | rfl | (simp [allOne, cellsL, one1]; done) | (simp [allOne, cellsL, one1]; first | assumption | (refine ⟨?_, ?_⟩ <;> assumption))) rfl ?_ | refine a10 ?_ | refine RW.storeR1 rfl rfl (by first | rfl | exact IsSl.one1 (by assumption) | exact IsSl.one1 (SliceRep.isSl (by assumption))) rfl rfl ?_)
  refine RW.call rfl (hP) rfl rfl ?_
  rintro _ Hp ⟨vp, rfl, hvp⟩ hlep
  have hL := blist_c (N := (N : Int)) (k := ((1 : Nat) : Int)) (hgl.mono hlep) (fun _ => hT)
  rw [(listR_take hgv (by omega)).1, (listR_take hgv (by omega)).2] at hL
  repeat (first | refine a1 ?_ | refine a3 ?_ | refine a4 ?_ | refine a5 ?_ | refine a6 ?_ | refine s_loadBs ?_ | refine s_loadHs ?_ | refine s_len ?_ | refine s_lenR ?_ | refine s_fieldB ?_ | refine s_fieldV ?_ | refine s_loadB ?_ | refine s_loadH ?_ | refine s_loadR ?_ | refine s_indexT ?_ | refine s_indexRT ?_ | refine s_subI ?_ | refine s_index ?_ | refine s_indexR ?_ | refine s_addI ?_ | refine a7 ?_ | refine a8 ?_ | refine a9 ?_ | refine RW.storeR rfl rfl rfl rfl (by first | rfl | (simp [allOne, cellsL, one1]; done) | (simp [allOne, cellsL, one1]; first | assumption | (refine ⟨?_, ?_⟩ <;> assumption))) rfl ?_ | refine a10 ?_ | refine RW.storeR1 rfl rfl (by first | rfl | exact IsSl.one1 (by assumption) | exact IsSl.one1 (SliceRep.isSl (by assumption))) rfl rfl ?_)
  refine RW.call rfl (hL) rfl rfl ?_
  rintro _ Hl ⟨vr, rfl, hvr⟩ hlel
  have hgl2 := (hgl.mono hlep).mono hlel
  have hvp2 := hvp.mono hlel
  have hsp := hvp2.isSl
  rw [hpl] at hsp
  repeat (first | refine a1 ?_ | refine a3 ?_ | refine a4 ?_ | refine a5 ?_ | refine a6 ?_ | refine s_loadBs ?_ | refine s_loadHs ?_ | refine s_len ?_ | refine s_lenR ?_ | refine s_fieldB ?_ | refine s_fieldV ?_ | refine s_loadB ?_ | refine s_loadH ?_ | refine s_loadR ?_ | refine s_indexT ?_ | refine s_indexRT ?_ | refine s_subI ?_ | refine s_index ?_ | refine s_indexR ?_ | refine s_addI ?_ | refine a7 ?_ | refine a8 ?_ | refine a9 ?_ | refine RW.storeR rfl rfl rfl rfl (by first | rfl | (simp [allOne, cellsL, one1]; done) | (simp [allOne, cellsL, one1]; first | assumption | (refine ⟨?_, ?_⟩ <;> assumption))) rfl ?_ | refine a10 ?_ | refine RW.storeR1 rfl rfl (by first | rfl | exact IsSl.one1 (by assumption) | exact IsSl.one1 (SliceRep.isSl (by assumption))) rfl rfl ?_)
  rw [decide_eq_false (show ¬ ((N : Int) ≠ (N : Int)) from fun h => h rfl)]
  repeat (first | refine a1 ?_ | refine a3 ?_ | refine a4 ?_ | refine a5 ?_ | refine a6 ?_ | refine s_loadBs ?_ | refine s_loadHs ?_ | refine s_len ?_ | refine s_lenR ?_ | refine s_fieldB ?_ | refine s_fieldV ?_ | refine s_loadB ?_ | refine s_loadH ?_ | refine s_loadR ?_ | refine s_indexT ?_ | refine s_indexRT ?_ | refine s_subI ?_ | refine s_index ?_ | refine s_indexR ?_ | refine s_addI ?_ | refine a7 ?_ | refine a8 ?_ | refine a9 ?_ | refine RW.storeR rfl rfl rfl rfl (by first | rfl | (simp [allOne, cellsL, one1]; done) | (simp [allOne, cellsL, one1]; first | assumption | (refine ⟨?_, ?_⟩ <;> assumption))) rfl ?_ | refine a10 ?_ | refine RW.storeR1 rfl rfl (by first | rfl | exact IsSl.one1 (by assumption) | exact IsSl.one1 (SliceRep.isSl (by assumption))) rfl rfl ?_)
  have c0 : Hl.cell (vat vp (Int.toNat 0 * 1)) = some (.int .i64 (tv h 0)) := hvp2.flat1 (k := 0) (tv_at (by omega)) rfl
  have hsr := hvr.isSl
  refine Runs.joinF (α := Unit) (fun _ => True) (fun _ => [Hl, H]) (fun _ => [.blk b6 31 [.int .i64 (N : Int), vg]]) (fun _ => [(1, vw), (5, .bool true), (6, .pointer (some ⟨b6, 0, none⟩)), (7, vp), (65, .bool false)]) (fun hj => ?_) ?_
  · cases h0 : (allW gl N)[0]? with
    | none =>
      have hl0 : ((allW gl N).take 1).length = 0 := by
        have := List.getElem?_eq_none_iff.1 h0
        simp only [List.length_take]; omega
      rw [hl0] at hsr
      have hm1 := hpf.2 h0
      rw [hm1] at c0
      refine Runs.regionD _ _ [] (fun x hx => List.mem_cons_of_mem _ hx) (List.Sublist.refl _) (by kernel_rfl) ?_
      refine d2 0 ?_
      (first | refine t_len 1 ?_ | refine t_lenR 1 ?_)
      refine d1 2 2 ?_
      refine d2 4 ?_
      (first | refine t_indexT 5 ?_ | refine t_indexRT 5 ?_)
      (first | refine t_loadB 6 ?_ | refine t_loadH 6 ?_ | refine t_loadR 6 ?_)
      refine d1 7 3 ?_
      refine d2 10 ?_
      (first | refine t_len 11 ?_ | refine t_lenR 11 ?_)
      refine d2 12 ?_
      refine d2 13 ?_
      refine d3 14 ?_
      refine d3 15 ?_
      refine d3 16 ?_
      refine d3 17 ?_
      refine d3 18 ?_
      refine d3 19 ?_
      refine d3 20 ?_
      refine d3 21 ?_
      refine d1 22 2 ?_
      refine DW.done (by kernel_rfl) ?_
      refine Runs.weak (hj () trivial) (by repeat (first | exact trivial | refine And.intro rfl ?_)) (fun x hx => List.mem_cons_of_mem _ (SubH.h x hx)) (by repeat (first | exact List.nil_sublist _ | exact List.Sublist.refl _ | refine List.Sublist.cons_cons _ ?_ | refine List.Sublist.cons _ ?_))
    | some x0 =>
      have hl0 : ((allW gl N).take 1).length = 1 := by
        have := (List.getElem?_eq_some_iff.1 h0).1
        simp only [List.length_take]; omega
      rw [hl0] at hsr
      have hx0 : ((allW gl N).take 1)[0]? = some x0 := by rw [List.getElem?_take_of_lt (by omega)]; exact h0
      obtain ⟨vx, hvx, _, hcx, _⟩ := hvr.cand hx0
      have hm1 := hpf.1 x0 h0
      rw [← hm1] at hcx
      have c1 : Hl.cell (vat vr (Int.toNat 0 * 2 + 1)) = some (.int .i64 (tv h 0)) := hcx
      refine Runs.regionD _ _ [] (fun x hx => List.mem_cons_of_mem _ hx) (List.Sublist.refl _) (by kernel_rfl) ?_
      refine d2 0 ?_
      (first | refine t_len 1 ?_ | refine t_lenR 1 ?_)
      refine d1 2 2 ?_
      refine d3 4 ?_
      refine d3 5 ?_
      refine d3 6 ?_
      refine d3 7 ?_
      refine d1 8 2 ?_
      refine d2 10 ?_
      (first | refine t_len 11 ?_ | refine t_lenR 11 ?_)
      refine d1 12 2 ?_
      refine d2 14 ?_
      (first | refine t_indexT 15 ?_ | refine t_indexRT 15 ?_)
      (first | refine t_loadB 16 ?_ | refine t_loadH 16 ?_ | refine t_loadR 16 ?_)
      refine d2 17 ?_
      (first | refine t_indexT 18 ?_ | refine t_indexRT 18 ?_)
      (first | refine t_fieldB 19 ?_ | refine t_fieldV 19 ?_)
      (first | refine t_loadB 20 ?_ | refine t_loadH 20 ?_ | refine t_loadR 20 ?_)
      refine d2 21 ?_
      rw [decide_eq_false (show ¬ (tv h 0 ≠ tv h 0) from fun h => h rfl)]
      refine d1 22 2 ?_
      refine DW.done (by kernel_rfl) ?_
      refine Runs.weak (hj () trivial) (by repeat (first | exact trivial | refine And.intro rfl ?_)) (fun x hx => List.mem_cons_of_mem _ (SubH.h x hx)) (by repeat (first | exact List.nil_sublist _ | exact List.Sublist.refl _ | refine List.Sublist.cons_cons _ ?_ | refine List.Sublist.cons _ ?_))
  · rintro _ _
    have hCh := chosen_c hgl2 (((hw.mono hleg).mono hlep).mono hlel) hlb hgv
    repeat (first | refine a1 ?_ | refine a3 ?_ | refine a4 ?_ | refine a5 ?_ | refine a6 ?_ | refine s_loadBs ?_ | refine s_loadHs ?_ | refine s_len ?_ | refine s_lenR ?_ | refine s_fieldB ?_ | refine s_fieldV ?_ | refine s_loadB ?_ | refine s_loadH ?_ | refine s_loadR ?_ | refine s_indexT ?_ | refine s_indexRT ?_ | refine s_subI ?_ | refine s_index ?_ | refine s_indexR ?_ | refine s_addI ?_ | refine a7 ?_ | refine a8 ?_ | refine a9 ?_ | refine RW.storeR rfl rfl rfl rfl (by first | rfl | (simp [allOne, cellsL, one1]; done) | (simp [allOne, cellsL, one1]; first | assumption | (refine ⟨?_, ?_⟩ <;> assumption))) rfl ?_ | refine a10 ?_ | refine RW.storeR1 rfl rfl (by first | rfl | exact IsSl.one1 (by assumption) | exact IsSl.one1 (SliceRep.isSl (by assumption))) rfl rfl ?_)
    refine RW.call rfl (hCh) rfl rfl ?_
    rintro _ Hc ⟨vc, rfl, hvc⟩ hlec
    cases hch : chosenOf (N : Int) gl l with
    | mk out is =>
    rw [hch] at hvc
    dsimp only at hvc ⊢
    cases is with
    | false =>
      repeat (first | refine a1 ?_ | refine a3 ?_ | refine a4 ?_ | refine a5 ?_ | refine a6 ?_ | refine s_loadBs ?_ | refine s_loadHs ?_ | refine s_len ?_ | refine s_lenR ?_ | refine s_fieldB ?_ | refine s_fieldV ?_ | refine s_loadB ?_ | refine s_loadH ?_ | refine s_loadR ?_ | refine s_indexT ?_ | refine s_indexRT ?_ | refine s_subI ?_ | refine s_index ?_ | refine s_indexR ?_ | refine s_addI ?_ | refine a7 ?_ | refine a8 ?_ | refine a9 ?_ | refine RW.storeR rfl rfl rfl rfl (by first | rfl | (simp [allOne, cellsL, one1]; done) | (simp [allOne, cellsL, one1]; first | assumption | (refine ⟨?_, ?_⟩ <;> assumption))) rfl ?_ | refine a10 ?_ | refine RW.storeR1 rfl rfl (by first | rfl | exact IsSl.one1 (by assumption) | exact IsSl.one1 (SliceRep.isSl (by assumption))) rfl rfl ?_)
      refine Runs.ret1 Try.func8 Try.results8 rfl (fun w hm => hR _ w _ Hc _ (by simp) (((hleg.trans hlep).trans hlel).trans hlec) ?_ hm)
      rfl
    | true =>
      obtain ⟨ec, hec⟩ := chosen_cost hch
      have hwy := go_ways hall (by omega) hec
      have hbo := hvc.isSl.bound
      have hol := (waysG_bound hall N 0 _ hwy).1
      dsimp only at hol
      have hgl3 := hgl2.mono hlec
      have hvp3 := hvp2.mono hlec
      repeat (first | refine a1 ?_ | refine a3 ?_ | refine a4 ?_ | refine a5 ?_ | refine a6 ?_ | refine s_loadBs ?_ | refine s_loadHs ?_ | refine s_len ?_ | refine s_lenR ?_ | refine s_fieldB ?_ | refine s_fieldV ?_ | refine s_loadB ?_ | refine s_loadH ?_ | refine s_loadR ?_ | refine s_indexT ?_ | refine s_indexRT ?_ | refine s_subI ?_ | refine s_index ?_ | refine s_indexR ?_ | refine s_addI ?_ | refine a7 ?_ | refine a8 ?_ | refine a9 ?_ | refine RW.storeR rfl rfl rfl rfl (by first | rfl | (simp [allOne, cellsL, one1]; done) | (simp [allOne, cellsL, one1]; first | assumption | (refine ⟨?_, ?_⟩ <;> assumption))) rfl ?_ | refine a10 ?_ | refine RW.storeR1 rfl rfl (by first | rfl | exact IsSl.one1 (by assumption) | exact IsSl.one1 (SliceRep.isSl (by assumption))) rfl rfl ?_)
      refine Runs.loop (fun (s : Nat × Int) => s.1 ≤ out.length ∧ s.2 = sumC gl (out.drop s.1) ∧ 0 ≤ s.2 ∧ s.2 ≤ (out.length - s.1 : Int) * 1000000) (fun s => s.1) (fun _ => [Hc, H]) (fun _ => [.blk b6 31 [.int .i64 (N : Int), vg]])
        (fun s => [(5, .bool true), (6, .pointer (some ⟨b6, 0, none⟩)), (7, vp), (11, vc), (13, .int .i64 s.2), (14, .int .i64 ((s.1 : Int) - 1))]) (out.length, 0) ⟨Nat.le_refl _, by simp [sumC], by simp, by simp⟩ (fun h => by
          refine Runs.weak (h) (by repeat (first | exact trivial | refine And.intro rfl ?_)) (fun x hx => List.mem_cons_of_mem _ (SubH.h x hx)) (by repeat (first | exact List.nil_sublist _ | exact List.Sublist.refl _ | refine List.Sublist.cons_cons _ ?_ | refine List.Sublist.cons _ ?_))) ?_
      rintro ⟨m, rest⟩ ⟨hm, hrs, hr0, hr1⟩ ih
      dsimp only at hm hrs hr0 hr1 ⊢
      repeat (first | refine a1 ?_ | refine a3 ?_ | refine a4 ?_ | refine a5 ?_ | refine a6 ?_ | refine s_loadBs ?_ | refine s_loadHs ?_ | refine s_len ?_ | refine s_lenR ?_ | refine s_fieldB ?_ | refine s_fieldV ?_ | refine s_loadB ?_ | refine s_loadH ?_ | refine s_loadR ?_ | refine s_indexT ?_ | refine s_indexRT ?_ | refine s_subI ?_ | refine s_index ?_ | refine s_indexR ?_ | refine s_addI ?_ | refine a7 ?_ | refine a8 ?_ | refine a9 ?_ | refine RW.storeR rfl rfl rfl rfl (by first | rfl | (simp [allOne, cellsL, one1]; done) | (simp [allOne, cellsL, one1]; first | assumption | (refine ⟨?_, ?_⟩ <;> assumption))) rfl ?_ | refine a10 ?_ | refine RW.storeR1 rfl rfl (by first | rfl | exact IsSl.one1 (by assumption) | exact IsSl.one1 (SliceRep.isSl (by assumption))) rfl rfl ?_)
      refine Runs.cond_d rfl (fun hge => ?_) (fun hge => ?_)
      · obtain ⟨m, rfl⟩ : ∃ k, m = k + 1 := ⟨m - 1, by omega⟩
        rw [show ((m + 1 : Nat) : Int) - 1 = (m : Int) by omega]
        obtain ⟨i, hi⟩ : ∃ i, out[m]? = some i := ⟨_, List.getElem?_eq_getElem (by omega)⟩
        have hsplit : out = out.take m ++ i :: out.drop (m + 1) := split_at hi
        obtain ⟨j, nn, x, rfl, hxj, hxn, hnN, hsuf⟩ := suffix_way hall hwy hsplit
        have hlb2 := hplb nn hnN _ hsuf
        dsimp only at hlb2
        rw [sumC_cons, lnk_at hxj, ← hrs] at hlb2
        have hxo := hall x (List.mem_of_getElem? hxj)
        unfold okL at hxo
        have hjl := (List.getElem?_eq_some_iff.1 hxj).1
        have ci : Hc.cell (vat vc (m * 1)) = some (.int .i64 (j : Int)) := hvc.flat1 hi rfl
        have cx3 : Hc.cell (vat vg (j * 4 + 3)) = some (.int .i64 x.c) := hgl3.flat hxj (j := 3) rfl
        have cx0 : Hc.cell (vat vg (j * 4 + 0)) = some (.int .i64 (nn : Int)) := by rw [← hxn]; exact hgl3.flat hxj (j := 0) rfl
        have ch : Hc.cell (vat vp (nn * 1)) = some (.int .i64 (tv h (nn : Int))) := hvp3.flat1 (tv_at (by omega)) rfl
        have hhb := hpot.2.1 (nn : Int) (by omega) (by omega)
        repeat (first | refine a1 ?_ | refine a3 ?_ | refine a4 ?_ | refine a5 ?_ | refine a6 ?_ | refine s_loadBs ?_ | refine s_loadHs ?_ | refine s_len ?_ | refine s_lenR ?_ | refine s_fieldB ?_ | refine s_fieldV ?_ | refine s_loadB ?_ | refine s_loadH ?_ | refine s_loadR ?_ | refine s_indexT ?_ | refine s_indexRT ?_ | refine s_subI ?_ | refine s_index ?_ | refine s_indexR ?_ | refine s_addI ?_ | refine a7 ?_ | refine a8 ?_ | refine a9 ?_ | refine RW.storeR rfl rfl rfl rfl (by first | rfl | (simp [allOne, cellsL, one1]; done) | (simp [allOne, cellsL, one1]; first | assumption | (refine ⟨?_, ?_⟩ <;> assumption))) rfl ?_ | refine a10 ?_ | refine RW.storeR1 rfl rfl (by first | rfl | exact IsSl.one1 (by assumption) | exact IsSl.one1 (SliceRep.isSl (by assumption))) rfl rfl ?_)
        refine Runs.regionD _ _ [] (fun x hx => List.mem_cons_of_mem _ hx) (List.Sublist.refl _) (by kernel_rfl) ?_
        refine d2 0 ?_
        (first | refine t_fieldB 1 ?_ | refine t_fieldV 1 ?_)
        (first | refine t_loadB 2 ?_ | refine t_loadH 2 ?_ | refine t_loadR 2 ?_)
        refine d1 3 2 ?_
        (first | refine t_index 5 ?_ | refine t_indexR 5 ?_)
        (first | refine t_loadB 6 ?_ | refine t_loadH 6 ?_ | refine t_loadR 6 ?_)
        (first | refine t_index 7 ?_ | refine t_indexR 7 ?_)
        (first | refine t_fieldB 8 ?_ | refine t_fieldV 8 ?_)
        (first | refine t_loadB 9 ?_ | refine t_loadH 9 ?_ | refine t_loadR 9 ?_)
        refine t_addI 10 ?_
        refine d2 11 ?_
        refine DW.done (by kernel_rfl) ?_
        repeat (first | refine a1 ?_ | refine a3 ?_ | refine a4 ?_ | refine a5 ?_ | refine a6 ?_ | refine s_loadBs ?_ | refine s_loadHs ?_ | refine s_len ?_ | refine s_lenR ?_ | refine s_fieldB ?_ | refine s_fieldV ?_ | refine s_loadB ?_ | refine s_loadH ?_ | refine s_loadR ?_ | refine s_indexT ?_ | refine s_indexRT ?_ | refine s_subI ?_ | refine s_index ?_ | refine s_indexR ?_ | refine s_addI ?_ | refine a7 ?_ | refine a8 ?_ | refine a9 ?_ | refine RW.storeR rfl rfl rfl rfl (by first | rfl | (simp [allOne, cellsL, one1]; done) | (simp [allOne, cellsL, one1]; first | assumption | (refine ⟨?_, ?_⟩ <;> assumption))) rfl ?_ | refine a10 ?_ | refine RW.storeR1 rfl rfl (by first | rfl | exact IsSl.one1 (by assumption) | exact IsSl.one1 (SliceRep.isSl (by assumption))) rfl rfl ?_)
        refine Runs.regionD _ _ [] (fun x hx => List.mem_cons_of_mem _ hx) (List.Sublist.refl _) (by kernel_rfl) ?_
        refine d2 0 ?_
        (first | refine t_fieldB 1 ?_ | refine t_fieldV 1 ?_)
        (first | refine t_loadB 2 ?_ | refine t_loadH 2 ?_ | refine t_loadR 2 ?_)
        refine d1 3 2 ?_
        (first | refine t_index 5 ?_ | refine t_indexR 5 ?_)
        (first | refine t_loadB 6 ?_ | refine t_loadH 6 ?_ | refine t_loadR 6 ?_)
        (first | refine t_index 7 ?_ | refine t_indexR 7 ?_)
        (first | refine t_fieldB 8 ?_ | refine t_fieldV 8 ?_)
        (first | refine t_loadB 9 ?_ | refine t_loadH 9 ?_ | refine t_loadR 9 ?_)
        (first | refine t_index 10 ?_ | refine t_indexR 10 ?_)
        (first | refine t_loadB 11 ?_ | refine t_loadH 11 ?_ | refine t_loadR 11 ?_)
        refine d2 12 ?_
        refine DW.done (by kernel_rfl) ?_
        repeat (first | refine a1 ?_ | refine a3 ?_ | refine a4 ?_ | refine a5 ?_ | refine a6 ?_ | refine s_loadBs ?_ | refine s_loadHs ?_ | refine s_len ?_ | refine s_lenR ?_ | refine s_fieldB ?_ | refine s_fieldV ?_ | refine s_loadB ?_ | refine s_loadH ?_ | refine s_loadR ?_ | refine s_indexT ?_ | refine s_indexRT ?_ | refine s_subI ?_ | refine s_index ?_ | refine s_indexR ?_ | refine s_addI ?_ | refine a7 ?_ | refine a8 ?_ | refine a9 ?_ | refine RW.storeR rfl rfl rfl rfl (by first | rfl | (simp [allOne, cellsL, one1]; done) | (simp [allOne, cellsL, one1]; first | assumption | (refine ⟨?_, ?_⟩ <;> assumption))) rfl ?_ | refine a10 ?_ | refine RW.storeR1 rfl rfl (by first | rfl | exact IsSl.one1 (by assumption) | exact IsSl.one1 (SliceRep.isSl (by assumption))) rfl rfl ?_)
        rw [decide_eq_false (show ¬ tv h (nn : Int) < 0 by omega)]
        repeat (first | refine a1 ?_ | refine a3 ?_ | refine a4 ?_ | refine a5 ?_ | refine a6 ?_ | refine s_loadBs ?_ | refine s_loadHs ?_ | refine s_len ?_ | refine s_lenR ?_ | refine s_fieldB ?_ | refine s_fieldV ?_ | refine s_loadB ?_ | refine s_loadH ?_ | refine s_loadR ?_ | refine s_indexT ?_ | refine s_indexRT ?_ | refine s_subI ?_ | refine s_index ?_ | refine s_indexR ?_ | refine s_addI ?_ | refine a7 ?_ | refine a8 ?_ | refine a9 ?_ | refine RW.storeR rfl rfl rfl rfl (by first | rfl | (simp [allOne, cellsL, one1]; done) | (simp [allOne, cellsL, one1]; first | assumption | (refine ⟨?_, ?_⟩ <;> assumption))) rfl ?_ | refine a10 ?_ | refine RW.storeR1 rfl rfl (by first | rfl | exact IsSl.one1 (by assumption) | exact IsSl.one1 (SliceRep.isSl (by assumption))) rfl rfl ?_)
        rw [decide_eq_false (show ¬ rest + x.c < tv h (nn : Int) by omega)]
        repeat (first | refine a1 ?_ | refine a3 ?_ | refine a4 ?_ | refine a5 ?_ | refine a6 ?_ | refine s_loadBs ?_ | refine s_loadHs ?_ | refine s_len ?_ | refine s_lenR ?_ | refine s_fieldB ?_ | refine s_fieldV ?_ | refine s_loadB ?_ | refine s_loadH ?_ | refine s_loadR ?_ | refine s_indexT ?_ | refine s_indexRT ?_ | refine s_subI ?_ | refine s_index ?_ | refine s_indexR ?_ | refine s_addI ?_ | refine a7 ?_ | refine a8 ?_ | refine a9 ?_ | refine RW.storeR rfl rfl rfl rfl (by first | rfl | (simp [allOne, cellsL, one1]; done) | (simp [allOne, cellsL, one1]; first | assumption | (refine ⟨?_, ?_⟩ <;> assumption))) rfl ?_ | refine a10 ?_ | refine RW.storeR1 rfl rfl (by first | rfl | exact IsSl.one1 (by assumption) | exact IsSl.one1 (SliceRep.isSl (by assumption))) rfl rfl ?_)
        refine Runs.weak (ih (m, rest + x.c) ⟨by dsimp only; omega, ?_, by dsimp only; omega, by dsimp only; omega⟩ (by dsimp only; omega)) (by repeat (first | exact trivial | refine And.intro rfl ?_)) (fun x hx => List.mem_cons_of_mem _ (SubH.h x hx)) (by repeat (first | exact List.nil_sublist _ | exact List.Sublist.refl _ | refine List.Sublist.cons_cons _ ?_ | refine List.Sublist.cons _ ?_))
        dsimp only
        rw [drop_cons_of hi, sumC_cons, lnk_at hxj, hrs]; omega
      · have cN : Hc.cell (vat vp ((N - 1) * 1)) = some (.int .i64 0) := by
          rw [← hpe, show (N : Int) - 1 = ((N - 1 : Nat) : Int) by omega]
          exact hvp3.flat1 (tv_at (by omega)) rfl
        have eN : (N : Int) - 1 = ((N - 1 : Nat) : Int) := by omega
        repeat (first | refine a1 ?_ | refine a3 ?_ | refine a4 ?_ | refine a5 ?_ | refine a6 ?_ | refine s_loadBs ?_ | refine s_loadHs ?_ | refine s_len ?_ | refine s_lenR ?_ | refine s_fieldB ?_ | refine s_fieldV ?_ | refine s_loadB ?_ | refine s_loadH ?_ | refine s_loadR ?_ | refine s_indexT ?_ | refine s_indexRT ?_ | refine s_subI ?_ | refine s_index ?_ | refine s_indexR ?_ | refine s_addI ?_ | refine a7 ?_ | refine a8 ?_ | refine a9 ?_ | refine RW.storeR rfl rfl rfl rfl (by first | rfl | (simp [allOne, cellsL, one1]; done) | (simp [allOne, cellsL, one1]; first | assumption | (refine ⟨?_, ?_⟩ <;> assumption))) rfl ?_ | refine a10 ?_ | refine RW.storeR1 rfl rfl (by first | rfl | exact IsSl.one1 (by assumption) | exact IsSl.one1 (SliceRep.isSl (by assumption))) rfl rfl ?_)
        rw [eN]
        repeat (first | refine a1 ?_ | refine a3 ?_ | refine a4 ?_ | refine a5 ?_ | refine a6 ?_ | refine s_loadBs ?_ | refine s_loadHs ?_ | refine s_len ?_ | refine s_lenR ?_ | refine s_fieldB ?_ | refine s_fieldV ?_ | refine s_loadB ?_ | refine s_loadH ?_ | refine s_loadR ?_ | refine s_indexT ?_ | refine s_indexRT ?_ | refine s_subI ?_ | refine s_index ?_ | refine s_indexR ?_ | refine s_addI ?_ | refine a7 ?_ | refine a8 ?_ | refine a9 ?_ | refine RW.storeR rfl rfl rfl rfl (by first | rfl | (simp [allOne, cellsL, one1]; done) | (simp [allOne, cellsL, one1]; first | assumption | (refine ⟨?_, ?_⟩ <;> assumption))) rfl ?_ | refine a10 ?_ | refine RW.storeR1 rfl rfl (by first | rfl | exact IsSl.one1 (by assumption) | exact IsSl.one1 (SliceRep.isSl (by assumption))) rfl rfl ?_)
        refine Runs.ret1 Try.func8 Try.results8 rfl (fun w hm => hR _ w _ Hc _ (by simp) (((hleg.trans hlep).trans hlel).trans hlec) ?_ hm)
        rfl
end Go.Proofs.Ythlolpckgffebaa

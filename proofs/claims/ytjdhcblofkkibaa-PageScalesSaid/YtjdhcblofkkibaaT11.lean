/-
  Taking the least part out of the heap. Conditions: the heap is in order and not empty.
-/
import Derived.Test.YtjdhcblofkkibaaT10
namespace Go.Proofs.Ytjdhcblofkkibaa
open Go Go.RowKit

theorem pop_perm {ps : List Part} {x z : Part} {m : Nat} (hx : ps[0]? = some x) (hz : ps[m]? = some z) (hm : ps.length = m + 1) : ps.Perm (x :: (ps.set 0 z).take m) := by
  cases ps with
  | nil => simp at hm
  | cons y tl =>
    simp at hx; subst hx
    cases m with
    | zero =>
      have : tl = [] := List.eq_nil_of_length_eq_zero (by simpa using hm)
      subst this; simp
    | succ m =>
      simp at hz hm
      rw [List.set_cons_zero, List.take_succ_cons]
      refine List.Perm.cons _ ?_
      have e := split_at hz
      rw [List.drop_of_length_le (by omega)] at e
      conv => lhs; rw [e]
      exact List.perm_append_comm

set_option maxHeartbeats 4000000 in
theorem pop_c {H : Snap} {bh : Nat} {v : Value} {cs : List Value} {ps : List Part} (hps : CellsRep H PartL ps cs) (ho : HeapO ps) (hlen : ps.length ≤ 2000000000000) (h0 : 0 < ps.length) :
    Ctr Try.prog 56 #[.pointer (some ⟨bh, 0, none⟩)] H [.blk bh 106 [v, lessV], .row 102 4 v ps.length cs]
      (fun H' O' r => ∃ x vx v' cs' ps', r = partV vx x ∧ SliceRep H' I64 vx x.links ∧ O' = [.blk bh 106 [v', lessV], .row 102 4 v' ps'.length cs'] ∧ CellsRep H' PartL ps' cs' ∧ ps.Perm (x :: ps') ∧ HeapO ps' ∧ ∀ y ∈ ps', ¬ partLt y x) := by
  obtain ⟨m, hm⟩ : ∃ m, ps.length = m + 1 := ⟨ps.length - 1, by omega⟩
  obtain ⟨x, hx⟩ : ∃ x, ps[0]? = some x := ⟨_, List.getElem?_eq_getElem h0⟩
  obtain ⟨z, hz⟩ : ∃ z, ps[m]? = some z := ⟨_, List.getElem?_eq_getElem (by omega)⟩
  obtain ⟨vx, hvx, hlx⟩ := hps.part hx
  obtain ⟨vz, hvz, hlz⟩ := hps.part hz
  obtain ⟨cs1, hp1, hcs1⟩ := hps.put (s := 4) (k := 0) h0 rfl ⟨vz, rfl, hvz⟩
  have hpp := pop_perm hx hz hm
  have hst := DownI.start (x := z) (m := m) ho
  have hroot := ho.root hx
  have hmin : ∀ y ∈ (ps.set 0 z).take m, ¬ partLt y x := fun y hy => by
    have hy2 : y ∈ ps := hpp.mem_iff.2 (List.mem_cons_of_mem _ hy)
    obtain ⟨j, hj⟩ := List.getElem?_of_mem hy2
    exact hroot j y hj
  have e1 : ((m + 1 : Nat) : Int) - 1 = (m : Int) := by omega
  obtain ⟨Ax, capx, rfl, _, _⟩ := hvx.isSl
  obtain ⟨Az, capz, rfl, _, _⟩ := hvz.isSl
  rw [hm]
  refine Ctr.intro Try.func56 rfl Try.ntmps56 rfl (fun E R hM hR => ?_)
  refine Runs.rowSl v (fun hv hv1 => ?_)
  repeat (first | refine a1 ?_ | refine a3 ?_ | refine a4 ?_ | refine a5 ?_ | refine a6 ?_ | refine s_fieldB ?_ | refine s_fieldV ?_ | refine s_loadB ?_ | refine s_loadH ?_ | refine s_loadR ?_ | refine s_indexT ?_ | refine s_indexRT ?_ | refine s_loadBs ?_ | refine s_loadHs ?_ | refine s_len ?_ | refine s_lenR ?_ | refine s_subI ?_ | refine s_index ?_ | refine s_indexR ?_ | refine s_sliceHi ?_ | refine s_mulI ?_ | refine s_addI ?_ | refine a7 ?_ | refine a8 ?_ | refine a9 ?_ | refine RW.storeR rfl rfl rfl rfl (by first | rfl | (simp [allOne, cellsL, one1]; done) | (simp [allOne, cellsL, one1]; first | assumption | (refine ⟨?_, ?_⟩ <;> assumption))) rfl ?_ | refine a10 ?_ | refine RW.storeR1 rfl rfl (by first | rfl | exact IsSl.one1 (by assumption) | exact IsSl.one1 (SliceRep.isSl (by assumption))) rfl rfl ?_)
  refine RW.alloc rfl rfl rfl (fun b2 => ?_)
  repeat (first | refine a1 ?_ | refine a3 ?_ | refine a4 ?_ | refine a5 ?_ | refine a6 ?_ | refine s_fieldB ?_ | refine s_fieldV ?_ | refine s_loadB ?_ | refine s_loadH ?_ | refine s_loadR ?_ | refine s_indexT ?_ | refine s_indexRT ?_ | refine s_loadBs ?_ | refine s_loadHs ?_ | refine s_len ?_ | refine s_lenR ?_ | refine s_subI ?_ | refine s_index ?_ | refine s_indexR ?_ | refine s_sliceHi ?_ | refine s_mulI ?_ | refine s_addI ?_ | refine a7 ?_ | refine a8 ?_ | refine a9 ?_ | refine RW.storeR rfl rfl rfl rfl (by first | rfl | (simp [allOne, cellsL, one1]; done) | (simp [allOne, cellsL, one1]; first | assumption | (refine ⟨?_, ?_⟩ <;> assumption))) rfl ?_ | refine a10 ?_ | refine RW.storeR1 rfl rfl (by first | rfl | exact IsSl.one1 (by assumption) | exact IsSl.one1 (SliceRep.isSl (by assumption))) rfl rfl ?_)
  refine RW.q (QV.loadRs rfl (hlx)) rfl rfl ?_
  refine RW.alloc rfl rfl rfl (fun b3 => ?_)
  repeat (first | refine a1 ?_ | refine a3 ?_ | refine a4 ?_ | refine a5 ?_ | refine a6 ?_ | refine s_fieldB ?_ | refine s_fieldV ?_ | refine s_loadB ?_ | refine s_loadH ?_ | refine s_loadR ?_ | refine s_indexT ?_ | refine s_indexRT ?_ | refine s_loadBs ?_ | refine s_loadHs ?_ | refine s_len ?_ | refine s_lenR ?_ | refine s_subI ?_ | refine s_index ?_ | refine s_indexR ?_ | refine s_sliceHi ?_ | refine s_mulI ?_ | refine s_addI ?_ | refine a7 ?_ | refine a8 ?_ | refine a9 ?_ | refine RW.storeR rfl rfl rfl rfl (by first | rfl | (simp [allOne, cellsL, one1]; done) | (simp [allOne, cellsL, one1]; first | assumption | (refine ⟨?_, ?_⟩ <;> assumption))) rfl ?_ | refine a10 ?_ | refine RW.storeR1 rfl rfl (by first | rfl | exact IsSl.one1 (by assumption) | exact IsSl.one1 (SliceRep.isSl (by assumption))) rfl rfl ?_)
  rw [e1]
  refine Runs.regionD _ _ [12] (fun x hx => List.mem_cons_of_mem _ hx) (List.Sublist.refl _) (by kernel_rfl) ?_
  refine d1 0 2 ?_
  (first | refine t_fieldB 2 ?_ | refine t_fieldV 2 ?_)
  (first | refine t_loadB 3 ?_ | refine t_loadH 3 ?_ | refine t_loadR 3 ?_)
  refine d1 4 2 ?_
  (first | refine t_fieldB 6 ?_ | refine t_fieldV 6 ?_)
  (first | refine t_loadB 7 ?_ | refine t_loadH 7 ?_ | refine t_loadR 7 ?_)
  refine d2 8 ?_
  (first | refine t_index 9 ?_ | refine t_indexR 9 ?_)
  refine DW.q 10 rfl (by kernel_rfl) (QV.loadRs rfl (hlz)) rfl rfl ?_
  (first | refine t_indexT 11 ?_ | refine t_indexRT 11 ?_)
  refine DW.storeR 12 rfl (by kernel_rfl) rfl rfl rfl hp1 rfl rfl rfl ?_
  refine DW.done (by kernel_rfl) ?_
  have hcv : m + 1 ≤ capOf v := by
    obtain ⟨A, cap, rfl, h, _⟩ := hv
    exact h
  have hv2 : IsSl (slv v 4 0 m (capOf v)) m := by
    have := isSl_slv (s := 4) hv (Nat.zero_le m) (by omega) (Nat.le_refl _) (by omega)
    simpa using this
  repeat (first | refine a1 ?_ | refine a3 ?_ | refine a4 ?_ | refine a5 ?_ | refine a6 ?_ | refine s_fieldB ?_ | refine s_fieldV ?_ | refine s_loadB ?_ | refine s_loadH ?_ | refine s_loadR ?_ | refine s_indexT ?_ | refine s_indexRT ?_ | refine s_loadBs ?_ | refine s_loadHs ?_ | refine s_len ?_ | refine s_lenR ?_ | refine s_subI ?_ | refine s_index ?_ | refine s_indexR ?_ | refine s_sliceHi ?_ | refine s_mulI ?_ | refine s_addI ?_ | refine a7 ?_ | refine a8 ?_ | refine a9 ?_ | refine RW.storeR rfl rfl rfl rfl (by first | rfl | (simp [allOne, cellsL, one1]; done) | (simp [allOne, cellsL, one1]; first | assumption | (refine ⟨?_, ?_⟩ <;> assumption))) rfl ?_ | refine a10 ?_ | refine RW.storeR1 rfl rfl (by first | rfl | exact IsSl.one1 (by assumption) | exact IsSl.one1 (SliceRep.isSl (by assumption))) rfl rfl ?_)
  refine Runs.shrink v m (by omega) (by omega) ?_
  generalize slv v 4 0 m (capOf v) = v2 at *
  have hcst := hcs1.takeN (m := m) (s := 4) rfl
  refine Runs.loop (fun (s : Nat × List Value × List Part) => s.1 ≤ m ∧ s.2.2.length = m ∧ CellsRep H PartL s.2.2 s.2.1 ∧ s.2.2.Perm ((ps.set 0 z).take m) ∧ DownI s.1 s.2.2) (fun s => m - s.1) (fun _ => [H])
    (fun s => [.blk b3 102 [.slice Ax x.links.length capx, .int .i64 x.at_, .int .i64 x.cost, .int .i64 x.whole], .blk b2 102 [.slice none 0 0, .int .i64 0, .int .i64 0, .int .i64 0], .blk bh 106 [v2, lessV], .row 102 4 v2 m s.2.1])
    (fun s => [(0, .pointer (some ⟨bh, 0, none⟩)), (2, .pointer (some ⟨b2, 0, none⟩)), (3, .pointer (some ⟨b3, 0, none⟩)), (4, .int .i64 (m : Int)), (5, .int .i64 (s.1 : Int))]) (0, _, (ps.set 0 z).take m) ⟨Nat.zero_le _, by simp; omega, hcst, List.Perm.refl _, hst⟩ (fun h => by
      refine Runs.weak (h) (by repeat (first | exact trivial | refine And.intro rfl ?_)) (fun x hx => List.mem_cons_of_mem _ (SubH.h x hx)) (by repeat (first | exact List.nil_sublist _ | exact List.Sublist.refl _ | refine List.Sublist.cons_cons _ ?_ | refine List.Sublist.cons _ ?_))) ?_
  clear hp1 hcs1 hcst cs1
  rintro ⟨i, cs, q⟩ ⟨hi, hql, hcs, hperm, hdown⟩ ih
  dsimp only at hi hql hcs hperm hdown ⊢
  have e3 : 2 * (i : Int) + 1 = ((2 * i + 1 : Nat) : Int) := by omega
  repeat (first | refine a1 ?_ | refine a3 ?_ | refine a4 ?_ | refine a5 ?_ | refine a6 ?_ | refine s_fieldB ?_ | refine s_fieldV ?_ | refine s_loadB ?_ | refine s_loadH ?_ | refine s_loadR ?_ | refine s_indexT ?_ | refine s_indexRT ?_ | refine s_loadBs ?_ | refine s_loadHs ?_ | refine s_len ?_ | refine s_lenR ?_ | refine s_subI ?_ | refine s_index ?_ | refine s_indexR ?_ | refine s_sliceHi ?_ | refine s_mulI ?_ | refine s_addI ?_ | refine a7 ?_ | refine a8 ?_ | refine a9 ?_ | refine RW.storeR rfl rfl rfl rfl (by first | rfl | (simp [allOne, cellsL, one1]; done) | (simp [allOne, cellsL, one1]; first | assumption | (refine ⟨?_, ?_⟩ <;> assumption))) rfl ?_ | refine a10 ?_ | refine RW.storeR1 rfl rfl (by first | rfl | exact IsSl.one1 (by assumption) | exact IsSl.one1 (SliceRep.isSl (by assumption))) rfl rfl ?_)
  rw [e3]
  generalize hk : 2 * i + 1 = k at *
  have e4 : (k : Int) + 1 = ((k + 1 : Nat) : Int) := by omega
  repeat (first | refine a1 ?_ | refine a3 ?_ | refine a4 ?_ | refine a5 ?_ | refine a6 ?_ | refine s_fieldB ?_ | refine s_fieldV ?_ | refine s_loadB ?_ | refine s_loadH ?_ | refine s_loadR ?_ | refine s_indexT ?_ | refine s_indexRT ?_ | refine s_loadBs ?_ | refine s_loadHs ?_ | refine s_len ?_ | refine s_lenR ?_ | refine s_subI ?_ | refine s_index ?_ | refine s_indexR ?_ | refine s_sliceHi ?_ | refine s_mulI ?_ | refine s_addI ?_ | refine a7 ?_ | refine a8 ?_ | refine a9 ?_ | refine RW.storeR rfl rfl rfl rfl (by first | rfl | (simp [allOne, cellsL, one1]; done) | (simp [allOne, cellsL, one1]; first | assumption | (refine ⟨?_, ?_⟩ <;> assumption))) rfl ?_ | refine a10 ?_ | refine RW.storeR1 rfl rfl (by first | rfl | exact IsSl.one1 (by assumption) | exact IsSl.one1 (SliceRep.isSl (by assumption))) rfl rfl ?_)
  refine Runs.cond_d rfl (fun hend => ?_) (fun hend => ?_)
  · have hq : HeapO q := hdown.done (fun j y a' hj hy ha' => by
      rw [List.getElem?_eq_none (by omega)] at hy; cases hy)
    subst hql
    repeat (first | refine a1 ?_ | refine a3 ?_ | refine a4 ?_ | refine a5 ?_ | refine a6 ?_ | refine s_fieldB ?_ | refine s_fieldV ?_ | refine s_loadB ?_ | refine s_loadH ?_ | refine s_loadR ?_ | refine s_indexT ?_ | refine s_indexRT ?_ | refine s_loadBs ?_ | refine s_loadHs ?_ | refine s_len ?_ | refine s_lenR ?_ | refine s_subI ?_ | refine s_index ?_ | refine s_indexR ?_ | refine s_sliceHi ?_ | refine s_mulI ?_ | refine s_addI ?_ | refine a7 ?_ | refine a8 ?_ | refine a9 ?_ | refine RW.storeR rfl rfl rfl rfl (by first | rfl | (simp [allOne, cellsL, one1]; done) | (simp [allOne, cellsL, one1]; first | assumption | (refine ⟨?_, ?_⟩ <;> assumption))) rfl ?_ | refine a10 ?_ | refine RW.storeR1 rfl rfl (by first | rfl | exact IsSl.one1 (by assumption) | exact IsSl.one1 (SliceRep.isSl (by assumption))) rfl rfl ?_)
    refine Runs.retC Try.func56 Try.results56 rfl (fun w hm => hR _ w _ H _ (by simp) (Snap.le.refl _) ⟨x, _, v2, cs, q, rfl, hvx, rfl, hcs, hpp.trans (List.Perm.cons _ hperm.symm), hq, fun y hy => hmin y (hperm.mem_iff.1 hy)⟩ (hm.sub (fun _ h => List.mem_cons_of_mem _ h) SubO.h))
  · have hil : i < q.length := by omega
    obtain ⟨a, ha⟩ : ∃ a, q[i]? = some a := ⟨_, List.getElem?_eq_getElem hil⟩
    obtain ⟨c1, hc1⟩ : ∃ c, q[k]? = some c := ⟨_, List.getElem?_eq_getElem (by omega)⟩
    obtain ⟨va, hva, hla⟩ := hcs.part ha
    obtain ⟨v1, hv1c, hl1⟩ := hcs.part hc1
    subst hql
    repeat (first | refine a1 ?_ | refine a3 ?_ | refine a4 ?_ | refine a5 ?_ | refine a6 ?_ | refine s_fieldB ?_ | refine s_fieldV ?_ | refine s_loadB ?_ | refine s_loadH ?_ | refine s_loadR ?_ | refine s_indexT ?_ | refine s_indexRT ?_ | refine s_loadBs ?_ | refine s_loadHs ?_ | refine s_len ?_ | refine s_lenR ?_ | refine s_subI ?_ | refine s_index ?_ | refine s_indexR ?_ | refine s_sliceHi ?_ | refine s_mulI ?_ | refine s_addI ?_ | refine a7 ?_ | refine a8 ?_ | refine a9 ?_ | refine RW.storeR rfl rfl rfl rfl (by first | rfl | (simp [allOne, cellsL, one1]; done) | (simp [allOne, cellsL, one1]; first | assumption | (refine ⟨?_, ?_⟩ <;> assumption))) rfl ?_ | refine a10 ?_ | refine RW.storeR1 rfl rfl (by first | rfl | exact IsSl.one1 (by assumption) | exact IsSl.one1 (SliceRep.isSl (by assumption))) rfl rfl ?_)
    refine Runs.regionD _ _ [] (fun x hx => List.mem_cons_of_mem _ hx) (List.Sublist.refl _) (by kernel_rfl) ?_
    refine d2 0 ?_
    refine t_addI 1 ?_
    refine d1 2 3 ?_
    refine DW.dec 51 rfl (fun hk1 => ?_) (fun hk1 => ?_)
    · obtain ⟨c2, hc2⟩ : ∃ c, q[k + 1]? = some c := ⟨_, List.getElem?_eq_getElem (by omega)⟩
      obtain ⟨v2c, hv2c, hl2⟩ := hcs.part hc2
      refine d1 5 2 ?_
      (first | refine t_fieldB 7 ?_ | refine t_fieldV 7 ?_)
      (first | refine t_loadB 8 ?_ | refine t_loadH 8 ?_ | refine t_loadR 8 ?_)
      refine d1 9 2 ?_
      (first | refine t_fieldB 11 ?_ | refine t_fieldV 11 ?_)
      (first | refine t_loadB 12 ?_ | refine t_loadH 12 ?_ | refine t_loadR 12 ?_)
      refine d2 13 ?_
      refine t_addI 14 ?_
      refine DW.qF 15 rfl (by kernel_rfl) (QF.index rfl rfl hv2 e4 (by omega)) rfl rfl ?_
      refine DW.q 16 rfl (by kernel_rfl) (QV.loadRs rfl (hl2)) rfl rfl ?_
      refine d1 17 2 ?_
      (first | refine t_fieldB 19 ?_ | refine t_fieldV 19 ?_)
      (first | refine t_loadB 20 ?_ | refine t_loadH 20 ?_ | refine t_loadR 20 ?_)
      refine d2 21 ?_
      (first | refine t_index 22 ?_ | refine t_indexR 22 ?_)
      refine DW.q 23 rfl (by kernel_rfl) (QV.loadRs rfl (hl1)) rfl rfl ?_
      refine DW.callP 24 rfl (by kernel_rfl) rfl rfl (lt_c hv2c hv1c) rfl rfl ?_
      rintro _ _ rfl
      refine d2 25 ?_
      refine DW.done (by kernel_rfl) ?_
      repeat (first | refine a1 ?_ | refine a3 ?_ | refine a4 ?_ | refine a5 ?_ | refine a6 ?_ | refine s_fieldB ?_ | refine s_fieldV ?_ | refine s_loadB ?_ | refine s_loadH ?_ | refine s_loadR ?_ | refine s_indexT ?_ | refine s_indexRT ?_ | refine s_loadBs ?_ | refine s_loadHs ?_ | refine s_len ?_ | refine s_lenR ?_ | refine s_subI ?_ | refine s_index ?_ | refine s_indexR ?_ | refine s_sliceHi ?_ | refine s_mulI ?_ | refine s_addI ?_ | refine a7 ?_ | refine a8 ?_ | refine a9 ?_ | refine RW.storeR rfl rfl rfl rfl (by first | rfl | (simp [allOne, cellsL, one1]; done) | (simp [allOne, cellsL, one1]; first | assumption | (refine ⟨?_, ?_⟩ <;> assumption))) rfl ?_ | refine a10 ?_ | refine RW.storeR1 rfl rfl (by first | rfl | exact IsSl.one1 (by assumption) | exact IsSl.one1 (SliceRep.isSl (by assumption))) rfl rfl ?_)
      refine Runs.cond_d rfl (fun h21 => ?_) (fun h21 => ?_)
      · repeat (first | refine a1 ?_ | refine a3 ?_ | refine a4 ?_ | refine a5 ?_ | refine a6 ?_ | refine s_fieldB ?_ | refine s_fieldV ?_ | refine s_loadB ?_ | refine s_loadH ?_ | refine s_loadR ?_ | refine s_indexT ?_ | refine s_indexRT ?_ | refine s_loadBs ?_ | refine s_loadHs ?_ | refine s_len ?_ | refine s_lenR ?_ | refine s_subI ?_ | refine s_index ?_ | refine s_indexR ?_ | refine s_sliceHi ?_ | refine s_mulI ?_ | refine s_addI ?_ | refine a7 ?_ | refine a8 ?_ | refine a9 ?_ | refine RW.storeR rfl rfl rfl rfl (by first | rfl | (simp [allOne, cellsL, one1]; done) | (simp [allOne, cellsL, one1]; first | assumption | (refine ⟨?_, ?_⟩ <;> assumption))) rfl ?_ | refine a10 ?_ | refine RW.storeR1 rfl rfl (by first | rfl | exact IsSl.one1 (by assumption) | exact IsSl.one1 (SliceRep.isSl (by assumption))) rfl rfl ?_)
        rw [e4]
        obtain ⟨kk, hkke⟩ : ∃ kk, kk = k + 1 := ⟨_, rfl⟩
        obtain ⟨c, hce⟩ : ∃ c, c = c2 := ⟨_, rfl⟩
        have hc : q[kk]? = some c := by rw [hkke, hce]; exact hc2
        have hkk : kk = 2 * i + 1 ∨ kk = 2 * i + 2 := by omega
        have hoth : ∀ (j : Nat) (y : Part), (j = 2 * i + 1 ∨ j = 2 * i + 2) → j ≠ kk → q[j]? = some y → ¬ partLt y c := by
          intro j y hj hjk hy
          rw [show j = k by omega, hc1] at hy; injection hy with hy; subst hy
          rw [hce]; exact partLt_asymm h21
        rw [← hkke]
        have hkm : kk < q.length := (List.getElem?_eq_some_iff.1 hc).1
        obtain ⟨vc, hvc, hlc⟩ := hcs.part hc
        obtain ⟨cs1, hp1, hcs1⟩ := hcs.put (s := 4) (k := i) (by omega) rfl ⟨vc, rfl, hvc⟩
        obtain ⟨cs2, hp2, hcs2⟩ := hcs1.put (s := 4) (k := kk) (by simp; omega) rfl ⟨va, rfl, hva⟩
        repeat (first | refine a1 ?_ | refine a3 ?_ | refine a4 ?_ | refine a5 ?_ | refine a6 ?_ | refine s_fieldB ?_ | refine s_fieldV ?_ | refine s_loadB ?_ | refine s_loadH ?_ | refine s_loadR ?_ | refine s_indexT ?_ | refine s_indexRT ?_ | refine s_loadBs ?_ | refine s_loadHs ?_ | refine s_len ?_ | refine s_lenR ?_ | refine s_subI ?_ | refine s_index ?_ | refine s_indexR ?_ | refine s_sliceHi ?_ | refine s_mulI ?_ | refine s_addI ?_ | refine a7 ?_ | refine a8 ?_ | refine a9 ?_ | refine RW.storeR rfl rfl rfl rfl (by first | rfl | (simp [allOne, cellsL, one1]; done) | (simp [allOne, cellsL, one1]; first | assumption | (refine ⟨?_, ?_⟩ <;> assumption))) rfl ?_ | refine a10 ?_ | refine RW.storeR1 rfl rfl (by first | rfl | exact IsSl.one1 (by assumption) | exact IsSl.one1 (SliceRep.isSl (by assumption))) rfl rfl ?_)
        refine Runs.regionD _ _ [] (fun x hx => List.mem_cons_of_mem _ hx) (List.Sublist.refl _) (by kernel_rfl) ?_
        refine d1 0 2 ?_
        (first | refine t_fieldB 2 ?_ | refine t_fieldV 2 ?_)
        (first | refine t_loadB 3 ?_ | refine t_loadH 3 ?_ | refine t_loadR 3 ?_)
        refine d1 4 2 ?_
        (first | refine t_fieldB 6 ?_ | refine t_fieldV 6 ?_)
        (first | refine t_loadB 7 ?_ | refine t_loadH 7 ?_ | refine t_loadR 7 ?_)
        refine d2 8 ?_
        (first | refine t_index 9 ?_ | refine t_indexR 9 ?_)
        refine DW.q 10 rfl (by kernel_rfl) (QV.loadRs rfl (hlc)) rfl rfl ?_
        refine d1 11 2 ?_
        (first | refine t_fieldB 13 ?_ | refine t_fieldV 13 ?_)
        (first | refine t_loadB 14 ?_ | refine t_loadH 14 ?_ | refine t_loadR 14 ?_)
        refine d2 15 ?_
        (first | refine t_index 16 ?_ | refine t_indexR 16 ?_)
        refine DW.q 17 rfl (by kernel_rfl) (QV.loadRs rfl (hla)) rfl rfl ?_
        refine DW.callP 18 rfl (by kernel_rfl) rfl rfl (lt_c hvc hva) rfl rfl ?_
        rintro _ _ rfl
        refine d2 19 ?_
        refine DW.done (by kernel_rfl) ?_
        repeat (first | refine a1 ?_ | refine a3 ?_ | refine a4 ?_ | refine a5 ?_ | refine a6 ?_ | refine s_fieldB ?_ | refine s_fieldV ?_ | refine s_loadB ?_ | refine s_loadH ?_ | refine s_loadR ?_ | refine s_indexT ?_ | refine s_indexRT ?_ | refine s_loadBs ?_ | refine s_loadHs ?_ | refine s_len ?_ | refine s_lenR ?_ | refine s_subI ?_ | refine s_index ?_ | refine s_indexR ?_ | refine s_sliceHi ?_ | refine s_mulI ?_ | refine s_addI ?_ | refine a7 ?_ | refine a8 ?_ | refine a9 ?_ | refine RW.storeR rfl rfl rfl rfl (by first | rfl | (simp [allOne, cellsL, one1]; done) | (simp [allOne, cellsL, one1]; first | assumption | (refine ⟨?_, ?_⟩ <;> assumption))) rfl ?_ | refine a10 ?_ | refine RW.storeR1 rfl rfl (by first | rfl | exact IsSl.one1 (by assumption) | exact IsSl.one1 (SliceRep.isSl (by assumption))) rfl rfl ?_)
        refine Runs.cond rfl (fun hn => ?_) (fun hn => ?_)
        · have hn : ¬ partLt c a := by simpa using hn
          have hq : HeapO q := hdown.done (fun j y a' hj hy ha' => by
            rw [ha] at ha'; injection ha' with ha'; subst ha'
            by_cases e : j = kk
            · subst e; rw [hc] at hy; injection hy with hy; subst hy; exact hn
            · exact partLt_neg (hoth j y hj e hy) hn)
          repeat (first | refine a1 ?_ | refine a3 ?_ | refine a4 ?_ | refine a5 ?_ | refine a6 ?_ | refine s_fieldB ?_ | refine s_fieldV ?_ | refine s_loadB ?_ | refine s_loadH ?_ | refine s_loadR ?_ | refine s_indexT ?_ | refine s_indexRT ?_ | refine s_loadBs ?_ | refine s_loadHs ?_ | refine s_len ?_ | refine s_lenR ?_ | refine s_subI ?_ | refine s_index ?_ | refine s_indexR ?_ | refine s_sliceHi ?_ | refine s_mulI ?_ | refine s_addI ?_ | refine a7 ?_ | refine a8 ?_ | refine a9 ?_ | refine RW.storeR rfl rfl rfl rfl (by first | rfl | (simp [allOne, cellsL, one1]; done) | (simp [allOne, cellsL, one1]; first | assumption | (refine ⟨?_, ?_⟩ <;> assumption))) rfl ?_ | refine a10 ?_ | refine RW.storeR1 rfl rfl (by first | rfl | exact IsSl.one1 (by assumption) | exact IsSl.one1 (SliceRep.isSl (by assumption))) rfl rfl ?_)
          refine Runs.retC Try.func56 Try.results56 rfl (fun w hm => hR _ w _ H _ (by simp) (Snap.le.refl _) ⟨x, _, v2, cs, q, rfl, hvx, rfl, hcs, hpp.trans (List.Perm.cons _ hperm.symm), hq, fun y hy => hmin y (hperm.mem_iff.1 hy)⟩ (hm.sub (fun _ h => List.mem_cons_of_mem _ h) SubO.h))
        · have hn : partLt c a := by simpa using hn
          have hstep := hdown.step hkk ha hc hn hoth
          have hsp := swp_perm ha hc
          have hsl := swp_length q i kk a c
          repeat (first | refine a1 ?_ | refine a3 ?_ | refine a4 ?_ | refine a5 ?_ | refine a6 ?_ | refine s_fieldB ?_ | refine s_fieldV ?_ | refine s_loadB ?_ | refine s_loadH ?_ | refine s_loadR ?_ | refine s_indexT ?_ | refine s_indexRT ?_ | refine s_loadBs ?_ | refine s_loadHs ?_ | refine s_len ?_ | refine s_lenR ?_ | refine s_subI ?_ | refine s_index ?_ | refine s_indexR ?_ | refine s_sliceHi ?_ | refine s_mulI ?_ | refine s_addI ?_ | refine a7 ?_ | refine a8 ?_ | refine a9 ?_ | refine RW.storeR rfl rfl rfl rfl (by first | rfl | (simp [allOne, cellsL, one1]; done) | (simp [allOne, cellsL, one1]; first | assumption | (refine ⟨?_, ?_⟩ <;> assumption))) rfl ?_ | refine a10 ?_ | refine RW.storeR1 rfl rfl (by first | rfl | exact IsSl.one1 (by assumption) | exact IsSl.one1 (SliceRep.isSl (by assumption))) rfl rfl ?_)
          refine Runs.regionD _ _ [25, 26, 27] (fun x hx => List.mem_cons_of_mem _ hx) (List.Sublist.refl _) (by kernel_rfl) ?_
          refine d1 0 2 ?_
          (first | refine t_fieldB 2 ?_ | refine t_fieldV 2 ?_)
          (first | refine t_loadB 3 ?_ | refine t_loadH 3 ?_ | refine t_loadR 3 ?_)
          refine d1 4 3 ?_
          (first | refine t_fieldB 7 ?_ | refine t_fieldV 7 ?_)
          (first | refine t_loadB 8 ?_ | refine t_loadH 8 ?_ | refine t_loadR 8 ?_)
          refine d1 9 3 ?_
          (first | refine t_fieldB 12 ?_ | refine t_fieldV 12 ?_)
          (first | refine t_loadB 13 ?_ | refine t_loadH 13 ?_ | refine t_loadR 13 ?_)
          refine d2 14 ?_
          (first | refine t_index 15 ?_ | refine t_indexR 15 ?_)
          refine DW.q 16 rfl (by kernel_rfl) (QV.loadRs rfl (hlc)) rfl rfl ?_
          refine d1 17 2 ?_
          (first | refine t_fieldB 19 ?_ | refine t_fieldV 19 ?_)
          (first | refine t_loadB 20 ?_ | refine t_loadH 20 ?_ | refine t_loadR 20 ?_)
          refine d2 21 ?_
          (first | refine t_index 22 ?_ | refine t_indexR 22 ?_)
          refine DW.q 23 rfl (by kernel_rfl) (QV.loadRs rfl (hla)) rfl rfl ?_
          (first | refine t_index 24 ?_ | refine t_indexR 24 ?_)
          refine DW.storeR 25 rfl (by kernel_rfl) rfl rfl rfl hp1 rfl (by simp [allOne, cellsL, one1]; exact hvc.isSl.one1) rfl ?_
          (first | refine DW.qL 26 rfl (by kernel_rfl) rfl (QF.index rfl rfl (by first | assumption | exact SliceRep.isSl (by assumption)) rfl (by omega)).qv rfl rfl ?_ | refine DW.qL 26 rfl (by kernel_rfl) rfl (QV.indexR rfl rfl rfl (by omega)) rfl rfl ?_)
          refine DW.storeR 27 rfl (by kernel_rfl) rfl rfl rfl hp2 rfl (by simp [allOne, cellsL, one1]; exact hva.isSl.one1) rfl ?_
          refine DW.done (by kernel_rfl) ?_
          repeat (first | refine a1 ?_ | refine a3 ?_ | refine a4 ?_ | refine a5 ?_ | refine a6 ?_ | refine s_fieldB ?_ | refine s_fieldV ?_ | refine s_loadB ?_ | refine s_loadH ?_ | refine s_loadR ?_ | refine s_indexT ?_ | refine s_indexRT ?_ | refine s_loadBs ?_ | refine s_loadHs ?_ | refine s_len ?_ | refine s_lenR ?_ | refine s_subI ?_ | refine s_index ?_ | refine s_indexR ?_ | refine s_sliceHi ?_ | refine s_mulI ?_ | refine s_addI ?_ | refine a7 ?_ | refine a8 ?_ | refine a9 ?_ | refine RW.storeR rfl rfl rfl rfl (by first | rfl | (simp [allOne, cellsL, one1]; done) | (simp [allOne, cellsL, one1]; first | assumption | (refine ⟨?_, ?_⟩ <;> assumption))) rfl ?_ | refine a10 ?_ | refine RW.storeR1 rfl rfl (by first | rfl | exact IsSl.one1 (by assumption) | exact IsSl.one1 (SliceRep.isSl (by assumption))) rfl rfl ?_)
          refine Runs.weak (ih (kk, cs2, swp q i kk a c) ⟨by dsimp only; omega, by dsimp only; omega, hcs2, hsp.trans hperm, hstep⟩ (by dsimp only; omega)) (by repeat (first | exact trivial | refine And.intro rfl ?_)) (fun x hx => List.mem_cons_of_mem _ (SubH.h x hx)) (by repeat (first | exact List.nil_sublist _ | exact List.Sublist.refl _ | refine List.Sublist.cons_cons _ ?_ | refine List.Sublist.cons _ ?_))
      · obtain ⟨kk, hkke⟩ : ∃ kk, kk = k := ⟨_, rfl⟩
        obtain ⟨c, hce⟩ : ∃ c, c = c1 := ⟨_, rfl⟩
        have hc : q[kk]? = some c := by rw [hkke, hce]; exact hc1
        have hkk : kk = 2 * i + 1 ∨ kk = 2 * i + 2 := by omega
        have hoth : ∀ (j : Nat) (y : Part), (j = 2 * i + 1 ∨ j = 2 * i + 2) → j ≠ kk → q[j]? = some y → ¬ partLt y c := by
          intro j y hj hjk hy
          rw [show j = k + 1 by omega, hc2] at hy; injection hy with hy; subst hy
          rw [hce]; exact h21
        rw [← hkke]
        have hkm : kk < q.length := (List.getElem?_eq_some_iff.1 hc).1
        obtain ⟨vc, hvc, hlc⟩ := hcs.part hc
        obtain ⟨cs1, hp1, hcs1⟩ := hcs.put (s := 4) (k := i) (by omega) rfl ⟨vc, rfl, hvc⟩
        obtain ⟨cs2, hp2, hcs2⟩ := hcs1.put (s := 4) (k := kk) (by simp; omega) rfl ⟨va, rfl, hva⟩
        repeat (first | refine a1 ?_ | refine a3 ?_ | refine a4 ?_ | refine a5 ?_ | refine a6 ?_ | refine s_fieldB ?_ | refine s_fieldV ?_ | refine s_loadB ?_ | refine s_loadH ?_ | refine s_loadR ?_ | refine s_indexT ?_ | refine s_indexRT ?_ | refine s_loadBs ?_ | refine s_loadHs ?_ | refine s_len ?_ | refine s_lenR ?_ | refine s_subI ?_ | refine s_index ?_ | refine s_indexR ?_ | refine s_sliceHi ?_ | refine s_mulI ?_ | refine s_addI ?_ | refine a7 ?_ | refine a8 ?_ | refine a9 ?_ | refine RW.storeR rfl rfl rfl rfl (by first | rfl | (simp [allOne, cellsL, one1]; done) | (simp [allOne, cellsL, one1]; first | assumption | (refine ⟨?_, ?_⟩ <;> assumption))) rfl ?_ | refine a10 ?_ | refine RW.storeR1 rfl rfl (by first | rfl | exact IsSl.one1 (by assumption) | exact IsSl.one1 (SliceRep.isSl (by assumption))) rfl rfl ?_)
        refine Runs.regionD _ _ [] (fun x hx => List.mem_cons_of_mem _ hx) (List.Sublist.refl _) (by kernel_rfl) ?_
        refine d1 0 2 ?_
        (first | refine t_fieldB 2 ?_ | refine t_fieldV 2 ?_)
        (first | refine t_loadB 3 ?_ | refine t_loadH 3 ?_ | refine t_loadR 3 ?_)
        refine d1 4 2 ?_
        (first | refine t_fieldB 6 ?_ | refine t_fieldV 6 ?_)
        (first | refine t_loadB 7 ?_ | refine t_loadH 7 ?_ | refine t_loadR 7 ?_)
        refine d2 8 ?_
        (first | refine t_index 9 ?_ | refine t_indexR 9 ?_)
        refine DW.q 10 rfl (by kernel_rfl) (QV.loadRs rfl (hlc)) rfl rfl ?_
        refine d1 11 2 ?_
        (first | refine t_fieldB 13 ?_ | refine t_fieldV 13 ?_)
        (first | refine t_loadB 14 ?_ | refine t_loadH 14 ?_ | refine t_loadR 14 ?_)
        refine d2 15 ?_
        (first | refine t_index 16 ?_ | refine t_indexR 16 ?_)
        refine DW.q 17 rfl (by kernel_rfl) (QV.loadRs rfl (hla)) rfl rfl ?_
        refine DW.callP 18 rfl (by kernel_rfl) rfl rfl (lt_c hvc hva) rfl rfl ?_
        rintro _ _ rfl
        refine d2 19 ?_
        refine DW.done (by kernel_rfl) ?_
        repeat (first | refine a1 ?_ | refine a3 ?_ | refine a4 ?_ | refine a5 ?_ | refine a6 ?_ | refine s_fieldB ?_ | refine s_fieldV ?_ | refine s_loadB ?_ | refine s_loadH ?_ | refine s_loadR ?_ | refine s_indexT ?_ | refine s_indexRT ?_ | refine s_loadBs ?_ | refine s_loadHs ?_ | refine s_len ?_ | refine s_lenR ?_ | refine s_subI ?_ | refine s_index ?_ | refine s_indexR ?_ | refine s_sliceHi ?_ | refine s_mulI ?_ | refine s_addI ?_ | refine a7 ?_ | refine a8 ?_ | refine a9 ?_ | refine RW.storeR rfl rfl rfl rfl (by first | rfl | (simp [allOne, cellsL, one1]; done) | (simp [allOne, cellsL, one1]; first | assumption | (refine ⟨?_, ?_⟩ <;> assumption))) rfl ?_ | refine a10 ?_ | refine RW.storeR1 rfl rfl (by first | rfl | exact IsSl.one1 (by assumption) | exact IsSl.one1 (SliceRep.isSl (by assumption))) rfl rfl ?_)
        refine Runs.cond rfl (fun hn => ?_) (fun hn => ?_)
        · have hn : ¬ partLt c a := by simpa using hn
          have hq : HeapO q := hdown.done (fun j y a' hj hy ha' => by
            rw [ha] at ha'; injection ha' with ha'; subst ha'
            by_cases e : j = kk
            · subst e; rw [hc] at hy; injection hy with hy; subst hy; exact hn
            · exact partLt_neg (hoth j y hj e hy) hn)
          repeat (first | refine a1 ?_ | refine a3 ?_ | refine a4 ?_ | refine a5 ?_ | refine a6 ?_ | refine s_fieldB ?_ | refine s_fieldV ?_ | refine s_loadB ?_ | refine s_loadH ?_ | refine s_loadR ?_ | refine s_indexT ?_ | refine s_indexRT ?_ | refine s_loadBs ?_ | refine s_loadHs ?_ | refine s_len ?_ | refine s_lenR ?_ | refine s_subI ?_ | refine s_index ?_ | refine s_indexR ?_ | refine s_sliceHi ?_ | refine s_mulI ?_ | refine s_addI ?_ | refine a7 ?_ | refine a8 ?_ | refine a9 ?_ | refine RW.storeR rfl rfl rfl rfl (by first | rfl | (simp [allOne, cellsL, one1]; done) | (simp [allOne, cellsL, one1]; first | assumption | (refine ⟨?_, ?_⟩ <;> assumption))) rfl ?_ | refine a10 ?_ | refine RW.storeR1 rfl rfl (by first | rfl | exact IsSl.one1 (by assumption) | exact IsSl.one1 (SliceRep.isSl (by assumption))) rfl rfl ?_)
          refine Runs.retC Try.func56 Try.results56 rfl (fun w hm => hR _ w _ H _ (by simp) (Snap.le.refl _) ⟨x, _, v2, cs, q, rfl, hvx, rfl, hcs, hpp.trans (List.Perm.cons _ hperm.symm), hq, fun y hy => hmin y (hperm.mem_iff.1 hy)⟩ (hm.sub (fun _ h => List.mem_cons_of_mem _ h) SubO.h))
        · have hn : partLt c a := by simpa using hn
          have hstep := hdown.step hkk ha hc hn hoth
          have hsp := swp_perm ha hc
          have hsl := swp_length q i kk a c
          repeat (first | refine a1 ?_ | refine a3 ?_ | refine a4 ?_ | refine a5 ?_ | refine a6 ?_ | refine s_fieldB ?_ | refine s_fieldV ?_ | refine s_loadB ?_ | refine s_loadH ?_ | refine s_loadR ?_ | refine s_indexT ?_ | refine s_indexRT ?_ | refine s_loadBs ?_ | refine s_loadHs ?_ | refine s_len ?_ | refine s_lenR ?_ | refine s_subI ?_ | refine s_index ?_ | refine s_indexR ?_ | refine s_sliceHi ?_ | refine s_mulI ?_ | refine s_addI ?_ | refine a7 ?_ | refine a8 ?_ | refine a9 ?_ | refine RW.storeR rfl rfl rfl rfl (by first | rfl | (simp [allOne, cellsL, one1]; done) | (simp [allOne, cellsL, one1]; first | assumption | (refine ⟨?_, ?_⟩ <;> assumption))) rfl ?_ | refine a10 ?_ | refine RW.storeR1 rfl rfl (by first | rfl | exact IsSl.one1 (by assumption) | exact IsSl.one1 (SliceRep.isSl (by assumption))) rfl rfl ?_)
          refine Runs.regionD _ _ [25, 26, 27] (fun x hx => List.mem_cons_of_mem _ hx) (List.Sublist.refl _) (by kernel_rfl) ?_
          refine d1 0 2 ?_
          (first | refine t_fieldB 2 ?_ | refine t_fieldV 2 ?_)
          (first | refine t_loadB 3 ?_ | refine t_loadH 3 ?_ | refine t_loadR 3 ?_)
          refine d1 4 3 ?_
          (first | refine t_fieldB 7 ?_ | refine t_fieldV 7 ?_)
          (first | refine t_loadB 8 ?_ | refine t_loadH 8 ?_ | refine t_loadR 8 ?_)
          refine d1 9 3 ?_
          (first | refine t_fieldB 12 ?_ | refine t_fieldV 12 ?_)
          (first | refine t_loadB 13 ?_ | refine t_loadH 13 ?_ | refine t_loadR 13 ?_)
          refine d2 14 ?_
          (first | refine t_index 15 ?_ | refine t_indexR 15 ?_)
          refine DW.q 16 rfl (by kernel_rfl) (QV.loadRs rfl (hlc)) rfl rfl ?_
          refine d1 17 2 ?_
          (first | refine t_fieldB 19 ?_ | refine t_fieldV 19 ?_)
          (first | refine t_loadB 20 ?_ | refine t_loadH 20 ?_ | refine t_loadR 20 ?_)
          refine d2 21 ?_
          (first | refine t_index 22 ?_ | refine t_indexR 22 ?_)
          refine DW.q 23 rfl (by kernel_rfl) (QV.loadRs rfl (hla)) rfl rfl ?_
          (first | refine t_index 24 ?_ | refine t_indexR 24 ?_)
          refine DW.storeR 25 rfl (by kernel_rfl) rfl rfl rfl hp1 rfl (by simp [allOne, cellsL, one1]; exact hvc.isSl.one1) rfl ?_
          (first | refine DW.qL 26 rfl (by kernel_rfl) rfl (QF.index rfl rfl (by first | assumption | exact SliceRep.isSl (by assumption)) rfl (by omega)).qv rfl rfl ?_ | refine DW.qL 26 rfl (by kernel_rfl) rfl (QV.indexR rfl rfl rfl (by omega)) rfl rfl ?_)
          refine DW.storeR 27 rfl (by kernel_rfl) rfl rfl rfl hp2 rfl (by simp [allOne, cellsL, one1]; exact hva.isSl.one1) rfl ?_
          refine DW.done (by kernel_rfl) ?_
          repeat (first | refine a1 ?_ | refine a3 ?_ | refine a4 ?_ | refine a5 ?_ | refine a6 ?_ | refine s_fieldB ?_ | refine s_fieldV ?_ | refine s_loadB ?_ | refine s_loadH ?_ | refine s_loadR ?_ | refine s_indexT ?_ | refine s_indexRT ?_ | refine s_loadBs ?_ | refine s_loadHs ?_ | refine s_len ?_ | refine s_lenR ?_ | refine s_subI ?_ | refine s_index ?_ | refine s_indexR ?_ | refine s_sliceHi ?_ | refine s_mulI ?_ | refine s_addI ?_ | refine a7 ?_ | refine a8 ?_ | refine a9 ?_ | refine RW.storeR rfl rfl rfl rfl (by first | rfl | (simp [allOne, cellsL, one1]; done) | (simp [allOne, cellsL, one1]; first | assumption | (refine ⟨?_, ?_⟩ <;> assumption))) rfl ?_ | refine a10 ?_ | refine RW.storeR1 rfl rfl (by first | rfl | exact IsSl.one1 (by assumption) | exact IsSl.one1 (SliceRep.isSl (by assumption))) rfl rfl ?_)
          refine Runs.weak (ih (kk, cs2, swp q i kk a c) ⟨by dsimp only; omega, by dsimp only; omega, hcs2, hsp.trans hperm, hstep⟩ (by dsimp only; omega)) (by repeat (first | exact trivial | refine And.intro rfl ?_)) (fun x hx => List.mem_cons_of_mem _ (SubH.h x hx)) (by repeat (first | exact List.nil_sublist _ | exact List.Sublist.refl _ | refine List.Sublist.cons_cons _ ?_ | refine List.Sublist.cons _ ?_))
    · refine d3 5 ?_
      refine d3 6 ?_
      refine d3 7 ?_
      refine d3 8 ?_
      refine d3 9 ?_
      refine d3 10 ?_
      refine d3 11 ?_
      refine d3 12 ?_
      refine d3 13 ?_
      refine d3 14 ?_
      refine d3 15 ?_
      refine d3 16 ?_
      refine d3 17 ?_
      refine d3 18 ?_
      refine d3 19 ?_
      refine d3 20 ?_
      refine d3 21 ?_
      refine d3 22 ?_
      refine d3 23 ?_
      refine d3 24 ?_
      refine d2 25 ?_
      refine DW.done (by kernel_rfl) ?_
      obtain ⟨kk, hkke⟩ : ∃ kk, kk = k := ⟨_, rfl⟩
      obtain ⟨c, hce⟩ : ∃ c, c = c1 := ⟨_, rfl⟩
      have hc : q[kk]? = some c := by rw [hkke, hce]; exact hc1
      have hkk : kk = 2 * i + 1 ∨ kk = 2 * i + 2 := by omega
      have hoth : ∀ (j : Nat) (y : Part), (j = 2 * i + 1 ∨ j = 2 * i + 2) → j ≠ kk → q[j]? = some y → ¬ partLt y c := by
        intro j y hj hjk hy
        rw [List.getElem?_eq_none (by omega)] at hy; cases hy
      rw [← hkke]
      have hkm : kk < q.length := (List.getElem?_eq_some_iff.1 hc).1
      obtain ⟨vc, hvc, hlc⟩ := hcs.part hc
      obtain ⟨cs1, hp1, hcs1⟩ := hcs.put (s := 4) (k := i) (by omega) rfl ⟨vc, rfl, hvc⟩
      obtain ⟨cs2, hp2, hcs2⟩ := hcs1.put (s := 4) (k := kk) (by simp; omega) rfl ⟨va, rfl, hva⟩
      repeat (first | refine a1 ?_ | refine a3 ?_ | refine a4 ?_ | refine a5 ?_ | refine a6 ?_ | refine s_fieldB ?_ | refine s_fieldV ?_ | refine s_loadB ?_ | refine s_loadH ?_ | refine s_loadR ?_ | refine s_indexT ?_ | refine s_indexRT ?_ | refine s_loadBs ?_ | refine s_loadHs ?_ | refine s_len ?_ | refine s_lenR ?_ | refine s_subI ?_ | refine s_index ?_ | refine s_indexR ?_ | refine s_sliceHi ?_ | refine s_mulI ?_ | refine s_addI ?_ | refine a7 ?_ | refine a8 ?_ | refine a9 ?_ | refine RW.storeR rfl rfl rfl rfl (by first | rfl | (simp [allOne, cellsL, one1]; done) | (simp [allOne, cellsL, one1]; first | assumption | (refine ⟨?_, ?_⟩ <;> assumption))) rfl ?_ | refine a10 ?_ | refine RW.storeR1 rfl rfl (by first | rfl | exact IsSl.one1 (by assumption) | exact IsSl.one1 (SliceRep.isSl (by assumption))) rfl rfl ?_)
      refine Runs.regionD _ _ [] (fun x hx => List.mem_cons_of_mem _ hx) (List.Sublist.refl _) (by kernel_rfl) ?_
      refine d1 0 2 ?_
      (first | refine t_fieldB 2 ?_ | refine t_fieldV 2 ?_)
      (first | refine t_loadB 3 ?_ | refine t_loadH 3 ?_ | refine t_loadR 3 ?_)
      refine d1 4 2 ?_
      (first | refine t_fieldB 6 ?_ | refine t_fieldV 6 ?_)
      (first | refine t_loadB 7 ?_ | refine t_loadH 7 ?_ | refine t_loadR 7 ?_)
      refine d2 8 ?_
      (first | refine t_index 9 ?_ | refine t_indexR 9 ?_)
      refine DW.q 10 rfl (by kernel_rfl) (QV.loadRs rfl (hlc)) rfl rfl ?_
      refine d1 11 2 ?_
      (first | refine t_fieldB 13 ?_ | refine t_fieldV 13 ?_)
      (first | refine t_loadB 14 ?_ | refine t_loadH 14 ?_ | refine t_loadR 14 ?_)
      refine d2 15 ?_
      (first | refine t_index 16 ?_ | refine t_indexR 16 ?_)
      refine DW.q 17 rfl (by kernel_rfl) (QV.loadRs rfl (hla)) rfl rfl ?_
      refine DW.callP 18 rfl (by kernel_rfl) rfl rfl (lt_c hvc hva) rfl rfl ?_
      rintro _ _ rfl
      refine d2 19 ?_
      refine DW.done (by kernel_rfl) ?_
      repeat (first | refine a1 ?_ | refine a3 ?_ | refine a4 ?_ | refine a5 ?_ | refine a6 ?_ | refine s_fieldB ?_ | refine s_fieldV ?_ | refine s_loadB ?_ | refine s_loadH ?_ | refine s_loadR ?_ | refine s_indexT ?_ | refine s_indexRT ?_ | refine s_loadBs ?_ | refine s_loadHs ?_ | refine s_len ?_ | refine s_lenR ?_ | refine s_subI ?_ | refine s_index ?_ | refine s_indexR ?_ | refine s_sliceHi ?_ | refine s_mulI ?_ | refine s_addI ?_ | refine a7 ?_ | refine a8 ?_ | refine a9 ?_ | refine RW.storeR rfl rfl rfl rfl (by first | rfl | (simp [allOne, cellsL, one1]; done) | (simp [allOne, cellsL, one1]; first | assumption | (refine ⟨?_, ?_⟩ <;> assumption))) rfl ?_ | refine a10 ?_ | refine RW.storeR1 rfl rfl (by first | rfl | exact IsSl.one1 (by assumption) | exact IsSl.one1 (SliceRep.isSl (by assumption))) rfl rfl ?_)
      refine Runs.cond rfl (fun hn => ?_) (fun hn => ?_)
      · have hn : ¬ partLt c a := by simpa using hn
        have hq : HeapO q := hdown.done (fun j y a' hj hy ha' => by
          rw [ha] at ha'; injection ha' with ha'; subst ha'
          by_cases e : j = kk
          · subst e; rw [hc] at hy; injection hy with hy; subst hy; exact hn
          · exact partLt_neg (hoth j y hj e hy) hn)
        repeat (first | refine a1 ?_ | refine a3 ?_ | refine a4 ?_ | refine a5 ?_ | refine a6 ?_ | refine s_fieldB ?_ | refine s_fieldV ?_ | refine s_loadB ?_ | refine s_loadH ?_ | refine s_loadR ?_ | refine s_indexT ?_ | refine s_indexRT ?_ | refine s_loadBs ?_ | refine s_loadHs ?_ | refine s_len ?_ | refine s_lenR ?_ | refine s_subI ?_ | refine s_index ?_ | refine s_indexR ?_ | refine s_sliceHi ?_ | refine s_mulI ?_ | refine s_addI ?_ | refine a7 ?_ | refine a8 ?_ | refine a9 ?_ | refine RW.storeR rfl rfl rfl rfl (by first | rfl | (simp [allOne, cellsL, one1]; done) | (simp [allOne, cellsL, one1]; first | assumption | (refine ⟨?_, ?_⟩ <;> assumption))) rfl ?_ | refine a10 ?_ | refine RW.storeR1 rfl rfl (by first | rfl | exact IsSl.one1 (by assumption) | exact IsSl.one1 (SliceRep.isSl (by assumption))) rfl rfl ?_)
        refine Runs.retC Try.func56 Try.results56 rfl (fun w hm => hR _ w _ H _ (by simp) (Snap.le.refl _) ⟨x, _, v2, cs, q, rfl, hvx, rfl, hcs, hpp.trans (List.Perm.cons _ hperm.symm), hq, fun y hy => hmin y (hperm.mem_iff.1 hy)⟩ (hm.sub (fun _ h => List.mem_cons_of_mem _ h) SubO.h))
      · have hn : partLt c a := by simpa using hn
        have hstep := hdown.step hkk ha hc hn hoth
        have hsp := swp_perm ha hc
        have hsl := swp_length q i kk a c
        repeat (first | refine a1 ?_ | refine a3 ?_ | refine a4 ?_ | refine a5 ?_ | refine a6 ?_ | refine s_fieldB ?_ | refine s_fieldV ?_ | refine s_loadB ?_ | refine s_loadH ?_ | refine s_loadR ?_ | refine s_indexT ?_ | refine s_indexRT ?_ | refine s_loadBs ?_ | refine s_loadHs ?_ | refine s_len ?_ | refine s_lenR ?_ | refine s_subI ?_ | refine s_index ?_ | refine s_indexR ?_ | refine s_sliceHi ?_ | refine s_mulI ?_ | refine s_addI ?_ | refine a7 ?_ | refine a8 ?_ | refine a9 ?_ | refine RW.storeR rfl rfl rfl rfl (by first | rfl | (simp [allOne, cellsL, one1]; done) | (simp [allOne, cellsL, one1]; first | assumption | (refine ⟨?_, ?_⟩ <;> assumption))) rfl ?_ | refine a10 ?_ | refine RW.storeR1 rfl rfl (by first | rfl | exact IsSl.one1 (by assumption) | exact IsSl.one1 (SliceRep.isSl (by assumption))) rfl rfl ?_)
        refine Runs.regionD _ _ [25, 26, 27] (fun x hx => List.mem_cons_of_mem _ hx) (List.Sublist.refl _) (by kernel_rfl) ?_
        refine d1 0 2 ?_
        (first | refine t_fieldB 2 ?_ | refine t_fieldV 2 ?_)
        (first | refine t_loadB 3 ?_ | refine t_loadH 3 ?_ | refine t_loadR 3 ?_)
        refine d1 4 3 ?_
        (first | refine t_fieldB 7 ?_ | refine t_fieldV 7 ?_)
        (first | refine t_loadB 8 ?_ | refine t_loadH 8 ?_ | refine t_loadR 8 ?_)
        refine d1 9 3 ?_
        (first | refine t_fieldB 12 ?_ | refine t_fieldV 12 ?_)
        (first | refine t_loadB 13 ?_ | refine t_loadH 13 ?_ | refine t_loadR 13 ?_)
        refine d2 14 ?_
        (first | refine t_index 15 ?_ | refine t_indexR 15 ?_)
        refine DW.q 16 rfl (by kernel_rfl) (QV.loadRs rfl (hlc)) rfl rfl ?_
        refine d1 17 2 ?_
        (first | refine t_fieldB 19 ?_ | refine t_fieldV 19 ?_)
        (first | refine t_loadB 20 ?_ | refine t_loadH 20 ?_ | refine t_loadR 20 ?_)
        refine d2 21 ?_
        (first | refine t_index 22 ?_ | refine t_indexR 22 ?_)
        refine DW.q 23 rfl (by kernel_rfl) (QV.loadRs rfl (hla)) rfl rfl ?_
        (first | refine t_index 24 ?_ | refine t_indexR 24 ?_)
        refine DW.storeR 25 rfl (by kernel_rfl) rfl rfl rfl hp1 rfl (by simp [allOne, cellsL, one1]; exact hvc.isSl.one1) rfl ?_
        (first | refine DW.qL 26 rfl (by kernel_rfl) rfl (QF.index rfl rfl (by first | assumption | exact SliceRep.isSl (by assumption)) rfl (by omega)).qv rfl rfl ?_ | refine DW.qL 26 rfl (by kernel_rfl) rfl (QV.indexR rfl rfl rfl (by omega)) rfl rfl ?_)
        refine DW.storeR 27 rfl (by kernel_rfl) rfl rfl rfl hp2 rfl (by simp [allOne, cellsL, one1]; exact hva.isSl.one1) rfl ?_
        refine DW.done (by kernel_rfl) ?_
        repeat (first | refine a1 ?_ | refine a3 ?_ | refine a4 ?_ | refine a5 ?_ | refine a6 ?_ | refine s_fieldB ?_ | refine s_fieldV ?_ | refine s_loadB ?_ | refine s_loadH ?_ | refine s_loadR ?_ | refine s_indexT ?_ | refine s_indexRT ?_ | refine s_loadBs ?_ | refine s_loadHs ?_ | refine s_len ?_ | refine s_lenR ?_ | refine s_subI ?_ | refine s_index ?_ | refine s_indexR ?_ | refine s_sliceHi ?_ | refine s_mulI ?_ | refine s_addI ?_ | refine a7 ?_ | refine a8 ?_ | refine a9 ?_ | refine RW.storeR rfl rfl rfl rfl (by first | rfl | (simp [allOne, cellsL, one1]; done) | (simp [allOne, cellsL, one1]; first | assumption | (refine ⟨?_, ?_⟩ <;> assumption))) rfl ?_ | refine a10 ?_ | refine RW.storeR1 rfl rfl (by first | rfl | exact IsSl.one1 (by assumption) | exact IsSl.one1 (SliceRep.isSl (by assumption))) rfl rfl ?_)
        refine Runs.weak (ih (kk, cs2, swp q i kk a c) ⟨by dsimp only; omega, by dsimp only; omega, hcs2, hsp.trans hperm, hstep⟩ (by dsimp only; omega)) (by repeat (first | exact trivial | refine And.intro rfl ?_)) (fun x hx => List.mem_cons_of_mem _ (SubH.h x hx)) (by repeat (first | exact List.nil_sublist _ | exact List.Sublist.refl _ | refine List.Sublist.cons_cons _ ?_ | refine List.Sublist.cons _ ?_))
end Go.Proofs.Ytjdhcblofkkibaa

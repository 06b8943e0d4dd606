/-
  The contract of the law's spoilt: it makes some page. Conditions: a page of at most 1000 candidates with numbers of at most 1000000000000000.
-/
import Derived.Test.YtjdhcblofkkibaaVe
import Derived.Test.YtjdhcblofkkibaaMPy
namespace Go.Proofs.Ytjdhcblofkkibaa
open Go Go.RowKit

theorem cells_qs {H : Snap} : ∀ {L : List Cand} {ds : List Value}, CellsRep H CandL L ds → ∃ qs : List Qd, ds = cellsQ qs ∧ qs.map toC = L ∧ ∀ q ∈ qs, SliceRep H I64 q.1 q.2.2
  | [], ds, h => ⟨[], h, rfl, by simp⟩
  | x :: L, ds, h => by
    obtain ⟨c, r, h1, ⟨v, h2, h3⟩, h4⟩ := h
    obtain ⟨qs, h5, h6, h7⟩ := cells_qs h4
    refine ⟨(v, x.cost, x.links) :: qs, ?_, by rw [List.map_cons, h6]; rfl, fun q hq => ?_⟩
    · rw [h1, h2, h5]; rfl
    · rcases List.mem_cons.1 hq with rfl | hq
      · exact h3
      · exact h7 q hq
set_option maxHeartbeats 16000000 in
theorem spoilt19_c {H : Snap} {vp : Value} {pw : Bool} {L : List Cand} {m : Nat} {B w0 w1 w2 : Int} (hp : SliceRep H CandL vp L) (hL : okP m B L) (hm : m ≤ 1000) (hB : 0 ≤ B ∧ B ≤ 1000000000000000) (h0 : isByte w0) (h1 : isByte w1) (h2 : isByte w2) :
    Pure Try.prog 18 #[.agg #[vp, .bool pw], .agg #[.int .u8 w0, .int .u8 w1, .int .u8 w2]] H (fun H' r => ∃ v w' L', r = .agg #[v, .bool w'] ∧ SliceRep H' CandL v L' ∧ okP (m + 1) (B + 1000) L') := by
  unfold isByte at h0 h1 h2
  have hLl := hL.1
  have hbp := hp.isSl.bound
  have hps := hp.isSl
  refine Pure.intro Try.func18 rfl Try.ntmps18 rfl (fun E R hM hR => ?_)
  repeat (first | refine a1 ?_ | refine a3 ?_ | refine a4 ?_ | refine a5 ?_ | refine a6 ?_ | refine s_fieldB ?_ | refine s_fieldV ?_ | refine s_loadB ?_ | refine s_loadH ?_ | refine s_loadR ?_ | refine s_build ?_ | refine s_len ?_ | refine s_lenR ?_ | refine s_indexArrT ?_ | refine s_indexArrB ?_ | refine s_rem ?_ | refine s_eql ?_ | refine s_convI ?_ | refine s_index ?_ | refine s_indexR ?_ | refine s_addI ?_ | refine s_subI ?_ | refine s_loadBs ?_ | refine s_loadHs ?_ | refine s_sliceHi ?_ | refine a7 ?_ | refine a8 ?_ | refine a9 ?_ | refine RW.storeR rfl rfl rfl rfl (by first | rfl | (simp [allOne, cellsL, one1]; done) | (simp [allOne, cellsL, one1]; first | assumption | (refine ⟨?_, ?_⟩ <;> assumption))) rfl ?_ | refine a10 ?_ | refine RW.storeR1 rfl rfl (by first | rfl | exact IsSl.one1 (by assumption) | exact IsSl.one1 (SliceRep.isSl (by assumption))) rfl rfl ?_)
  refine RW.box rfl rfl rfl rfl (fun b2 => ?_)
  refine RW.box rfl rfl rfl rfl (fun b3 => ?_)
  refine RW.alloc rfl rfl rfl (fun b4 => ?_)
  repeat (first | refine a1 ?_ | refine a3 ?_ | refine a4 ?_ | refine a5 ?_ | refine a6 ?_ | refine s_fieldB ?_ | refine s_fieldV ?_ | refine s_loadB ?_ | refine s_loadH ?_ | refine s_loadR ?_ | refine s_build ?_ | refine s_len ?_ | refine s_lenR ?_ | refine s_indexArrT ?_ | refine s_indexArrB ?_ | refine s_rem ?_ | refine s_eql ?_ | refine s_convI ?_ | refine s_index ?_ | refine s_indexR ?_ | refine s_addI ?_ | refine s_subI ?_ | refine s_loadBs ?_ | refine s_loadHs ?_ | refine s_sliceHi ?_ | refine a7 ?_ | refine a8 ?_ | refine a9 ?_ | refine RW.storeR rfl rfl rfl rfl (by first | rfl | (simp [allOne, cellsL, one1]; done) | (simp [allOne, cellsL, one1]; first | assumption | (refine ⟨?_, ?_⟩ <;> assumption))) rfl ?_ | refine a10 ?_ | refine RW.storeR1 rfl rfl (by first | rfl | exact IsSl.one1 (by assumption) | exact IsSl.one1 (SliceRep.isSl (by assumption))) rfl rfl ?_)
  refine Runs.regionD _ _ [8] (fun x hx => List.mem_cons_of_mem _ hx) (List.Sublist.refl _) (by kernel_rfl) ?_
  (first | refine t_fieldB 1 ?_ | refine t_fieldV 1 ?_)
  (first | refine t_loadB 2 ?_ | refine t_loadH 2 ?_ | refine t_loadR 2 ?_)
  (first | refine t_fieldB 4 ?_ | refine t_fieldV 4 ?_)
  (first | refine t_loadB 5 ?_ | refine t_loadH 5 ?_ | refine t_loadR 5 ?_)
  refine DW.float 7 rfl rfl ?_
  refine DWf.buildSlice 0 rfl rfl rfl (by kernel_rfl) (by kernel_rfl) rfl rfl rfl rfl rfl rfl rfl rfl rfl rfl (fun v8 hv8 => ?_)
  refine DWf.appendH 3 rfl rfl rfl (by kernel_rfl) (by kernel_rfl) rfl rfl rfl rfl rfl rfl rfl (hp) (by rfl) rfl (by decide) (by omega) (by omega) (fun _ _ => inferInstance) (fun _ _ => inferInstance) inferInstance (fun ds v11 hds hv11 => ?_)
  have hv110 := hv11
  obtain ⟨A11, c11, e11, _, _⟩ := hv110
  subst e11
  refine DWf.qF 6 rfl rfl (by kernel_rfl) (QF.build rfl rfl) (fun _ => QF.build rfl rfl) rfl rfl ?_
  refine DWf.take rfl (by kernel_rfl) rfl rfl rfl (fun b5 => ?_)
  simp only [List.cons_append, List.nil_append]
  (first | refine DW.storeB 8 rfl (by kernel_rfl) rfl rfl rfl rfl (by first | rfl | (simp [allOne, cellsL, one1]; done) | (simp [allOne, cellsL, one1]; first | assumption | (refine ⟨?_, ?_⟩ <;> assumption))) rfl ?_ | refine DW.storeB1 8 rfl (by kernel_rfl) rfl rfl rfl (by first | rfl | exact IsSl.one1 (by assumption) | exact IsSl.one1 (SliceRep.isSl (by assumption))) rfl rfl ?_)
  refine DW.done (by kernel_rfl) ?_
  obtain ⟨qs, rfl, hqL, hqr⟩ := cells_qs hds
  simp only [repL, List.nil_append, Nat.zero_add]
  rw [Nat.zero_add] at hv11
  have hql : qs.length = L.length := by rw [← hqL, List.length_map]
  rw [← hql] at hv11 hLl ⊢
  generalize Value.slice A11 qs.length c11 = vL at hv11 ⊢
  have hvL1 := hv11.one1
  have hqok : ∀ q ∈ qs, okQ m B q := fun q hq => hL.2 (toC q) (by rw [← hqL]; exact List.mem_map.2 ⟨q, hq, rfl⟩)
  have hqok1 : ∀ q ∈ qs, okQ (m + 1) (B + 1000) q := fun q hq => okQ_mono (hqok q hq) (by omega) (by omega)
  have hmw : 0 ≤ w0 % 5 ∧ w0 % 5 ≤ 4 := by omega
  repeat (first | refine a1 ?_ | refine a3 ?_ | refine a4 ?_ | refine a5 ?_ | refine a6 ?_ | refine s_fieldB ?_ | refine s_fieldV ?_ | refine s_loadB ?_ | refine s_loadH ?_ | refine s_loadR ?_ | refine s_build ?_ | refine s_len ?_ | refine s_lenR ?_ | refine s_indexArrT ?_ | refine s_indexArrB ?_ | refine s_rem ?_ | refine s_eql ?_ | refine s_convI ?_ | refine s_index ?_ | refine s_indexR ?_ | refine s_addI ?_ | refine s_subI ?_ | refine s_loadBs ?_ | refine s_loadHs ?_ | refine s_sliceHi ?_ | refine a7 ?_ | refine a8 ?_ | refine a9 ?_ | refine RW.storeR rfl rfl rfl rfl (by first | rfl | (simp [allOne, cellsL, one1]; done) | (simp [allOne, cellsL, one1]; first | assumption | (refine ⟨?_, ?_⟩ <;> assumption))) rfl ?_ | refine a10 ?_ | refine RW.storeR1 rfl rfl (by first | rfl | exact IsSl.one1 (by assumption) | exact IsSl.one1 (SliceRep.isSl (by assumption))) rfl rfl ?_)
  refine Runs.cond_d rfl (fun c0 => ?_) (fun c0 => ?_)
  · repeat (first | refine a1 ?_ | refine a3 ?_ | refine a4 ?_ | refine a5 ?_ | refine a6 ?_ | refine s_fieldB ?_ | refine s_fieldV ?_ | refine s_loadB ?_ | refine s_loadH ?_ | refine s_loadR ?_ | refine s_build ?_ | refine s_len ?_ | refine s_lenR ?_ | refine s_indexArrT ?_ | refine s_indexArrB ?_ | refine s_rem ?_ | refine s_eql ?_ | refine s_convI ?_ | refine s_index ?_ | refine s_indexR ?_ | refine s_addI ?_ | refine s_subI ?_ | refine s_loadBs ?_ | refine s_loadHs ?_ | refine s_sliceHi ?_ | refine a7 ?_ | refine a8 ?_ | refine a9 ?_ | refine RW.storeR rfl rfl rfl rfl (by first | rfl | (simp [allOne, cellsL, one1]; done) | (simp [allOne, cellsL, one1]; first | assumption | (refine ⟨?_, ?_⟩ <;> assumption))) rfl ?_ | refine a10 ?_ | refine RW.storeR1 rfl rfl (by first | rfl | exact IsSl.one1 (by assumption) | exact IsSl.one1 (SliceRep.isSl (by assumption))) rfl rfl ?_)
    refine Runs.rowSl vL (fun hsv hov => ?_)
    repeat (first | refine a1 ?_ | refine a3 ?_ | refine a4 ?_ | refine a5 ?_ | refine a6 ?_ | refine s_fieldB ?_ | refine s_fieldV ?_ | refine s_loadB ?_ | refine s_loadH ?_ | refine s_loadR ?_ | refine s_build ?_ | refine s_len ?_ | refine s_lenR ?_ | refine s_indexArrT ?_ | refine s_indexArrB ?_ | refine s_rem ?_ | refine s_eql ?_ | refine s_convI ?_ | refine s_index ?_ | refine s_indexR ?_ | refine s_addI ?_ | refine s_subI ?_ | refine s_loadBs ?_ | refine s_loadHs ?_ | refine s_sliceHi ?_ | refine a7 ?_ | refine a8 ?_ | refine a9 ?_ | refine RW.storeR rfl rfl rfl rfl (by first | rfl | (simp [allOne, cellsL, one1]; done) | (simp [allOne, cellsL, one1]; first | assumption | (refine ⟨?_, ?_⟩ <;> assumption))) rfl ?_ | refine a10 ?_ | refine RW.storeR1 rfl rfl (by first | rfl | exact IsSl.one1 (by assumption) | exact IsSl.one1 (SliceRep.isSl (by assumption))) rfl rfl ?_)
    refine Runs.freeze (H := H) vL hM (fun HF hleF hsF hcF => ?_)
    refine Runs.retC Try.func18 Try.results18 rfl (fun w hm => hR _ w _ HF _ (by simp) (hleF) ?_ hm)
    exact ⟨vL, !pw, (qs : List Qd).map toC, rfl, SliceRep.of_row hsF (by simp; try omega) ((cellsQ_rep (qs := qs) hqr).mono hleF) (Snap.le.refl _) hcF, okP_of (qs := qs) (by omega) hqok1⟩
  · repeat (first | refine a1 ?_ | refine a3 ?_ | refine a4 ?_ | refine a5 ?_ | refine a6 ?_ | refine s_fieldB ?_ | refine s_fieldV ?_ | refine s_loadB ?_ | refine s_loadH ?_ | refine s_loadR ?_ | refine s_build ?_ | refine s_len ?_ | refine s_lenR ?_ | refine s_indexArrT ?_ | refine s_indexArrB ?_ | refine s_rem ?_ | refine s_eql ?_ | refine s_convI ?_ | refine s_index ?_ | refine s_indexR ?_ | refine s_addI ?_ | refine s_subI ?_ | refine s_loadBs ?_ | refine s_loadHs ?_ | refine s_sliceHi ?_ | refine a7 ?_ | refine a8 ?_ | refine a9 ?_ | refine RW.storeR rfl rfl rfl rfl (by first | rfl | (simp [allOne, cellsL, one1]; done) | (simp [allOne, cellsL, one1]; first | assumption | (refine ⟨?_, ?_⟩ <;> assumption))) rfl ?_ | refine a10 ?_ | refine RW.storeR1 rfl rfl (by first | rfl | exact IsSl.one1 (by assumption) | exact IsSl.one1 (SliceRep.isSl (by assumption))) rfl rfl ?_)
    refine Runs.cond_d rfl (fun c1 => ?_) (fun c1 => ?_)
    · repeat (first | refine a1 ?_ | refine a3 ?_ | refine a4 ?_ | refine a5 ?_ | refine a6 ?_ | refine s_fieldB ?_ | refine s_fieldV ?_ | refine s_loadB ?_ | refine s_loadH ?_ | refine s_loadR ?_ | refine s_build ?_ | refine s_len ?_ | refine s_lenR ?_ | refine s_indexArrT ?_ | refine s_indexArrB ?_ | refine s_rem ?_ | refine s_eql ?_ | refine s_convI ?_ | refine s_index ?_ | refine s_indexR ?_ | refine s_addI ?_ | refine s_subI ?_ | refine s_loadBs ?_ | refine s_loadHs ?_ | refine s_sliceHi ?_ | refine a7 ?_ | refine a8 ?_ | refine a9 ?_ | refine RW.storeR rfl rfl rfl rfl (by first | rfl | (simp [allOne, cellsL, one1]; done) | (simp [allOne, cellsL, one1]; first | assumption | (refine ⟨?_, ?_⟩ <;> assumption))) rfl ?_ | refine a10 ?_ | refine RW.storeR1 rfl rfl (by first | rfl | exact IsSl.one1 (by assumption) | exact IsSl.one1 (SliceRep.isSl (by assumption))) rfl rfl ?_)
      refine Runs.cond_d rfl (fun hz => ?_) (fun hz => ?_)
      · obtain ⟨i, hi⟩ : ∃ i : Nat, w1 % (qs.length : Int) = (i : Int) := ⟨(w1 % (qs.length : Int)).toNat, by
          have := Int.emod_nonneg w1 (b := (qs.length : Int)) (by omega)
          omega⟩
        have hil : i < qs.length := by
          have := Int.emod_lt_of_pos w1 (b := (qs.length : Int)) (by omega)
          omega
        obtain ⟨q, hqi⟩ : ∃ q, qs[i]? = some q := ⟨_, List.getElem?_eq_getElem hil⟩
        have hqm := List.mem_of_getElem? hqi
        have hqo := hqok q hqm
        unfold okQ at hqo
        have hc1 := cellsQ_at (j := 1) hqi rfl
        repeat (first | refine a1 ?_ | refine a3 ?_ | refine a4 ?_ | refine a5 ?_ | refine a6 ?_ | refine s_fieldB ?_ | refine s_fieldV ?_ | refine s_loadB ?_ | refine s_loadH ?_ | refine s_loadR ?_ | refine s_build ?_ | refine s_len ?_ | refine s_lenR ?_ | refine s_indexArrT ?_ | refine s_indexArrB ?_ | refine s_rem ?_ | refine s_eql ?_ | refine s_convI ?_ | refine s_index ?_ | refine s_indexR ?_ | refine s_addI ?_ | refine s_subI ?_ | refine s_loadBs ?_ | refine s_loadHs ?_ | refine s_sliceHi ?_ | refine a7 ?_ | refine a8 ?_ | refine a9 ?_ | refine RW.storeR rfl rfl rfl rfl (by first | rfl | (simp [allOne, cellsL, one1]; done) | (simp [allOne, cellsL, one1]; first | assumption | (refine ⟨?_, ?_⟩ <;> assumption))) rfl ?_ | refine a10 ?_ | refine RW.storeR1 rfl rfl (by first | rfl | exact IsSl.one1 (by assumption) | exact IsSl.one1 (SliceRep.isSl (by assumption))) rfl rfl ?_)
        refine Runs.regionD _ _ [17] (fun x hx => List.mem_cons_of_mem _ hx) (List.Sublist.refl _) (by kernel_rfl) ?_
        (first | refine t_fieldB 0 ?_ | refine t_fieldV 0 ?_)
        (first | refine t_loadB 1 ?_ | refine t_loadH 1 ?_ | refine t_loadR 1 ?_)
        (first | refine t_indexArrT 2 ?_ | refine t_indexArrB 2 ?_)
        (first | refine t_loadB 3 ?_ | refine t_loadH 3 ?_ | refine t_loadR 3 ?_)
        refine t_convI 4 ?_
        refine d2 5 ?_
        refine t_rem 6 ?_
        rw [hi]
        (first | refine t_index 7 ?_ | refine t_indexR 7 ?_)
        (first | refine t_fieldB 8 ?_ | refine t_fieldV 8 ?_)
        (first | refine t_loadB 9 ?_ | refine t_loadH 9 ?_ | refine t_loadR 9 ?_)
        (first | refine t_indexArrT 10 ?_ | refine t_indexArrB 10 ?_)
        (first | refine t_loadB 11 ?_ | refine t_loadH 11 ?_ | refine t_loadR 11 ?_)
        refine t_convI 12 ?_
        refine t_addI 13 ?_
        refine t_addI 14 ?_
        (first | refine t_index 15 ?_ | refine t_indexR 15 ?_)
        (first | refine t_fieldB 16 ?_ | refine t_fieldV 16 ?_)
        (first | refine DW.storeR 17 rfl (by kernel_rfl) rfl rfl rfl (cellsQ_put (q' := (q.1, q.2.1 + (1 + w2), q.2.2)) hqi rfl (by omega)) rfl (by first | rfl | (simp [allOne, cellsL, one1]; done) | (simp [allOne, cellsL, one1]; first | assumption | (refine ⟨?_, ?_⟩ <;> assumption))) rfl ?_ | refine DW.storeR1 17 rfl (by kernel_rfl) rfl rfl rfl (by first | rfl | exact IsSl.one1 (by assumption) | exact IsSl.one1 (SliceRep.isSl (by assumption))) (cellsQ_put (q' := (q.1, q.2.1 + (1 + w2), q.2.2)) hqi rfl (by omega)) rfl ?_)
        refine DW.done (by kernel_rfl) ?_
        refine Runs.rowSl vL (fun hsv hov => ?_)
        repeat (first | refine a1 ?_ | refine a3 ?_ | refine a4 ?_ | refine a5 ?_ | refine a6 ?_ | refine s_fieldB ?_ | refine s_fieldV ?_ | refine s_loadB ?_ | refine s_loadH ?_ | refine s_loadR ?_ | refine s_build ?_ | refine s_len ?_ | refine s_lenR ?_ | refine s_indexArrT ?_ | refine s_indexArrB ?_ | refine s_rem ?_ | refine s_eql ?_ | refine s_convI ?_ | refine s_index ?_ | refine s_indexR ?_ | refine s_addI ?_ | refine s_subI ?_ | refine s_loadBs ?_ | refine s_loadHs ?_ | refine s_sliceHi ?_ | refine a7 ?_ | refine a8 ?_ | refine a9 ?_ | refine RW.storeR rfl rfl rfl rfl (by first | rfl | (simp [allOne, cellsL, one1]; done) | (simp [allOne, cellsL, one1]; first | assumption | (refine ⟨?_, ?_⟩ <;> assumption))) rfl ?_ | refine a10 ?_ | refine RW.storeR1 rfl rfl (by first | rfl | exact IsSl.one1 (by assumption) | exact IsSl.one1 (SliceRep.isSl (by assumption))) rfl rfl ?_)
        refine Runs.freeze (H := H) vL hM (fun HF hleF hsF hcF => ?_)
        refine Runs.retC Try.func18 Try.results18 rfl (fun w hm => hR _ w _ HF _ (by simp) (hleF) ?_ hm)
        exact ⟨vL, pw, ((qs.set i (q.1, q.2.1 + (1 + w2), q.2.2)) : List Qd).map toC, rfl, SliceRep.of_row hsF (by simp; try omega) ((cellsQ_rep (qs := (qs.set i (q.1, q.2.1 + (1 + w2), q.2.2))) (fun p hp => (mem_set hp).elim (fun h => hqr p h) (fun h => by subst h; exact hqr q hqm))).mono hleF) (Snap.le.refl _) hcF, okP_of (qs := (qs.set i (q.1, q.2.1 + (1 + w2), q.2.2))) (by simp; omega) (fun p hp => (mem_set hp).elim (fun h => hqok1 p h) (fun h => by subst h; exact ⟨by dsimp only; omega, by dsimp only; omega, by dsimp only; omega, fun j hj => by have := hqo.2.2.2 j hj; omega⟩))⟩
      · repeat (first | refine a1 ?_ | refine a3 ?_ | refine a4 ?_ | refine a5 ?_ | refine a6 ?_ | refine s_fieldB ?_ | refine s_fieldV ?_ | refine s_loadB ?_ | refine s_loadH ?_ | refine s_loadR ?_ | refine s_build ?_ | refine s_len ?_ | refine s_lenR ?_ | refine s_indexArrT ?_ | refine s_indexArrB ?_ | refine s_rem ?_ | refine s_eql ?_ | refine s_convI ?_ | refine s_index ?_ | refine s_indexR ?_ | refine s_addI ?_ | refine s_subI ?_ | refine s_loadBs ?_ | refine s_loadHs ?_ | refine s_sliceHi ?_ | refine a7 ?_ | refine a8 ?_ | refine a9 ?_ | refine RW.storeR rfl rfl rfl rfl (by first | rfl | (simp [allOne, cellsL, one1]; done) | (simp [allOne, cellsL, one1]; first | assumption | (refine ⟨?_, ?_⟩ <;> assumption))) rfl ?_ | refine a10 ?_ | refine RW.storeR1 rfl rfl (by first | rfl | exact IsSl.one1 (by assumption) | exact IsSl.one1 (SliceRep.isSl (by assumption))) rfl rfl ?_)
        refine Runs.rowSl vL (fun hsv hov => ?_)
        repeat (first | refine a1 ?_ | refine a3 ?_ | refine a4 ?_ | refine a5 ?_ | refine a6 ?_ | refine s_fieldB ?_ | refine s_fieldV ?_ | refine s_loadB ?_ | refine s_loadH ?_ | refine s_loadR ?_ | refine s_build ?_ | refine s_len ?_ | refine s_lenR ?_ | refine s_indexArrT ?_ | refine s_indexArrB ?_ | refine s_rem ?_ | refine s_eql ?_ | refine s_convI ?_ | refine s_index ?_ | refine s_indexR ?_ | refine s_addI ?_ | refine s_subI ?_ | refine s_loadBs ?_ | refine s_loadHs ?_ | refine s_sliceHi ?_ | refine a7 ?_ | refine a8 ?_ | refine a9 ?_ | refine RW.storeR rfl rfl rfl rfl (by first | rfl | (simp [allOne, cellsL, one1]; done) | (simp [allOne, cellsL, one1]; first | assumption | (refine ⟨?_, ?_⟩ <;> assumption))) rfl ?_ | refine a10 ?_ | refine RW.storeR1 rfl rfl (by first | rfl | exact IsSl.one1 (by assumption) | exact IsSl.one1 (SliceRep.isSl (by assumption))) rfl rfl ?_)
        refine Runs.freeze (H := H) vL hM (fun HF hleF hsF hcF => ?_)
        refine Runs.retC Try.func18 Try.results18 rfl (fun w hm => hR _ w _ HF _ (by simp) (hleF) ?_ hm)
        exact ⟨vL, pw, (qs : List Qd).map toC, rfl, SliceRep.of_row hsF (by simp; try omega) ((cellsQ_rep (qs := qs) hqr).mono hleF) (Snap.le.refl _) hcF, okP_of (qs := qs) (by omega) hqok1⟩
    · repeat (first | refine a1 ?_ | refine a3 ?_ | refine a4 ?_ | refine a5 ?_ | refine a6 ?_ | refine s_fieldB ?_ | refine s_fieldV ?_ | refine s_loadB ?_ | refine s_loadH ?_ | refine s_loadR ?_ | refine s_build ?_ | refine s_len ?_ | refine s_lenR ?_ | refine s_indexArrT ?_ | refine s_indexArrB ?_ | refine s_rem ?_ | refine s_eql ?_ | refine s_convI ?_ | refine s_index ?_ | refine s_indexR ?_ | refine s_addI ?_ | refine s_subI ?_ | refine s_loadBs ?_ | refine s_loadHs ?_ | refine s_sliceHi ?_ | refine a7 ?_ | refine a8 ?_ | refine a9 ?_ | refine RW.storeR rfl rfl rfl rfl (by first | rfl | (simp [allOne, cellsL, one1]; done) | (simp [allOne, cellsL, one1]; first | assumption | (refine ⟨?_, ?_⟩ <;> assumption))) rfl ?_ | refine a10 ?_ | refine RW.storeR1 rfl rfl (by first | rfl | exact IsSl.one1 (by assumption) | exact IsSl.one1 (SliceRep.isSl (by assumption))) rfl rfl ?_)
      refine Runs.cond_d rfl (fun c2 => ?_) (fun c2 => ?_)
      · repeat (first | refine a1 ?_ | refine a3 ?_ | refine a4 ?_ | refine a5 ?_ | refine a6 ?_ | refine s_fieldB ?_ | refine s_fieldV ?_ | refine s_loadB ?_ | refine s_loadH ?_ | refine s_loadR ?_ | refine s_build ?_ | refine s_len ?_ | refine s_lenR ?_ | refine s_indexArrT ?_ | refine s_indexArrB ?_ | refine s_rem ?_ | refine s_eql ?_ | refine s_convI ?_ | refine s_index ?_ | refine s_indexR ?_ | refine s_addI ?_ | refine s_subI ?_ | refine s_loadBs ?_ | refine s_loadHs ?_ | refine s_sliceHi ?_ | refine a7 ?_ | refine a8 ?_ | refine a9 ?_ | refine RW.storeR rfl rfl rfl rfl (by first | rfl | (simp [allOne, cellsL, one1]; done) | (simp [allOne, cellsL, one1]; first | assumption | (refine ⟨?_, ?_⟩ <;> assumption))) rfl ?_ | refine a10 ?_ | refine RW.storeR1 rfl rfl (by first | rfl | exact IsSl.one1 (by assumption) | exact IsSl.one1 (SliceRep.isSl (by assumption))) rfl rfl ?_)
        refine RW.buildSlice rfl rfl rfl rfl rfl rfl rfl (fun v66 hv66 => ?_)
        repeat (first | refine a1 ?_ | refine a3 ?_ | refine a4 ?_ | refine a5 ?_ | refine a6 ?_ | refine s_fieldB ?_ | refine s_fieldV ?_ | refine s_loadB ?_ | refine s_loadH ?_ | refine s_loadR ?_ | refine s_build ?_ | refine s_len ?_ | refine s_lenR ?_ | refine s_indexArrT ?_ | refine s_indexArrB ?_ | refine s_rem ?_ | refine s_eql ?_ | refine s_convI ?_ | refine s_index ?_ | refine s_indexR ?_ | refine s_addI ?_ | refine s_subI ?_ | refine s_loadBs ?_ | refine s_loadHs ?_ | refine s_sliceHi ?_ | refine a7 ?_ | refine a8 ?_ | refine a9 ?_ | refine RW.storeR rfl rfl rfl rfl (by first | rfl | (simp [allOne, cellsL, one1]; done) | (simp [allOne, cellsL, one1]; first | assumption | (refine ⟨?_, ?_⟩ <;> assumption))) rfl ?_ | refine a10 ?_ | refine RW.storeR1 rfl rfl (by first | rfl | exact IsSl.one1 (by assumption) | exact IsSl.one1 (SliceRep.isSl (by assumption))) rfl rfl ?_)
        refine RW.appendR rfl rfl (by assumption) rfl rfl rfl (by decide) (by omega) (by omega) (fun _ => inferInstance) rfl rfl (fun v67 hv67 => ?_)
        have hv671 := hv67.one1
        repeat (first | refine a1 ?_ | refine a3 ?_ | refine a4 ?_ | refine a5 ?_ | refine a6 ?_ | refine s_fieldB ?_ | refine s_fieldV ?_ | refine s_loadB ?_ | refine s_loadH ?_ | refine s_loadR ?_ | refine s_build ?_ | refine s_len ?_ | refine s_lenR ?_ | refine s_indexArrT ?_ | refine s_indexArrB ?_ | refine s_rem ?_ | refine s_eql ?_ | refine s_convI ?_ | refine s_index ?_ | refine s_indexR ?_ | refine s_addI ?_ | refine s_subI ?_ | refine s_loadBs ?_ | refine s_loadHs ?_ | refine s_sliceHi ?_ | refine a7 ?_ | refine a8 ?_ | refine a9 ?_ | refine RW.storeR rfl rfl rfl rfl (by first | rfl | (simp [allOne, cellsL, one1]; done) | (simp [allOne, cellsL, one1]; first | assumption | (refine ⟨?_, ?_⟩ <;> assumption))) rfl ?_ | refine a10 ?_ | refine RW.storeR1 rfl rfl (by first | rfl | exact IsSl.one1 (by assumption) | exact IsSl.one1 (SliceRep.isSl (by assumption))) rfl rfl ?_)
        simp only [repL, Nat.zero_add]
        have hsn : cellsQ qs ++ (.slice none 0 0 :: .int .i64 w2 :: List.append [] []) = cellsQ (qs ++ [(.slice none 0 0, w2, [])]) := (cellsQ_snoc qs (.slice none 0 0, w2, [])).symm
        rw [hsn]
        refine Runs.rowSl v67 (fun hsv hov => ?_)
        repeat (first | refine a1 ?_ | refine a3 ?_ | refine a4 ?_ | refine a5 ?_ | refine a6 ?_ | refine s_fieldB ?_ | refine s_fieldV ?_ | refine s_loadB ?_ | refine s_loadH ?_ | refine s_loadR ?_ | refine s_build ?_ | refine s_len ?_ | refine s_lenR ?_ | refine s_indexArrT ?_ | refine s_indexArrB ?_ | refine s_rem ?_ | refine s_eql ?_ | refine s_convI ?_ | refine s_index ?_ | refine s_indexR ?_ | refine s_addI ?_ | refine s_subI ?_ | refine s_loadBs ?_ | refine s_loadHs ?_ | refine s_sliceHi ?_ | refine a7 ?_ | refine a8 ?_ | refine a9 ?_ | refine RW.storeR rfl rfl rfl rfl (by first | rfl | (simp [allOne, cellsL, one1]; done) | (simp [allOne, cellsL, one1]; first | assumption | (refine ⟨?_, ?_⟩ <;> assumption))) rfl ?_ | refine a10 ?_ | refine RW.storeR1 rfl rfl (by first | rfl | exact IsSl.one1 (by assumption) | exact IsSl.one1 (SliceRep.isSl (by assumption))) rfl rfl ?_)
        refine Runs.freeze (H := H) v67 hM (fun HF hleF hsF hcF => ?_)
        refine Runs.retC Try.func18 Try.results18 rfl (fun w hm => hR _ w _ HF _ (by simp) (hleF) ?_ hm)
        exact ⟨v67, pw, ((qs ++ [(.slice none 0 0, w2, [])]) : List Qd).map toC, rfl, SliceRep.of_row hsF (by simp; try omega) ((cellsQ_rep (qs := (qs ++ [(.slice none 0 0, w2, [])])) (fun p hp => (List.mem_append.1 hp).elim (fun h => hqr p h) (fun h => by rw [List.mem_singleton.1 h]; exact SliceRep.nil))).mono hleF) (Snap.le.refl _) hcF, okP_of (qs := (qs ++ [(.slice none 0 0, w2, [])])) (by simp; omega) (fun p hp => (List.mem_append.1 hp).elim (fun h => hqok1 p h) (fun h => by rw [List.mem_singleton.1 h]; exact ⟨by simp, by dsimp only; omega, by dsimp only; omega, by simp⟩))⟩
      · repeat (first | refine a1 ?_ | refine a3 ?_ | refine a4 ?_ | refine a5 ?_ | refine a6 ?_ | refine s_fieldB ?_ | refine s_fieldV ?_ | refine s_loadB ?_ | refine s_loadH ?_ | refine s_loadR ?_ | refine s_build ?_ | refine s_len ?_ | refine s_lenR ?_ | refine s_indexArrT ?_ | refine s_indexArrB ?_ | refine s_rem ?_ | refine s_eql ?_ | refine s_convI ?_ | refine s_index ?_ | refine s_indexR ?_ | refine s_addI ?_ | refine s_subI ?_ | refine s_loadBs ?_ | refine s_loadHs ?_ | refine s_sliceHi ?_ | refine a7 ?_ | refine a8 ?_ | refine a9 ?_ | refine RW.storeR rfl rfl rfl rfl (by first | rfl | (simp [allOne, cellsL, one1]; done) | (simp [allOne, cellsL, one1]; first | assumption | (refine ⟨?_, ?_⟩ <;> assumption))) rfl ?_ | refine a10 ?_ | refine RW.storeR1 rfl rfl (by first | rfl | exact IsSl.one1 (by assumption) | exact IsSl.one1 (SliceRep.isSl (by assumption))) rfl rfl ?_)
        refine Runs.cond_d rfl (fun c3 => ?_) (fun c3 => ?_)
        · repeat (first | refine a1 ?_ | refine a3 ?_ | refine a4 ?_ | refine a5 ?_ | refine a6 ?_ | refine s_fieldB ?_ | refine s_fieldV ?_ | refine s_loadB ?_ | refine s_loadH ?_ | refine s_loadR ?_ | refine s_build ?_ | refine s_len ?_ | refine s_lenR ?_ | refine s_indexArrT ?_ | refine s_indexArrB ?_ | refine s_rem ?_ | refine s_eql ?_ | refine s_convI ?_ | refine s_index ?_ | refine s_indexR ?_ | refine s_addI ?_ | refine s_subI ?_ | refine s_loadBs ?_ | refine s_loadHs ?_ | refine s_sliceHi ?_ | refine a7 ?_ | refine a8 ?_ | refine a9 ?_ | refine RW.storeR rfl rfl rfl rfl (by first | rfl | (simp [allOne, cellsL, one1]; done) | (simp [allOne, cellsL, one1]; first | assumption | (refine ⟨?_, ?_⟩ <;> assumption))) rfl ?_ | refine a10 ?_ | refine RW.storeR1 rfl rfl (by first | rfl | exact IsSl.one1 (by assumption) | exact IsSl.one1 (SliceRep.isSl (by assumption))) rfl rfl ?_)
          refine Runs.cond_d rfl (fun hz => ?_) (fun hz => ?_)
          · obtain ⟨i, hi⟩ : ∃ i : Nat, w1 % ((qs.length : Int) - 1) = (i : Int) := ⟨(w1 % ((qs.length : Int) - 1)).toNat, by
              have := Int.emod_nonneg w1 (b := (qs.length : Int) - 1) (by omega)
              omega⟩
            have hil : i + 1 < qs.length := by
              have := Int.emod_lt_of_pos w1 (b := (qs.length : Int) - 1) (by omega)
              omega
            obtain ⟨x, hxk⟩ : ∃ x, L[i]? = some x := ⟨_, List.getElem?_eq_getElem (by omega)⟩
            obtain ⟨y, hyk⟩ : ∃ y, L[i + 1]? = some y := ⟨_, List.getElem?_eq_getElem (by omega)⟩
            obtain ⟨vx, hvx, _, _, hxc⟩ := hp.cand hxk
            obtain ⟨vy, hvy, _, _, hyc⟩ := hp.cand hyk
            have hvx1 := hvx.isSl.one1
            have hvy1 := hvy.isSl.one1
            have hxo := hL.2 x (List.mem_of_getElem? hxk)
            have hyo := hL.2 y (List.mem_of_getElem? hyk)
            have hoX : okQ (m + 1) (B + 1000) (vx, x.cost, x.links) := okQ_mono (show okQ m B (vx, x.cost, x.links) from hxo) (by omega) (by omega)
            have hoY : okQ (m + 1) (B + 1000) (vy, y.cost, y.links) := okQ_mono (show okQ m B (vy, y.cost, y.links) from hyo) (by omega) (by omega)
            repeat (first | refine a1 ?_ | refine a3 ?_ | refine a4 ?_ | refine a5 ?_ | refine a6 ?_ | refine s_fieldB ?_ | refine s_fieldV ?_ | refine s_loadB ?_ | refine s_loadH ?_ | refine s_loadR ?_ | refine s_build ?_ | refine s_len ?_ | refine s_lenR ?_ | refine s_indexArrT ?_ | refine s_indexArrB ?_ | refine s_rem ?_ | refine s_eql ?_ | refine s_convI ?_ | refine s_index ?_ | refine s_indexR ?_ | refine s_addI ?_ | refine s_subI ?_ | refine s_loadBs ?_ | refine s_loadHs ?_ | refine s_sliceHi ?_ | refine a7 ?_ | refine a8 ?_ | refine a9 ?_ | refine RW.storeR rfl rfl rfl rfl (by first | rfl | (simp [allOne, cellsL, one1]; done) | (simp [allOne, cellsL, one1]; first | assumption | (refine ⟨?_, ?_⟩ <;> assumption))) rfl ?_ | refine a10 ?_ | refine RW.storeR1 rfl rfl (by first | rfl | exact IsSl.one1 (by assumption) | exact IsSl.one1 (SliceRep.isSl (by assumption))) rfl rfl ?_)
            rw [hi]
            repeat (first | refine a1 ?_ | refine a3 ?_ | refine a4 ?_ | refine a5 ?_ | refine a6 ?_ | refine s_fieldB ?_ | refine s_fieldV ?_ | refine s_loadB ?_ | refine s_loadH ?_ | refine s_loadR ?_ | refine s_build ?_ | refine s_len ?_ | refine s_lenR ?_ | refine s_indexArrT ?_ | refine s_indexArrB ?_ | refine s_rem ?_ | refine s_eql ?_ | refine s_convI ?_ | refine s_index ?_ | refine s_indexR ?_ | refine s_addI ?_ | refine s_subI ?_ | refine s_loadBs ?_ | refine s_loadHs ?_ | refine s_sliceHi ?_ | refine a7 ?_ | refine a8 ?_ | refine a9 ?_ | refine RW.storeR rfl rfl rfl rfl (by first | rfl | (simp [allOne, cellsL, one1]; done) | (simp [allOne, cellsL, one1]; first | assumption | (refine ⟨?_, ?_⟩ <;> assumption))) rfl ?_ | refine a10 ?_ | refine RW.storeR1 rfl rfl (by first | rfl | exact IsSl.one1 (by assumption) | exact IsSl.one1 (SliceRep.isSl (by assumption))) rfl rfl ?_)
            refine Runs.regionD _ _ [10] (fun x hx => List.mem_cons_of_mem _ hx) (List.Sublist.refl _) (by kernel_rfl) ?_
            (first | refine t_fieldB 0 ?_ | refine t_fieldV 0 ?_)
            (first | refine t_loadB 1 ?_ | refine t_loadH 1 ?_ | refine t_loadR 1 ?_)
            refine d2 2 ?_
            (first | refine t_fieldB 3 ?_ | refine t_fieldV 3 ?_)
            (first | refine t_loadB 4 ?_ | refine t_loadH 4 ?_ | refine t_loadR 4 ?_)
            refine d2 5 ?_
            refine t_addI 6 ?_
            rw [show ((i : Int) + 1) = ((i + 1 : Nat) : Int) from by omega]
            (first | refine t_index 7 ?_ | refine t_indexR 7 ?_)
            refine DW.q 8 rfl (by kernel_rfl) (QV.loadHs rfl (hyc)) rfl rfl ?_
            (first | refine t_index 9 ?_ | refine t_indexR 9 ?_)
            (first | refine DW.storeR 10 rfl (by kernel_rfl) rfl rfl rfl (cellsQ_put2 (q' := (vy, y.cost, y.links)) (by omega)) rfl (by first | rfl | (simp [allOne, cellsL, one1]; done) | (simp [allOne, cellsL, one1]; first | assumption | (refine ⟨?_, ?_⟩ <;> assumption))) rfl ?_ | refine DW.storeR1 10 rfl (by kernel_rfl) rfl rfl rfl (by first | rfl | exact IsSl.one1 (by assumption) | exact IsSl.one1 (SliceRep.isSl (by assumption))) (cellsQ_put2 (q' := (vy, y.cost, y.links)) (by omega)) rfl ?_)
            refine DW.done (by kernel_rfl) ?_
            have hl2 : (qs.set i (vy, y.cost, y.links)).length = qs.length := by simp
            repeat (first | refine a1 ?_ | refine a3 ?_ | refine a4 ?_ | refine a5 ?_ | refine a6 ?_ | refine s_fieldB ?_ | refine s_fieldV ?_ | refine s_loadB ?_ | refine s_loadH ?_ | refine s_loadR ?_ | refine s_build ?_ | refine s_len ?_ | refine s_lenR ?_ | refine s_indexArrT ?_ | refine s_indexArrB ?_ | refine s_rem ?_ | refine s_eql ?_ | refine s_convI ?_ | refine s_index ?_ | refine s_indexR ?_ | refine s_addI ?_ | refine s_subI ?_ | refine s_loadBs ?_ | refine s_loadHs ?_ | refine s_sliceHi ?_ | refine a7 ?_ | refine a8 ?_ | refine a9 ?_ | refine RW.storeR rfl rfl rfl rfl (by first | rfl | (simp [allOne, cellsL, one1]; done) | (simp [allOne, cellsL, one1]; first | assumption | (refine ⟨?_, ?_⟩ <;> assumption))) rfl ?_ | refine a10 ?_ | refine RW.storeR1 rfl rfl (by first | rfl | exact IsSl.one1 (by assumption) | exact IsSl.one1 (SliceRep.isSl (by assumption))) rfl rfl ?_)
            refine Runs.regionD _ _ [10] (fun x hx => List.mem_cons_of_mem _ hx) (List.Sublist.refl _) (by kernel_rfl) ?_
            (first | refine t_fieldB 0 ?_ | refine t_fieldV 0 ?_)
            (first | refine t_loadB 1 ?_ | refine t_loadH 1 ?_ | refine t_loadR 1 ?_)
            refine d2 2 ?_
            refine t_addI 3 ?_
            rw [show ((i : Int) + 1) = ((i + 1 : Nat) : Int) from by omega]
            (first | refine t_fieldB 4 ?_ | refine t_fieldV 4 ?_)
            (first | refine t_loadB 5 ?_ | refine t_loadH 5 ?_ | refine t_loadR 5 ?_)
            refine d2 6 ?_
            (first | refine t_index 7 ?_ | refine t_indexR 7 ?_)
            refine DW.q 8 rfl (by kernel_rfl) (QV.loadHs rfl (hxc)) rfl rfl ?_
            (first | refine t_index 9 ?_ | refine t_indexR 9 ?_)
            (first | refine DW.storeR 10 rfl (by kernel_rfl) rfl rfl rfl (cellsQ_put2 (q' := (vx, x.cost, x.links)) (by rw [hl2]; omega)) rfl (by first | rfl | (simp [allOne, cellsL, one1]; done) | (simp [allOne, cellsL, one1]; first | assumption | (refine ⟨?_, ?_⟩ <;> assumption))) rfl ?_ | refine DW.storeR1 10 rfl (by kernel_rfl) rfl rfl rfl (by first | rfl | exact IsSl.one1 (by assumption) | exact IsSl.one1 (SliceRep.isSl (by assumption))) (cellsQ_put2 (q' := (vx, x.cost, x.links)) (by rw [hl2]; omega)) rfl ?_)
            refine DW.done (by kernel_rfl) ?_
            refine Runs.rowSl vL (fun hsv hov => ?_)
            repeat (first | refine a1 ?_ | refine a3 ?_ | refine a4 ?_ | refine a5 ?_ | refine a6 ?_ | refine s_fieldB ?_ | refine s_fieldV ?_ | refine s_loadB ?_ | refine s_loadH ?_ | refine s_loadR ?_ | refine s_build ?_ | refine s_len ?_ | refine s_lenR ?_ | refine s_indexArrT ?_ | refine s_indexArrB ?_ | refine s_rem ?_ | refine s_eql ?_ | refine s_convI ?_ | refine s_index ?_ | refine s_indexR ?_ | refine s_addI ?_ | refine s_subI ?_ | refine s_loadBs ?_ | refine s_loadHs ?_ | refine s_sliceHi ?_ | refine a7 ?_ | refine a8 ?_ | refine a9 ?_ | refine RW.storeR rfl rfl rfl rfl (by first | rfl | (simp [allOne, cellsL, one1]; done) | (simp [allOne, cellsL, one1]; first | assumption | (refine ⟨?_, ?_⟩ <;> assumption))) rfl ?_ | refine a10 ?_ | refine RW.storeR1 rfl rfl (by first | rfl | exact IsSl.one1 (by assumption) | exact IsSl.one1 (SliceRep.isSl (by assumption))) rfl rfl ?_)
            refine Runs.freeze (H := H) vL hM (fun HF hleF hsF hcF => ?_)
            refine Runs.retC Try.func18 Try.results18 rfl (fun w hm => hR _ w _ HF _ (by simp) (hleF) ?_ hm)
            exact ⟨vL, pw, (((qs.set i (vy, y.cost, y.links)).set (i + 1) (vx, x.cost, x.links)) : List Qd).map toC, rfl, SliceRep.of_row hsF (by simp; try omega) ((cellsQ_rep (qs := ((qs.set i (vy, y.cost, y.links)).set (i + 1) (vx, x.cost, x.links))) (fun p hp => (mem_set hp).elim (fun h => (mem_set h).elim (fun h => hqr p h) (fun h => by subst h; exact hvy)) (fun h => by subst h; exact hvx))).mono hleF) (Snap.le.refl _) hcF, okP_of (qs := ((qs.set i (vy, y.cost, y.links)).set (i + 1) (vx, x.cost, x.links))) (by simp; omega) (fun p hp => (mem_set hp).elim (fun h => (mem_set h).elim (fun h => hqok1 p h) (fun h => by subst h; exact hoY)) (fun h => by subst h; exact hoX))⟩
          · repeat (first | refine a1 ?_ | refine a3 ?_ | refine a4 ?_ | refine a5 ?_ | refine a6 ?_ | refine s_fieldB ?_ | refine s_fieldV ?_ | refine s_loadB ?_ | refine s_loadH ?_ | refine s_loadR ?_ | refine s_build ?_ | refine s_len ?_ | refine s_lenR ?_ | refine s_indexArrT ?_ | refine s_indexArrB ?_ | refine s_rem ?_ | refine s_eql ?_ | refine s_convI ?_ | refine s_index ?_ | refine s_indexR ?_ | refine s_addI ?_ | refine s_subI ?_ | refine s_loadBs ?_ | refine s_loadHs ?_ | refine s_sliceHi ?_ | refine a7 ?_ | refine a8 ?_ | refine a9 ?_ | refine RW.storeR rfl rfl rfl rfl (by first | rfl | (simp [allOne, cellsL, one1]; done) | (simp [allOne, cellsL, one1]; first | assumption | (refine ⟨?_, ?_⟩ <;> assumption))) rfl ?_ | refine a10 ?_ | refine RW.storeR1 rfl rfl (by first | rfl | exact IsSl.one1 (by assumption) | exact IsSl.one1 (SliceRep.isSl (by assumption))) rfl rfl ?_)
            refine Runs.rowSl vL (fun hsv hov => ?_)
            repeat (first | refine a1 ?_ | refine a3 ?_ | refine a4 ?_ | refine a5 ?_ | refine a6 ?_ | refine s_fieldB ?_ | refine s_fieldV ?_ | refine s_loadB ?_ | refine s_loadH ?_ | refine s_loadR ?_ | refine s_build ?_ | refine s_len ?_ | refine s_lenR ?_ | refine s_indexArrT ?_ | refine s_indexArrB ?_ | refine s_rem ?_ | refine s_eql ?_ | refine s_convI ?_ | refine s_index ?_ | refine s_indexR ?_ | refine s_addI ?_ | refine s_subI ?_ | refine s_loadBs ?_ | refine s_loadHs ?_ | refine s_sliceHi ?_ | refine a7 ?_ | refine a8 ?_ | refine a9 ?_ | refine RW.storeR rfl rfl rfl rfl (by first | rfl | (simp [allOne, cellsL, one1]; done) | (simp [allOne, cellsL, one1]; first | assumption | (refine ⟨?_, ?_⟩ <;> assumption))) rfl ?_ | refine a10 ?_ | refine RW.storeR1 rfl rfl (by first | rfl | exact IsSl.one1 (by assumption) | exact IsSl.one1 (SliceRep.isSl (by assumption))) rfl rfl ?_)
            refine Runs.freeze (H := H) vL hM (fun HF hleF hsF hcF => ?_)
            refine Runs.retC Try.func18 Try.results18 rfl (fun w hm => hR _ w _ HF _ (by simp) (hleF) ?_ hm)
            exact ⟨vL, pw, (qs : List Qd).map toC, rfl, SliceRep.of_row hsF (by simp; try omega) ((cellsQ_rep (qs := qs) hqr).mono hleF) (Snap.le.refl _) hcF, okP_of (qs := qs) (by omega) hqok1⟩
        · obtain ⟨i, hi⟩ : ∃ i : Nat, w1 % ((qs.length : Int) + 1) = (i : Int) := ⟨(w1 % ((qs.length : Int) + 1)).toNat, by
            have := Int.emod_nonneg w1 (b := (qs.length : Int) + 1) (by omega)
            omega⟩
          have hil : i ≤ qs.length := by
            have := Int.emod_lt_of_pos w1 (b := (qs.length : Int) + 1) (by omega)
            omega
          repeat (first | refine a1 ?_ | refine a3 ?_ | refine a4 ?_ | refine a5 ?_ | refine a6 ?_ | refine s_fieldB ?_ | refine s_fieldV ?_ | refine s_loadB ?_ | refine s_loadH ?_ | refine s_loadR ?_ | refine s_build ?_ | refine s_len ?_ | refine s_lenR ?_ | refine s_indexArrT ?_ | refine s_indexArrB ?_ | refine s_rem ?_ | refine s_eql ?_ | refine s_convI ?_ | refine s_index ?_ | refine s_indexR ?_ | refine s_addI ?_ | refine s_subI ?_ | refine s_loadBs ?_ | refine s_loadHs ?_ | refine s_sliceHi ?_ | refine a7 ?_ | refine a8 ?_ | refine a9 ?_ | refine RW.storeR rfl rfl rfl rfl (by first | rfl | (simp [allOne, cellsL, one1]; done) | (simp [allOne, cellsL, one1]; first | assumption | (refine ⟨?_, ?_⟩ <;> assumption))) rfl ?_ | refine a10 ?_ | refine RW.storeR1 rfl rfl (by first | rfl | exact IsSl.one1 (by assumption) | exact IsSl.one1 (SliceRep.isSl (by assumption))) rfl rfl ?_)
          refine Runs.freeze (H := H) vL hM (fun HF hleF hsF hcF => ?_)
          have hrep : SliceRep HF CandL vL (qs.map toC) := SliceRep.of_row hsF (by simp) ((cellsQ_rep (qs := qs) hqr).mono hleF) (Snap.le.refl _) hcF
          have hcut := SliceRep.slv (lo := 0) (hi := i) (mx := capOf vL) (s := 2) hrep rfl (Nat.zero_le _) (by simpa using hil) (by have := hrep.capOf_le; rw [List.length_map] at this; omega) (Nat.le_refl _)
          rw [List.drop_zero, Nat.sub_zero] at hcut
          have hcut1 := hcut.isSl.one1
          refine Runs.regionD _ _ [10] (fun x hx => List.mem_cons_of_mem _ hx) (List.Sublist.refl _) (by kernel_rfl) ?_
          (first | refine t_fieldB 0 ?_ | refine t_fieldV 0 ?_)
          (first | refine t_loadB 1 ?_ | refine t_loadH 1 ?_ | refine t_loadR 1 ?_)
          (first | refine t_indexArrT 2 ?_ | refine t_indexArrB 2 ?_)
          (first | refine t_loadB 3 ?_ | refine t_loadH 3 ?_ | refine t_loadR 3 ?_)
          refine t_convI 4 ?_
          refine d2 5 ?_
          refine t_addI 6 ?_
          refine t_rem 7 ?_
          rw [hi]
          refine t_sliceHi 8 ?_
          (first | refine t_fieldB 9 ?_ | refine t_fieldV 9 ?_)
          (first | refine DW.storeB 10 rfl (by kernel_rfl) rfl rfl rfl rfl (by first | rfl | (simp [allOne, cellsL, one1]; done) | (simp [allOne, cellsL, one1]; first | assumption | (refine ⟨?_, ?_⟩ <;> assumption))) rfl ?_ | refine DW.storeB1 10 rfl (by kernel_rfl) rfl rfl rfl (by first | rfl | exact IsSl.one1 (by assumption) | exact IsSl.one1 (SliceRep.isSl (by assumption))) rfl rfl ?_)
          refine DW.done (by kernel_rfl) ?_
          repeat (first | refine a1 ?_ | refine a3 ?_ | refine a4 ?_ | refine a5 ?_ | refine a6 ?_ | refine s_fieldB ?_ | refine s_fieldV ?_ | refine s_loadB ?_ | refine s_loadH ?_ | refine s_loadR ?_ | refine s_build ?_ | refine s_len ?_ | refine s_lenR ?_ | refine s_indexArrT ?_ | refine s_indexArrB ?_ | refine s_rem ?_ | refine s_eql ?_ | refine s_convI ?_ | refine s_index ?_ | refine s_indexR ?_ | refine s_addI ?_ | refine s_subI ?_ | refine s_loadBs ?_ | refine s_loadHs ?_ | refine s_sliceHi ?_ | refine a7 ?_ | refine a8 ?_ | refine a9 ?_ | refine RW.storeR rfl rfl rfl rfl (by first | rfl | (simp [allOne, cellsL, one1]; done) | (simp [allOne, cellsL, one1]; first | assumption | (refine ⟨?_, ?_⟩ <;> assumption))) rfl ?_ | refine a10 ?_ | refine RW.storeR1 rfl rfl (by first | rfl | exact IsSl.one1 (by assumption) | exact IsSl.one1 (SliceRep.isSl (by assumption))) rfl rfl ?_)
          refine Runs.retC Try.func18 Try.results18 rfl (fun w hm => hR _ w _ HF _ (by simp) (hleF) ?_ hm)
          exact ⟨_, pw, _, rfl, hcut, by simp; omega, fun x hx => by
            obtain ⟨q, hq, rfl⟩ := List.mem_map.1 (List.mem_of_mem_take hx)
            exact hqok1 q hq⟩
end Go.Proofs.Ytjdhcblofkkibaa

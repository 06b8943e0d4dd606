/-
  Contracts: the reference's moved edit; what a step does to a document, of both sides, through an interface too. Conditions: possible edits; valid documents.
-/
import Derived.Test.YtbiohkncdlhigaaUf
namespace Go.Proofs.Ytbiohkncdlhigaa
open Go Go.RowKit

set_option maxHeartbeats 4000000 in
theorem rumoved_c {H : Snap} {e : Ed} {m : Mk} {n : Int} (hm : okM n m) (hp : possE e n) (hn : 0 ≤ n ∧ n ≤ 100000) : Pure Try.prog 48 #[edV e, mkV m] H (fun _ r => r = edV (movE e m)) := by
  have hpn := hp.nums
  have hmm := hm
  unfold okM at hmm
  have r3 : e.k = 3 → 0 ≤ (carryM m ⟨2, e.at_, e.len, 0, []⟩).1.fr ∧ (carryM m ⟨2, e.at_, e.len, 0, []⟩).1.fr ≤ (carryM m ⟨2, e.at_, e.len, 0, []⟩).1.to_ ∧ (carryM m ⟨2, e.at_, e.len, 0, []⟩).1.to_ ≤ n := fun h => rest_bound hm (by omega) (by omega) (by omega)
  have r4 := atP_bound (m := m) (q := e.at_) (n := n) (by omega) (by omega) (by omega)
  have r5 : e.k ≠ 1 → 0 ≤ atP m (e.at_ + e.len) ∧ atP m (e.at_ + e.len) ≤ n := fun h => atP_bound (by omega) (by omega) (by omega)
  refine Pure.intro Try.func48 rfl Try.ntmps48 rfl (fun E R hM hR => ?_)
  repeat (first | refine a4 ?_ | refine a6 ?_)
  refine RW.box rfl rfl rfl rfl (fun b2 => ?_)
  refine RW.box rfl rfl rfl rfl (fun b3 => ?_)
  refine RW.alloc rfl rfl rfl (fun b4 => ?_)
  repeat (first | refine a1 ?_ | refine a4 ?_ | refine a5 ?_ | refine a6 ?_ | refine s_fieldB ?_ | refine s_loadB ?_)
  refine Runs.cond_d rfl (fun hk1 => ?_) (fun hk1 => ?_)
  · repeat (first | refine a4 ?_ | refine a6 ?_ | refine s_fieldB ?_ | refine s_loadB ?_ | refine s_loadBs ?_)
    refine RW.callV rfl (place_c (H := H) (m := m) (q := e.at_) (by unfold smallI; omega) (by unfold smallI; omega) (by unfold smallI; omega) (by omega)) rfl rfl ?_
    rintro _ _ rfl
    repeat (first | refine a4 ?_ | refine a5 ?_ | refine a6 ?_ | refine s_fieldB ?_ | refine s_loadBs ?_ | refine a9 ?_)
    refine Runs.retC Try.func48 Try.results48 rfl (fun w hm => hR _ w _ H _ (List.mem_cons_self ..) (Snap.le.refl _) ?_ hm)
    unfold movE
    rw [if_pos hk1]
  have r5 := r5 hk1
  repeat (refine a4 ?_)
  refine Runs.regionD _ _ [] (fun x hx => List.mem_cons_of_mem _ hx) (List.Sublist.refl _) (by kernel_rfl) ?_
  refine t_fieldB 0 ?_
  refine t_loadB 1 ?_
  refine t_fieldB 2 ?_
  refine t_loadB 3 ?_
  refine t_fieldB 4 ?_
  refine t_loadB 5 ?_
  refine t_addI 6 ?_
  refine d1 7 2 ?_
  refine DW.done (by kernel_rfl) ?_
  repeat (first | refine a1 ?_ | refine a4 ?_ | refine a6 ?_ | refine s_fieldB ?_ | refine s_loadB ?_)
  by_cases hk3 : e.k = 3
  · have r3 := r3 hk3
    rw [decide_eq_true hk3]
    repeat (first | refine a1 ?_ | refine s_fieldB ?_ | refine s_loadB ?_)
    by_cases c1 : e.len = 0
    · have hcase : e.len = 0 ∨ m.fr < e.at_ ∨ e.at_ + e.len < m.to_ := by omega
      rw [decide_eq_true c1]
      repeat (first | refine a1 ?_ | refine a3 ?_ | refine a4 ?_ | refine a5 ?_ | refine a6 ?_ | refine s_fieldB ?_ | refine s_loadB ?_ | refine s_loadBs ?_ | refine s_build ?_ | refine a7 ?_)
      refine RW.callV rfl (rcarry_c (H := H) (m := m) (e := ⟨2, e.at_, e.len, 0, []⟩) hm (.del (.inl rfl) (by omega) (by omega) (by omega) (by omega)) (by omega)) rfl rfl ?_
      rintro _ _ rfl
      repeat (refine a1 ?_)
      refine RW.alloc rfl rfl rfl (fun b7 => ?_)
      repeat (first | refine a1 ?_ | refine a5 ?_ | refine a6 ?_ | refine s_fieldB ?_ | refine s_loadB ?_ | refine s_loadBs ?_ | refine a9 ?_)
      refine RW.callV rfl (place_c (H := H) (m := (carryM m ⟨2, e.at_, e.len, 0, []⟩).1) (q := e.to_) (by unfold smallI; omega) (by unfold smallI; omega) (by unfold smallI; omega) (by omega)) rfl rfl ?_
      rintro _ _ rfl
      repeat (first | refine a1 ?_ | refine a4 ?_ | refine a5 ?_ | refine a6 ?_ | refine s_fieldB ?_ | refine s_loadBs ?_ | refine a9 ?_)
      refine RW.callV rfl (place_c (H := H) (m := m) (q := e.at_) (by unfold smallI; omega) (by unfold smallI; omega) (by unfold smallI; omega) (by omega)) rfl rfl ?_
      rintro _ _ rfl
      repeat (first | refine a4 ?_ | refine a5 ?_ | refine s_fieldB ?_ | refine a9 ?_)
      refine Runs.regionD _ _ [7] (fun x hx => List.mem_cons_of_mem _ hx) (List.Sublist.refl _) (by kernel_rfl) ?_
      refine d2 0 ?_
      refine t_loadBs 1 ?_
      refine t_fieldB 3 ?_
      refine t_loadB 4 ?_
      refine DW.callV 2 rfl (by kernel_rfl) rfl (place_c (H := H) (m := m) (q := e.at_ + e.len) (by unfold smallI; omega) (by unfold smallI; omega) (by unfold smallI; omega) (by omega)) rfl rfl ?_
      rintro _ _ rfl
      refine t_subI 5 ?_
      refine t_fieldB 6 ?_
      refine DW.storeB 7 rfl (by kernel_rfl) rfl rfl rfl rfl (by first | rfl | (simp [allOne, cellsL, one1]; done) | (simp [allOne, cellsL, one1]; first | assumption | (refine ⟨?_, ?_⟩ <;> assumption) | (refine ⟨?_, ?_, ?_⟩ <;> assumption))) rfl ?_
      refine DW.done (by kernel_rfl) ?_
      repeat (first | refine a4 ?_ | refine a5 ?_ | refine a6 ?_ | refine s_loadBs ?_ | refine a9 ?_)
      refine Runs.retC Try.func48 Try.results48 rfl (fun w hm => hR _ w _ H _ (List.mem_cons_self ..) (Snap.le.refl _) ?_ hm)
      unfold movE
      rw [if_neg hk1]
      rw [if_pos ⟨hk3, hcase⟩]
    · rw [decide_eq_false c1]
      repeat (first | refine a1 ?_ | refine s_fieldB ?_ | refine s_loadB ?_)
      by_cases c2 : m.fr < e.at_
      · have hcase : e.len = 0 ∨ m.fr < e.at_ ∨ e.at_ + e.len < m.to_ := by omega
        rw [decide_eq_true c2]
        repeat (first | refine a1 ?_ | refine a3 ?_ | refine a4 ?_ | refine a5 ?_ | refine a6 ?_ | refine s_fieldB ?_ | refine s_loadB ?_ | refine s_loadBs ?_ | refine s_build ?_ | refine a7 ?_)
        refine RW.callV rfl (rcarry_c (H := H) (m := m) (e := ⟨2, e.at_, e.len, 0, []⟩) hm (.del (.inl rfl) (by omega) (by omega) (by omega) (by omega)) (by omega)) rfl rfl ?_
        rintro _ _ rfl
        repeat (refine a1 ?_)
        refine RW.alloc rfl rfl rfl (fun b7 => ?_)
        repeat (first | refine a1 ?_ | refine a5 ?_ | refine a6 ?_ | refine s_fieldB ?_ | refine s_loadB ?_ | refine s_loadBs ?_ | refine a9 ?_)
        refine RW.callV rfl (place_c (H := H) (m := (carryM m ⟨2, e.at_, e.len, 0, []⟩).1) (q := e.to_) (by unfold smallI; omega) (by unfold smallI; omega) (by unfold smallI; omega) (by omega)) rfl rfl ?_
        rintro _ _ rfl
        repeat (first | refine a1 ?_ | refine a4 ?_ | refine a5 ?_ | refine a6 ?_ | refine s_fieldB ?_ | refine s_loadBs ?_ | refine a9 ?_)
        refine RW.callV rfl (place_c (H := H) (m := m) (q := e.at_) (by unfold smallI; omega) (by unfold smallI; omega) (by unfold smallI; omega) (by omega)) rfl rfl ?_
        rintro _ _ rfl
        repeat (first | refine a4 ?_ | refine a5 ?_ | refine s_fieldB ?_ | refine a9 ?_)
        refine Runs.regionD _ _ [7] (fun x hx => List.mem_cons_of_mem _ hx) (List.Sublist.refl _) (by kernel_rfl) ?_
        refine d2 0 ?_
        refine t_loadBs 1 ?_
        refine t_fieldB 3 ?_
        refine t_loadB 4 ?_
        refine DW.callV 2 rfl (by kernel_rfl) rfl (place_c (H := H) (m := m) (q := e.at_ + e.len) (by unfold smallI; omega) (by unfold smallI; omega) (by unfold smallI; omega) (by omega)) rfl rfl ?_
        rintro _ _ rfl
        refine t_subI 5 ?_
        refine t_fieldB 6 ?_
        refine DW.storeB 7 rfl (by kernel_rfl) rfl rfl rfl rfl (by first | rfl | (simp [allOne, cellsL, one1]; done) | (simp [allOne, cellsL, one1]; first | assumption | (refine ⟨?_, ?_⟩ <;> assumption) | (refine ⟨?_, ?_, ?_⟩ <;> assumption))) rfl ?_
        refine DW.done (by kernel_rfl) ?_
        repeat (first | refine a4 ?_ | refine a5 ?_ | refine a6 ?_ | refine s_loadBs ?_ | refine a9 ?_)
        refine Runs.retC Try.func48 Try.results48 rfl (fun w hm => hR _ w _ H _ (List.mem_cons_self ..) (Snap.le.refl _) ?_ hm)
        unfold movE
        rw [if_neg hk1]
        rw [if_pos ⟨hk3, hcase⟩]
      · rw [decide_eq_false c2]
        repeat (first | refine a1 ?_ | refine a5 ?_ | refine s_fieldB ?_ | refine s_loadB ?_)
        by_cases c3 : e.at_ + e.len < m.to_
        · have hcase : e.len = 0 ∨ m.fr < e.at_ ∨ e.at_ + e.len < m.to_ := by omega
          rw [decide_eq_true c3]
          repeat (first | refine a1 ?_ | refine a4 ?_ | refine a6 ?_ | refine s_fieldB ?_ | refine s_loadB ?_ | refine s_loadBs ?_ | refine s_build ?_ | refine a7 ?_)
          refine RW.callV rfl (rcarry_c (H := H) (m := m) (e := ⟨2, e.at_, e.len, 0, []⟩) hm (.del (.inl rfl) (by omega) (by omega) (by omega) (by omega)) (by omega)) rfl rfl ?_
          rintro _ _ rfl
          repeat (refine a1 ?_)
          refine RW.alloc rfl rfl rfl (fun b7 => ?_)
          repeat (first | refine a1 ?_ | refine a5 ?_ | refine a6 ?_ | refine s_fieldB ?_ | refine s_loadB ?_ | refine s_loadBs ?_ | refine a9 ?_)
          refine RW.callV rfl (place_c (H := H) (m := (carryM m ⟨2, e.at_, e.len, 0, []⟩).1) (q := e.to_) (by unfold smallI; omega) (by unfold smallI; omega) (by unfold smallI; omega) (by omega)) rfl rfl ?_
          rintro _ _ rfl
          repeat (first | refine a1 ?_ | refine a4 ?_ | refine a5 ?_ | refine a6 ?_ | refine s_fieldB ?_ | refine s_loadBs ?_ | refine a9 ?_)
          refine RW.callV rfl (place_c (H := H) (m := m) (q := e.at_) (by unfold smallI; omega) (by unfold smallI; omega) (by unfold smallI; omega) (by omega)) rfl rfl ?_
          rintro _ _ rfl
          repeat (first | refine a4 ?_ | refine a5 ?_ | refine s_fieldB ?_ | refine a9 ?_)
          refine Runs.regionD _ _ [7] (fun x hx => List.mem_cons_of_mem _ hx) (List.Sublist.refl _) (by kernel_rfl) ?_
          refine d2 0 ?_
          refine t_loadBs 1 ?_
          refine t_fieldB 3 ?_
          refine t_loadB 4 ?_
          refine DW.callV 2 rfl (by kernel_rfl) rfl (place_c (H := H) (m := m) (q := e.at_ + e.len) (by unfold smallI; omega) (by unfold smallI; omega) (by unfold smallI; omega) (by omega)) rfl rfl ?_
          rintro _ _ rfl
          refine t_subI 5 ?_
          refine t_fieldB 6 ?_
          refine DW.storeB 7 rfl (by kernel_rfl) rfl rfl rfl rfl (by first | rfl | (simp [allOne, cellsL, one1]; done) | (simp [allOne, cellsL, one1]; first | assumption | (refine ⟨?_, ?_⟩ <;> assumption) | (refine ⟨?_, ?_, ?_⟩ <;> assumption))) rfl ?_
          refine DW.done (by kernel_rfl) ?_
          repeat (first | refine a4 ?_ | refine a5 ?_ | refine a6 ?_ | refine s_loadBs ?_ | refine a9 ?_)
          refine Runs.retC Try.func48 Try.results48 rfl (fun w hm => hR _ w _ H _ (List.mem_cons_self ..) (Snap.le.refl _) ?_ hm)
          unfold movE
          rw [if_neg hk1]
          rw [if_pos ⟨hk3, hcase⟩]
        · have hcase : ¬ (e.k = 3 ∧ (e.len = 0 ∨ m.fr < e.at_ ∨ e.at_ + e.len < m.to_)) := by omega
          rw [decide_eq_false c3]
          repeat (first | refine a1 ?_ | refine a4 ?_ | refine a6 ?_ | refine s_loadBs ?_ | refine a8 ?_)
          refine RW.callV rfl (place_c (H := H) (m := m) (q := e.at_) (by unfold smallI; omega) (by unfold smallI; omega) (by unfold smallI; omega) (by omega)) rfl rfl ?_
          rintro _ _ rfl
          repeat (first | refine a4 ?_ | refine a5 ?_ | refine s_fieldB ?_ | refine a9 ?_)
          refine Runs.regionD _ _ [7] (fun x hx => List.mem_cons_of_mem _ hx) (List.Sublist.refl _) (by kernel_rfl) ?_
          refine d2 0 ?_
          refine t_loadBs 1 ?_
          refine t_fieldB 3 ?_
          refine t_loadB 4 ?_
          refine DW.callV 2 rfl (by kernel_rfl) rfl (place_c (H := H) (m := m) (q := e.at_ + e.len) (by unfold smallI; omega) (by unfold smallI; omega) (by unfold smallI; omega) (by omega)) rfl rfl ?_
          rintro _ _ rfl
          refine t_subI 5 ?_
          refine t_fieldB 6 ?_
          refine DW.storeB 7 rfl (by kernel_rfl) rfl rfl rfl rfl (by first | rfl | (simp [allOne, cellsL, one1]; done) | (simp [allOne, cellsL, one1]; first | assumption | (refine ⟨?_, ?_⟩ <;> assumption) | (refine ⟨?_, ?_, ?_⟩ <;> assumption))) rfl ?_
          refine DW.done (by kernel_rfl) ?_
          repeat (first | refine a4 ?_ | refine a5 ?_ | refine a6 ?_ | refine s_loadBs ?_ | refine a9 ?_)
          refine Runs.retC Try.func48 Try.results48 rfl (fun w hm => hR _ w _ H _ (List.mem_cons_self ..) (Snap.le.refl _) ?_ hm)
          unfold movE
          rw [if_neg hk1]
          rw [if_neg hcase]
  · have hcase : ¬ (e.k = 3 ∧ (e.len = 0 ∨ m.fr < e.at_ ∨ e.at_ + e.len < m.to_)) := by omega
    rw [decide_eq_false hk3]
    repeat (first | refine a1 ?_ | refine a3 ?_ | refine a4 ?_ | refine a5 ?_ | refine a6 ?_ | refine s_loadBs ?_ | refine a8 ?_)
    refine RW.callV rfl (place_c (H := H) (m := m) (q := e.at_) (by unfold smallI; omega) (by unfold smallI; omega) (by unfold smallI; omega) (by omega)) rfl rfl ?_
    rintro _ _ rfl
    repeat (first | refine a4 ?_ | refine a5 ?_ | refine s_fieldB ?_ | refine a9 ?_)
    refine Runs.regionD _ _ [7] (fun x hx => List.mem_cons_of_mem _ hx) (List.Sublist.refl _) (by kernel_rfl) ?_
    refine d2 0 ?_
    refine t_loadBs 1 ?_
    refine t_fieldB 3 ?_
    refine t_loadB 4 ?_
    refine DW.callV 2 rfl (by kernel_rfl) rfl (place_c (H := H) (m := m) (q := e.at_ + e.len) (by unfold smallI; omega) (by unfold smallI; omega) (by unfold smallI; omega) (by omega)) rfl rfl ?_
    rintro _ _ rfl
    refine t_subI 5 ?_
    refine t_fieldB 6 ?_
    refine DW.storeB 7 rfl (by kernel_rfl) rfl rfl rfl rfl (by first | rfl | (simp [allOne, cellsL, one1]; done) | (simp [allOne, cellsL, one1]; first | assumption | (refine ⟨?_, ?_⟩ <;> assumption) | (refine ⟨?_, ?_, ?_⟩ <;> assumption))) rfl ?_
    refine DW.done (by kernel_rfl) ?_
    repeat (first | refine a4 ?_ | refine a5 ?_ | refine a6 ?_ | refine s_loadBs ?_ | refine a9 ?_)
    refine Runs.retC Try.func48 Try.results48 rfl (fun w hm => hR _ w _ H _ (List.mem_cons_self ..) (Snap.le.refl _) ?_ hm)
    unfold movE
    rw [if_neg hk1]
    rw [if_neg hcase]

/-! ### Steps -/
def okSt (s : Stp) : Prop := s.e.tx.length ≤ 100000
theorem rapply_c {H : Snap} {d : Dc} {vm : Value} {s : Stp} (hd : SliceRep H MarkL vm d.ms) (hv : validD d) (ht : s.e.tx.length ≤ 100000) : Pure Try.prog 36 #[.agg #[str d.tx, vm], stpV s] H (fun H' r => ∃ v, r = .tuple #[v, .int .i64 (stD d s).2] ∧ DocR H' v (stD d s).1) := by
  have hdo := hd.isSl.one1
  have hsd : stD d s = stD d s := rfl
  conv at hsd => rhs; unfold stD
  obtain ⟨tx, ms⟩ := d
  obtain ⟨v1, v2, v3, v4, v5⟩ := hv
  dsimp only at *
  refine Pure.intro Try.func36 rfl Try.ntmps36 rfl (fun E R hM hR => ?_)
  repeat (first | refine a4 ?_ | refine a6 ?_)
  refine RW.box rfl rfl rfl rfl (fun b2 => ?_)
  refine RW.box rfl rfl rfl rfl (fun b3 => ?_)
  refine RW.alloc rfl rfl rfl (fun b4 => ?_)
  repeat (first | refine a1 ?_ | refine a4 ?_ | refine a5 ?_ | refine a6 ?_ | refine s_fieldB ?_ | refine s_loadB ?_)
  refine Runs.cond_d rfl (fun h0 => ?_) (fun h0 => ?_)
  · rw [if_pos h0] at hsd
    rw [hsd] at hR
    repeat (first | refine a4 ?_ | refine a6 ?_ | refine s_fieldB ?_ | refine s_loadBs ?_)
    refine RW.q (QV.loadEd (s := s) rfl) rfl rfl ?_
    skip
    refine RW.call rfl (rdo_c (e := s.e) hd (by omega) ht v4 (by omega)) rfl rfl ?_
    rintro _ H2 ⟨vd, rfl, hrd⟩ hle2
    obtain ⟨vm2, rfl, hrm⟩ := hrd
    have hro := hrm.isSl.one1
    repeat (first | refine a1 ?_ | refine a5 ?_ | refine a9 ?_)
    refine Runs.retCT Try.func36 Try.results36 rfl rfl (fun w hm => hR _ w _ H2 _ (by simp) (hle2) ?_ hm)
    exact ⟨_, rfl, vm2, rfl, hrm⟩
  rw [if_neg h0] at hsd
  repeat (first | refine a1 ?_ | refine a4 ?_ | refine a5 ?_ | refine a6 ?_ | refine s_fieldB ?_ | refine s_loadB ?_)
  refine Runs.cond_d rfl (fun h1 => ?_) (fun h1 => ?_)
  · rw [if_pos h1] at hsd
    rw [hsd] at hR
    repeat (first | refine a1 ?_ | refine a4 ?_ | refine a5 ?_ | refine a6 ?_ | refine s_build ?_ | refine a9 ?_)
    refine Runs.retCT Try.func36 Try.results36 rfl rfl (fun w hm => hR _ w _ H _ (List.mem_cons_self ..) (Snap.le.refl _) ?_ hm)
    exact ⟨_, rfl, _, rfl, SliceRep.nil⟩
  · rw [if_neg h1] at hsd
    rw [hsd] at hR
    repeat (first | refine a4 ?_ | refine a6 ?_ | refine s_fieldB ?_ | refine s_loadB ?_ | refine s_loadBs ?_ | refine s_build ?_)
    refine RW.call rfl (rput_c (i := s.id) (a := s.e.at_) hd (by omega) ht v4 (by omega) v5) rfl rfl ?_
    rintro _ H2 ⟨vd, rfl, hrd⟩ hle2
    obtain ⟨vm2, rfl, hrm⟩ := hrd
    have hro := hrm.isSl.one1
    repeat (first | refine a1 ?_ | refine a5 ?_ | refine a9 ?_)
    refine Runs.retCT Try.func36 Try.results36 rfl rfl (fun w hm => hR _ w _ H2 _ (by simp) (hle2) ?_ hm)
    exact ⟨_, rfl, vm2, rfl, hrm⟩
theorem pdo_c {H : Snap} {d : Dc} {vm : Value} {e : Ed} (hd : SliceRep H MarkL vm d.ms) (hv : validD d) (ht : e.tx.length ≤ 100000) : Pure Try.prog 88 #[edV e, .agg #[str d.tx, vm]] H (fun H' r => ∃ v, r = .tuple #[v, .int .i64 (doD d e).2] ∧ DocR H' v (doD d e).1) := by
  have hdo := hd.isSl.one1
  obtain ⟨tx, ms⟩ := d
  obtain ⟨v1, v2, v3, v4, v5⟩ := hv
  dsimp only at *
  refine Pure.intro Try.func88 rfl Try.ntmps88 rfl (fun E R hM hR => ?_)
  repeat (first | refine a4 ?_ | refine a6 ?_)
  refine RW.box rfl rfl rfl rfl (fun b2 => ?_)
  refine RW.box rfl rfl rfl rfl (fun b3 => ?_)
  refine RW.alloc rfl rfl rfl (fun b4 => ?_)
  repeat (first | refine a1 ?_ | refine a4 ?_ | refine a5 ?_ | refine a6 ?_ | refine s_loadBs ?_)
  refine RW.call rfl (do_c (e := e) hd (by omega) ht v4 (by omega)) rfl rfl ?_
  rintro _ H2 ⟨vd, rfl, hrd⟩ hle2
  obtain ⟨vm2, rfl, hrm⟩ := hrd
  have hro := hrm.isSl.one1
  repeat (first | refine a1 ?_ | refine a5 ?_ | refine a9 ?_)
  refine Runs.retCT Try.func88 Try.results88 rfl rfl (fun w hm => hR _ w _ H2 _ (by simp) (hle2) ?_ hm)
  exact ⟨_, rfl, vm2, rfl, hrm⟩
theorem cdo_c {H : Snap} {d : Dc} {vm : Value} {s : Stp} (hd : SliceRep H MarkL vm d.ms) (hv : validD d) (ht : s.e.tx.length ≤ 100000) (h0 : ¬ s.id < 0) : Pure Try.prog 93 #[stpV s, .agg #[str d.tx, vm]] H (fun H' r => ∃ v, r = .tuple #[v, .int .i64 (stD d s).2] ∧ DocR H' v (stD d s).1) := by
  have hdo := hd.isSl.one1
  have hsd : stD d s = stD d s := rfl
  conv at hsd => rhs; unfold stD
  rw [if_neg h0] at hsd
  obtain ⟨tx, ms⟩ := d
  obtain ⟨v1, v2, v3, v4, v5⟩ := hv
  dsimp only at *
  refine Pure.intro Try.func93 rfl Try.ntmps93 rfl (fun E R hM hR => ?_)
  repeat (first | refine a4 ?_ | refine a6 ?_)
  refine RW.box rfl rfl rfl rfl (fun b2 => ?_)
  refine RW.box rfl rfl rfl rfl (fun b3 => ?_)
  refine RW.alloc rfl rfl rfl (fun b4 => ?_)
  repeat (first | refine a1 ?_ | refine a4 ?_ | refine a5 ?_ | refine a6 ?_ | refine s_fieldB ?_ | refine s_loadB ?_)
  refine Runs.cond_d rfl (fun h1 => ?_) (fun h1 => ?_)
  · rw [if_pos h1] at hsd
    rw [hsd] at hR
    repeat (first | refine a1 ?_ | refine a4 ?_ | refine a5 ?_ | refine a6 ?_ | refine s_build ?_ | refine a9 ?_)
    refine Runs.retCT Try.func93 Try.results93 rfl rfl (fun w hm => hR _ w _ H _ (List.mem_cons_self ..) (Snap.le.refl _) ?_ hm)
    exact ⟨_, rfl, _, rfl, SliceRep.nil⟩
  · rw [if_neg h1] at hsd
    rw [hsd] at hR
    repeat (first | refine a4 ?_ | refine a6 ?_ | refine s_fieldB ?_ | refine s_loadB ?_ | refine s_loadBs ?_)
    refine RW.call rfl (put_c (i := s.id) (a := s.e.at_) hd (by omega) ht v4 (by omega) v5) rfl rfl ?_
    rintro _ H2 ⟨vd, rfl, hrd⟩ hle2
    obtain ⟨vm2, rfl, hrm⟩ := hrd
    have hro := hrm.isSl.one1
    repeat (first | refine a1 ?_ | refine a5 ?_ | refine a9 ?_)
    refine Runs.retCT Try.func93 Try.results93 rfl rfl (fun w hm => hR _ w _ H2 _ (by simp) (hle2) ?_ hm)
    exact ⟨_, rfl, vm2, rfl, hrm⟩
def deedV (s : Stp) : Value := if s.id < 0 then .iface 102 (edV s.e) else .iface 103 (stpV s)
theorem deedOf_c {H : Snap} {s : Stp} : Pure Try.prog 43 #[stpV s] H (fun _ r => r = deedV s) := by
  refine Pure.intro Try.func43 rfl Try.ntmps43 rfl (fun E R hM hR => ?_)
  repeat (first | refine a4 ?_ | refine a6 ?_)
  refine RW.box rfl rfl rfl rfl (fun b1 => ?_)
  repeat (first | refine a1 ?_ | refine a4 ?_ | refine a5 ?_ | refine a6 ?_ | refine s_fieldB ?_ | refine s_loadB ?_)
  refine Runs.cond_d rfl (fun h0 => ?_) (fun h0 => ?_)
  · repeat (first | refine a4 ?_ | refine a6 ?_ | refine s_fieldB ?_)
    refine RW.q (QV.loadEd (s := s) rfl) rfl rfl ?_
    skip
    refine RW.q (QF.makeIface rfl).qv rfl rfl ?_
    repeat (first | refine a1 ?_ | refine a5 ?_)
    refine Runs.ret1 Try.func43 Try.results43 rfl (fun w hm => hR _ w _ H _ (List.mem_cons_self ..) (Snap.le.refl _) ?_ hm)
    unfold deedV
    rw [if_pos h0]
  · repeat (first | refine a4 ?_ | refine a6 ?_ | refine s_loadBs ?_)
    refine RW.q (QF.makeIface rfl).qv rfl rfl ?_
    repeat (first | refine a1 ?_ | refine a5 ?_)
    refine Runs.ret1 Try.func43 Try.results43 rfl (fun w hm => hR _ w _ H _ (List.mem_cons_self ..) (Snap.le.refl _) ?_ hm)
    unfold deedV
    rw [if_neg h0]
section
variable {P : Program} {f : FuncId} {n : Nat} {E : Ent} {R : Value → World → Prop} {k : List Item} {Hs : List Snap} {O : List Own} {l : Env}
/-- A step's deed, done through the interface. -/
theorem HV.deed {recv x : Operand} {ts : Array TypeId} {d : Dc} {vm : Value} {s : Stp} {H : Snap} (hf : opv l recv = some (deedV s)) (ha : opv l x = some (.agg #[str d.tx, vm])) [hH : InH Hs H] (hd : SliceRep H MarkL vm d.ms) (hv : validD d) (ht : s.e.tx.length ≤ 100000) :
    HV Try.prog E Hs O l (.call ⟨.invoke recv "syllabary/undo.do", #[x], ts⟩) (fun v Hs' O' => ∃ H', (∃ vd, v = .tuple #[vd, .int .i64 (stD d s).2] ∧ DocR H' vd (stD d s).1) ∧ H.le H' ∧ Hs' = H' :: Hs ∧ O' = O) := by
  have ha2 : opvL l [x] = some [.agg #[str d.tx, vm]] := by simp only [opvL, ha]
  unfold deedV at hf
  by_cases h0 : s.id < 0
  · rw [if_pos h0] at hf
    have e : stD d s = doD d s.e := by unfold stD; rw [if_pos h0]
    rw [e]
    exact HV.callI (L := [x]) (vals := [.agg #[str d.tx, vm]]) hf ha2 (pdo_c hd hv ht)
  · rw [if_neg h0] at hf
    exact HV.callI (L := [x]) (vals := [.agg #[str d.tx, vm]]) hf ha2 (cdo_c hd hv ht h0)
end
end Go.Proofs.Ytbiohkncdlhigaa

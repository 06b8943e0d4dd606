/-
  Contracts: an edit as if the piece of a mark were not there, of both sides. Conditions: the edit is possible in a text of n bytes, the mark lies in it.
-/
import Derived.Test.YtbiohkncdlhigaaUe
namespace Go.Proofs.Ytbiohkncdlhigaa
open Go Go.RowKit

theorem rest_bound {m : Mk} {n a l : Int} (hm : okM n m) (ha : 0 ≤ a) (hl : 0 ≤ l) (hn : l ≤ n - a) : 0 ≤ (carryM m ⟨2, a, l, 0, []⟩).1.fr ∧ (carryM m ⟨2, a, l, 0, []⟩).1.fr ≤ (carryM m ⟨2, a, l, 0, []⟩).1.to_ ∧ (carryM m ⟨2, a, l, 0, []⟩).1.to_ ≤ n := by
  unfold okM at hm
  by_cases h2 : (2 : Int) = 4 ∨ l = 0
  · rw [carryM_not (by simp) h2]
    dsimp only
    omega
  · rw [carryM_out (by simp) h2 (by simp)]
    dsimp only
    have b1 := shutP_bound (p := m.fr) (a := a) (n := l) (by omega) (by omega) (by omega)
    have b2 := shutP_mono (p := m.fr) (q := m.to_) (a := a) (n := l) (by omega) (by omega)
    have b3 := shutP_le (p := m.to_) (a := a) (n := l) (N := n) (by omega) (by omega) (by omega)
    have e1 : (withoutM m a l).fr = shutP m.fr a l := rfl
    have e2 : (withoutM m a l).to_ = shutP m.to_ a l := rfl
    split
    · dsimp only; omega
    · rw [if_neg (by simp)]
      dsimp only
      omega
theorem atP_bound {m : Mk} {q n : Int} (h0 : 0 ≤ m.fr) (h1 : m.fr ≤ m.to_) (hq : 0 ≤ q ∧ q ≤ n) : 0 ≤ atP m q ∧ atP m q ≤ n := by
  unfold atP shutP
  split
  · omega
  · split <;> omega
set_option maxHeartbeats 4000000 in
theorem umoved_c {H : Snap} {e : Ed} {m : Mk} {n : Int} (hm : okM n m) (hp : possE e n) (hn : 0 ≤ n ∧ n ≤ 100000) : Pure Try.prog 52 #[edV e, mkV m] H (fun _ r => r = edV (movE e m)) := by
  have hpn := hp.nums
  have hmm := hm
  unfold okM at hmm
  have r3 : e.k = 3 → 0 ≤ (carryM m ⟨2, e.at_, e.len, 0, []⟩).1.fr ∧ (carryM m ⟨2, e.at_, e.len, 0, []⟩).1.fr ≤ (carryM m ⟨2, e.at_, e.len, 0, []⟩).1.to_ ∧ (carryM m ⟨2, e.at_, e.len, 0, []⟩).1.to_ ≤ n := fun h => rest_bound hm (by omega) (by omega) (by omega)
  have r4 := atP_bound (m := m) (q := e.at_) (n := n) (by omega) (by omega) (by omega)
  have r5 : e.k ≠ 1 → 0 ≤ atP m (e.at_ + e.len) ∧ atP m (e.at_ + e.len) ≤ n := fun h => atP_bound (by omega) (by omega) (by omega)
  refine Pure.intro Try.func52 rfl Try.ntmps52 rfl (fun E R hM hR => ?_)
  repeat (first | refine a4 ?_ | refine a6 ?_)
  refine RW.box rfl rfl rfl rfl (fun b2 => ?_)
  refine RW.box rfl rfl rfl rfl (fun b3 => ?_)
  refine RW.alloc rfl rfl rfl (fun b4 => ?_)
  repeat (first | refine a4 ?_ | refine a5 ?_ | refine a6 ?_ | refine s_loadBs ?_)
  refine RW.call rfl (around_c (H := H) (m := m)) rfl rfl ?_
  rintro _ H2 ⟨bA, rfl, hbA⟩ hle2
  repeat (first | refine a1 ?_ | refine a4 ?_ | refine a5 ?_ | refine a6 ?_ | refine s_fieldB ?_ | refine s_loadB ?_)
  refine Runs.cond_d rfl (fun hk1 => ?_) (fun hk1 => ?_)
  · repeat (first | refine a1 ?_ | refine a4 ?_ | refine a6 ?_ | refine s_fieldB ?_ | refine s_loadB ?_)
    refine RW.callL (O1 := []) (cap := [.pointer (some ⟨bA, 0, none⟩)]) rfl rfl (around1_c (H := H2) (m := m) (q := e.at_) (by unfold smallI; omega) (by unfold smallI; omega) (by unfold smallI; omega) (by omega) hbA) (List.nil_sublist _) rfl rfl ?_
    rintro _ H3 rfl hle3
    repeat (first | refine a4 ?_ | refine a5 ?_ | refine a6 ?_ | refine s_loadBs ?_ | refine s_fieldB ?_ | refine a9 ?_)
    refine Runs.retC Try.func52 Try.results52 rfl (fun w hm => hR _ w _ H _ (List.mem_cons_self ..) (Snap.le.refl _) ?_ hm)
    unfold movE
    rw [if_pos hk1]
  have r5 := r5 hk1
  repeat (refine a4 ?_)
  refine Runs.regionD _ _ [] (fun x hx => List.mem_cons_of_mem _ hx) (List.Sublist.refl _) (by kernel_rfl) ?_
  refine t_fieldB 0 ?_
  refine t_loadB 1 ?_
  refine t_fieldB 2 ?_
  refine t_loadB 3 ?_
  refine t_fieldB 4 ?_
  refine t_loadB 5 ?_
  refine t_addI 6 ?_
  refine d1 7 2 ?_
  refine DW.done (by kernel_rfl) ?_
  repeat (first | refine a1 ?_ | refine a4 ?_ | refine a6 ?_ | refine s_fieldB ?_ | refine s_loadB ?_)
  by_cases c1 : 0 < e.len
  · rw [decide_eq_true c1]
    repeat (first | refine a1 ?_ | refine s_fieldB ?_ | refine s_loadB ?_)
    by_cases c2 : e.at_ ≤ m.fr
    · rw [decide_eq_true c2]
      repeat (first | refine a1 ?_ | refine a4 ?_ | refine a5 ?_ | refine a6 ?_ | refine s_fieldB ?_ | refine s_loadB ?_)
      by_cases c3 : m.to_ ≤ e.at_ + e.len
      · rw [decide_eq_true c3]
        skip
        have hcase : ¬ (e.k = 3 ∧ (e.len = 0 ∨ m.fr < e.at_ ∨ e.at_ + e.len < m.to_)) := by omega
        by_cases hk3 : e.k = 3
        · rw [decide_eq_true hk3]
          repeat (first | refine a1 ?_ | refine a4 ?_ | refine a5 ?_ | refine a6 ?_ | refine a8 ?_)
          refine RW.callL (O1 := []) (cap := [.pointer (some ⟨bA, 0, none⟩)]) rfl rfl (around1_c (H := H2) (m := m) (q := e.at_) (by unfold smallI; omega) (by unfold smallI; omega) (by unfold smallI; omega) (by omega) hbA) (List.nil_sublist _) rfl rfl ?_
          rintro _ H5 rfl hle5
          repeat (refine a1 ?_)
          refine RW.callL (O1 := []) (cap := [.pointer (some ⟨bA, 0, none⟩)]) rfl rfl (around1_c (H := H2) (m := m) (q := e.at_ + e.len) (by unfold smallI; omega) (by unfold smallI; omega) (by unfold smallI; omega) (by omega) hbA) (List.nil_sublist _) rfl rfl ?_
          rintro _ H6 rfl hle6
          repeat (refine a1 ?_)
          refine RW.callL (O1 := []) (cap := [.pointer (some ⟨bA, 0, none⟩)]) rfl rfl (around1_c (H := H2) (m := m) (q := e.at_) (by unfold smallI; omega) (by unfold smallI; omega) (by unfold smallI; omega) (by omega) hbA) (List.nil_sublist _) rfl rfl ?_
          rintro _ H7 rfl hle7
          repeat (first | refine a4 ?_ | refine a5 ?_ | refine a6 ?_ | refine s_loadBs ?_ | refine s_fieldB ?_ | refine s_subI ?_ | refine a9 ?_)
          refine Runs.retC Try.func52 Try.results52 rfl (fun w hm => hR _ w _ H _ (List.mem_cons_self ..) (Snap.le.refl _) ?_ hm)
          unfold movE
          rw [if_neg hk1]
          rw [if_neg hcase]
        · rw [decide_eq_false hk3]
          repeat (first | refine a1 ?_ | refine a3 ?_ | refine a4 ?_ | refine a5 ?_ | refine a6 ?_ | refine a8 ?_)
          refine RW.callL (O1 := []) (cap := [.pointer (some ⟨bA, 0, none⟩)]) rfl rfl (around1_c (H := H2) (m := m) (q := e.at_) (by unfold smallI; omega) (by unfold smallI; omega) (by unfold smallI; omega) (by omega) hbA) (List.nil_sublist _) rfl rfl ?_
          rintro _ H5 rfl hle5
          repeat (refine a1 ?_)
          refine RW.callL (O1 := []) (cap := [.pointer (some ⟨bA, 0, none⟩)]) rfl rfl (around1_c (H := H2) (m := m) (q := e.at_ + e.len) (by unfold smallI; omega) (by unfold smallI; omega) (by unfold smallI; omega) (by omega) hbA) (List.nil_sublist _) rfl rfl ?_
          rintro _ H6 rfl hle6
          repeat (refine a1 ?_)
          refine RW.callL (O1 := []) (cap := [.pointer (some ⟨bA, 0, none⟩)]) rfl rfl (around1_c (H := H2) (m := m) (q := e.at_) (by unfold smallI; omega) (by unfold smallI; omega) (by unfold smallI; omega) (by omega) hbA) (List.nil_sublist _) rfl rfl ?_
          rintro _ H7 rfl hle7
          repeat (first | refine a4 ?_ | refine a5 ?_ | refine a6 ?_ | refine s_loadBs ?_ | refine s_fieldB ?_ | refine s_subI ?_ | refine a9 ?_)
          refine Runs.retC Try.func52 Try.results52 rfl (fun w hm => hR _ w _ H _ (List.mem_cons_self ..) (Snap.le.refl _) ?_ hm)
          unfold movE
          rw [if_neg hk1]
          rw [if_neg hcase]
      · rw [decide_eq_false c3]
        skip
        by_cases hk3 : e.k = 3
        · have r3 := r3 hk3
          have hcase : e.len = 0 ∨ m.fr < e.at_ ∨ e.at_ + e.len < m.to_ := by omega
          rw [decide_eq_true hk3]
          repeat (first | refine a1 ?_ | refine a4 ?_ | refine a5 ?_ | refine a6 ?_ | refine s_loadBs ?_ | refine s_fieldB ?_ | refine s_loadB ?_ | refine s_build ?_ | refine a7 ?_)
          refine RW.callV rfl (carry_c (H := H2) (m := m) (e := ⟨2, e.at_, e.len, 0, []⟩) hm (.del (.inl rfl) (by omega) (by omega) (by omega) (by omega)) (by omega)) rfl rfl ?_
          rintro _ _ rfl
          repeat (refine a1 ?_)
          refine RW.alloc rfl rfl rfl (fun b9 => ?_)
          repeat (first | refine a1 ?_ | refine a5 ?_ | refine a9 ?_)
          refine Runs.regionD _ _ [6] (fun x hx => List.mem_cons_of_mem _ hx) (List.Sublist.refl _) (by kernel_rfl) ?_
          refine t_loadBs 0 ?_
          refine t_fieldB 2 ?_
          refine t_loadB 3 ?_
          refine DW.call 1 rfl (by kernel_rfl) rfl (around_c (H := H2) (m := (carryM m ⟨2, e.at_, e.len, 0, []⟩).1)) rfl rfl ?_
          rintro _ H4 ⟨bB, rfl, hbB⟩ hle4
          refine DW.callL 4 (O1 := []) (cap := [.pointer (some ⟨bB, 0, none⟩)]) rfl (by kernel_rfl) rfl rfl (around1_c (H := H4) (m := (carryM m ⟨2, e.at_, e.len, 0, []⟩).1) (q := e.to_) (by unfold smallI; omega) (by unfold smallI; omega) (by unfold smallI; omega) (by omega) hbB) (List.nil_sublist _) rfl rfl ?_
          rintro _ H4b rfl hle4b
          refine t_fieldB 5 ?_
          refine DW.storeB 6 rfl (by kernel_rfl) rfl rfl rfl rfl (by first | rfl | (simp [allOne, cellsL, one1]; done) | (simp [allOne, cellsL, one1]; first | assumption | (refine ⟨?_, ?_⟩ <;> assumption) | (refine ⟨?_, ?_, ?_⟩ <;> assumption))) rfl ?_
          refine DW.done (by kernel_rfl) ?_
          repeat (first | refine a1 ?_ | refine a4 ?_ | refine a6 ?_)
          refine RW.callL (O1 := []) (cap := [.pointer (some ⟨bA, 0, none⟩)]) rfl rfl (around1_c (H := H2) (m := m) (q := e.at_) (by unfold smallI; omega) (by unfold smallI; omega) (by unfold smallI; omega) (by omega) hbA) (List.nil_sublist _) rfl rfl ?_
          rintro _ H5 rfl hle5
          repeat (refine a1 ?_)
          refine RW.callL (O1 := []) (cap := [.pointer (some ⟨bA, 0, none⟩)]) rfl rfl (around1_c (H := H2) (m := m) (q := e.at_ + e.len) (by unfold smallI; omega) (by unfold smallI; omega) (by unfold smallI; omega) (by omega) hbA) (List.nil_sublist _) rfl rfl ?_
          rintro _ H6 rfl hle6
          repeat (refine a1 ?_)
          refine RW.callL (O1 := []) (cap := [.pointer (some ⟨bA, 0, none⟩)]) rfl rfl (around1_c (H := H2) (m := m) (q := e.at_) (by unfold smallI; omega) (by unfold smallI; omega) (by unfold smallI; omega) (by omega) hbA) (List.nil_sublist _) rfl rfl ?_
          rintro _ H7 rfl hle7
          repeat (first | refine a4 ?_ | refine a5 ?_ | refine a6 ?_ | refine s_loadBs ?_ | refine s_fieldB ?_ | refine s_subI ?_ | refine a9 ?_)
          refine Runs.retC Try.func52 Try.results52 rfl (fun w hm => hR _ w _ H _ (List.mem_cons_self ..) (Snap.le.refl _) ?_ hm)
          unfold movE
          rw [if_neg hk1]
          rw [if_pos ⟨hk3, hcase⟩]
        · have hcase : ¬ (e.k = 3 ∧ (e.len = 0 ∨ m.fr < e.at_ ∨ e.at_ + e.len < m.to_)) := by omega
          rw [decide_eq_false hk3]
          repeat (first | refine a1 ?_ | refine a3 ?_ | refine a4 ?_ | refine a5 ?_ | refine a6 ?_ | refine a8 ?_)
          refine RW.callL (O1 := []) (cap := [.pointer (some ⟨bA, 0, none⟩)]) rfl rfl (around1_c (H := H2) (m := m) (q := e.at_) (by unfold smallI; omega) (by unfold smallI; omega) (by unfold smallI; omega) (by omega) hbA) (List.nil_sublist _) rfl rfl ?_
          rintro _ H5 rfl hle5
          repeat (refine a1 ?_)
          refine RW.callL (O1 := []) (cap := [.pointer (some ⟨bA, 0, none⟩)]) rfl rfl (around1_c (H := H2) (m := m) (q := e.at_ + e.len) (by unfold smallI; omega) (by unfold smallI; omega) (by unfold smallI; omega) (by omega) hbA) (List.nil_sublist _) rfl rfl ?_
          rintro _ H6 rfl hle6
          repeat (refine a1 ?_)
          refine RW.callL (O1 := []) (cap := [.pointer (some ⟨bA, 0, none⟩)]) rfl rfl (around1_c (H := H2) (m := m) (q := e.at_) (by unfold smallI; omega) (by unfold smallI; omega) (by unfold smallI; omega) (by omega) hbA) (List.nil_sublist _) rfl rfl ?_
          rintro _ H7 rfl hle7
          repeat (first | refine a4 ?_ | refine a5 ?_ | refine a6 ?_ | refine s_loadBs ?_ | refine s_fieldB ?_ | refine s_subI ?_ | refine a9 ?_)
          refine Runs.retC Try.func52 Try.results52 rfl (fun w hm => hR _ w _ H _ (List.mem_cons_self ..) (Snap.le.refl _) ?_ hm)
          unfold movE
          rw [if_neg hk1]
          rw [if_neg hcase]
    · rw [decide_eq_false c2]
      repeat (first | refine a1 ?_ | refine a3 ?_ | refine a4 ?_ | refine a5 ?_ | refine a6 ?_ | refine s_fieldB ?_ | refine s_loadB ?_)
      by_cases hk3 : e.k = 3
      · have r3 := r3 hk3
        have hcase : e.len = 0 ∨ m.fr < e.at_ ∨ e.at_ + e.len < m.to_ := by omega
        rw [decide_eq_true hk3]
        repeat (first | refine a1 ?_ | refine a4 ?_ | refine a5 ?_ | refine a6 ?_ | refine s_loadBs ?_ | refine s_fieldB ?_ | refine s_loadB ?_ | refine s_build ?_ | refine a7 ?_)
        refine RW.callV rfl (carry_c (H := H2) (m := m) (e := ⟨2, e.at_, e.len, 0, []⟩) hm (.del (.inl rfl) (by omega) (by omega) (by omega) (by omega)) (by omega)) rfl rfl ?_
        rintro _ _ rfl
        repeat (refine a1 ?_)
        refine RW.alloc rfl rfl rfl (fun b9 => ?_)
        repeat (first | refine a1 ?_ | refine a5 ?_ | refine a9 ?_)
        refine Runs.regionD _ _ [6] (fun x hx => List.mem_cons_of_mem _ hx) (List.Sublist.refl _) (by kernel_rfl) ?_
        refine t_loadBs 0 ?_
        refine t_fieldB 2 ?_
        refine t_loadB 3 ?_
        refine DW.call 1 rfl (by kernel_rfl) rfl (around_c (H := H2) (m := (carryM m ⟨2, e.at_, e.len, 0, []⟩).1)) rfl rfl ?_
        rintro _ H4 ⟨bB, rfl, hbB⟩ hle4
        refine DW.callL 4 (O1 := []) (cap := [.pointer (some ⟨bB, 0, none⟩)]) rfl (by kernel_rfl) rfl rfl (around1_c (H := H4) (m := (carryM m ⟨2, e.at_, e.len, 0, []⟩).1) (q := e.to_) (by unfold smallI; omega) (by unfold smallI; omega) (by unfold smallI; omega) (by omega) hbB) (List.nil_sublist _) rfl rfl ?_
        rintro _ H4b rfl hle4b
        refine t_fieldB 5 ?_
        refine DW.storeB 6 rfl (by kernel_rfl) rfl rfl rfl rfl (by first | rfl | (simp [allOne, cellsL, one1]; done) | (simp [allOne, cellsL, one1]; first | assumption | (refine ⟨?_, ?_⟩ <;> assumption) | (refine ⟨?_, ?_, ?_⟩ <;> assumption))) rfl ?_
        refine DW.done (by kernel_rfl) ?_
        repeat (first | refine a1 ?_ | refine a4 ?_ | refine a6 ?_)
        refine RW.callL (O1 := []) (cap := [.pointer (some ⟨bA, 0, none⟩)]) rfl rfl (around1_c (H := H2) (m := m) (q := e.at_) (by unfold smallI; omega) (by unfold smallI; omega) (by unfold smallI; omega) (by omega) hbA) (List.nil_sublist _) rfl rfl ?_
        rintro _ H5 rfl hle5
        repeat (refine a1 ?_)
        refine RW.callL (O1 := []) (cap := [.pointer (some ⟨bA, 0, none⟩)]) rfl rfl (around1_c (H := H2) (m := m) (q := e.at_ + e.len) (by unfold smallI; omega) (by unfold smallI; omega) (by unfold smallI; omega) (by omega) hbA) (List.nil_sublist _) rfl rfl ?_
        rintro _ H6 rfl hle6
        repeat (refine a1 ?_)
        refine RW.callL (O1 := []) (cap := [.pointer (some ⟨bA, 0, none⟩)]) rfl rfl (around1_c (H := H2) (m := m) (q := e.at_) (by unfold smallI; omega) (by unfold smallI; omega) (by unfold smallI; omega) (by omega) hbA) (List.nil_sublist _) rfl rfl ?_
        rintro _ H7 rfl hle7
        repeat (first | refine a4 ?_ | refine a5 ?_ | refine a6 ?_ | refine s_loadBs ?_ | refine s_fieldB ?_ | refine s_subI ?_ | refine a9 ?_)
        refine Runs.retC Try.func52 Try.results52 rfl (fun w hm => hR _ w _ H _ (List.mem_cons_self ..) (Snap.le.refl _) ?_ hm)
        unfold movE
        rw [if_neg hk1]
        rw [if_pos ⟨hk3, hcase⟩]
      · have hcase : ¬ (e.k = 3 ∧ (e.len = 0 ∨ m.fr < e.at_ ∨ e.at_ + e.len < m.to_)) := by omega
        rw [decide_eq_false hk3]
        repeat (first | refine a1 ?_ | refine a3 ?_ | refine a4 ?_ | refine a5 ?_ | refine a6 ?_ | refine a8 ?_)
        refine RW.callL (O1 := []) (cap := [.pointer (some ⟨bA, 0, none⟩)]) rfl rfl (around1_c (H := H2) (m := m) (q := e.at_) (by unfold smallI; omega) (by unfold smallI; omega) (by unfold smallI; omega) (by omega) hbA) (List.nil_sublist _) rfl rfl ?_
        rintro _ H5 rfl hle5
        repeat (refine a1 ?_)
        refine RW.callL (O1 := []) (cap := [.pointer (some ⟨bA, 0, none⟩)]) rfl rfl (around1_c (H := H2) (m := m) (q := e.at_ + e.len) (by unfold smallI; omega) (by unfold smallI; omega) (by unfold smallI; omega) (by omega) hbA) (List.nil_sublist _) rfl rfl ?_
        rintro _ H6 rfl hle6
        repeat (refine a1 ?_)
        refine RW.callL (O1 := []) (cap := [.pointer (some ⟨bA, 0, none⟩)]) rfl rfl (around1_c (H := H2) (m := m) (q := e.at_) (by unfold smallI; omega) (by unfold smallI; omega) (by unfold smallI; omega) (by omega) hbA) (List.nil_sublist _) rfl rfl ?_
        rintro _ H7 rfl hle7
        repeat (first | refine a4 ?_ | refine a5 ?_ | refine a6 ?_ | refine s_loadBs ?_ | refine s_fieldB ?_ | refine s_subI ?_ | refine a9 ?_)
        refine Runs.retC Try.func52 Try.results52 rfl (fun w hm => hR _ w _ H _ (List.mem_cons_self ..) (Snap.le.refl _) ?_ hm)
        unfold movE
        rw [if_neg hk1]
        rw [if_neg hcase]
  · rw [decide_eq_false c1]
    repeat (first | refine a1 ?_ | refine a3 ?_ | refine a4 ?_ | refine a5 ?_ | refine a6 ?_ | refine s_fieldB ?_ | refine s_loadB ?_)
    by_cases hk3 : e.k = 3
    · have r3 := r3 hk3
      have hcase : e.len = 0 ∨ m.fr < e.at_ ∨ e.at_ + e.len < m.to_ := by omega
      rw [decide_eq_true hk3]
      repeat (first | refine a1 ?_ | refine a4 ?_ | refine a5 ?_ | refine a6 ?_ | refine s_loadBs ?_ | refine s_fieldB ?_ | refine s_loadB ?_ | refine s_build ?_ | refine a7 ?_)
      refine RW.callV rfl (carry_c (H := H2) (m := m) (e := ⟨2, e.at_, e.len, 0, []⟩) hm (.del (.inl rfl) (by omega) (by omega) (by omega) (by omega)) (by omega)) rfl rfl ?_
      rintro _ _ rfl
      repeat (refine a1 ?_)
      refine RW.alloc rfl rfl rfl (fun b9 => ?_)
      repeat (first | refine a1 ?_ | refine a5 ?_ | refine a9 ?_)
      refine Runs.regionD _ _ [6] (fun x hx => List.mem_cons_of_mem _ hx) (List.Sublist.refl _) (by kernel_rfl) ?_
      refine t_loadBs 0 ?_
      refine t_fieldB 2 ?_
      refine t_loadB 3 ?_
      refine DW.call 1 rfl (by kernel_rfl) rfl (around_c (H := H2) (m := (carryM m ⟨2, e.at_, e.len, 0, []⟩).1)) rfl rfl ?_
      rintro _ H4 ⟨bB, rfl, hbB⟩ hle4
      refine DW.callL 4 (O1 := []) (cap := [.pointer (some ⟨bB, 0, none⟩)]) rfl (by kernel_rfl) rfl rfl (around1_c (H := H4) (m := (carryM m ⟨2, e.at_, e.len, 0, []⟩).1) (q := e.to_) (by unfold smallI; omega) (by unfold smallI; omega) (by unfold smallI; omega) (by omega) hbB) (List.nil_sublist _) rfl rfl ?_
      rintro _ H4b rfl hle4b
      refine t_fieldB 5 ?_
      refine DW.storeB 6 rfl (by kernel_rfl) rfl rfl rfl rfl (by first | rfl | (simp [allOne, cellsL, one1]; done) | (simp [allOne, cellsL, one1]; first | assumption | (refine ⟨?_, ?_⟩ <;> assumption) | (refine ⟨?_, ?_, ?_⟩ <;> assumption))) rfl ?_
      refine DW.done (by kernel_rfl) ?_
      repeat (first | refine a1 ?_ | refine a4 ?_ | refine a6 ?_)
      refine RW.callL (O1 := []) (cap := [.pointer (some ⟨bA, 0, none⟩)]) rfl rfl (around1_c (H := H2) (m := m) (q := e.at_) (by unfold smallI; omega) (by unfold smallI; omega) (by unfold smallI; omega) (by omega) hbA) (List.nil_sublist _) rfl rfl ?_
      rintro _ H5 rfl hle5
      repeat (refine a1 ?_)
      refine RW.callL (O1 := []) (cap := [.pointer (some ⟨bA, 0, none⟩)]) rfl rfl (around1_c (H := H2) (m := m) (q := e.at_ + e.len) (by unfold smallI; omega) (by unfold smallI; omega) (by unfold smallI; omega) (by omega) hbA) (List.nil_sublist _) rfl rfl ?_
      rintro _ H6 rfl hle6
      repeat (refine a1 ?_)
      refine RW.callL (O1 := []) (cap := [.pointer (some ⟨bA, 0, none⟩)]) rfl rfl (around1_c (H := H2) (m := m) (q := e.at_) (by unfold smallI; omega) (by unfold smallI; omega) (by unfold smallI; omega) (by omega) hbA) (List.nil_sublist _) rfl rfl ?_
      rintro _ H7 rfl hle7
      repeat (first | refine a4 ?_ | refine a5 ?_ | refine a6 ?_ | refine s_loadBs ?_ | refine s_fieldB ?_ | refine s_subI ?_ | refine a9 ?_)
      refine Runs.retC Try.func52 Try.results52 rfl (fun w hm => hR _ w _ H _ (List.mem_cons_self ..) (Snap.le.refl _) ?_ hm)
      unfold movE
      rw [if_neg hk1]
      rw [if_pos ⟨hk3, hcase⟩]
    · have hcase : ¬ (e.k = 3 ∧ (e.len = 0 ∨ m.fr < e.at_ ∨ e.at_ + e.len < m.to_)) := by omega
      rw [decide_eq_false hk3]
      repeat (first | refine a1 ?_ | refine a3 ?_ | refine a4 ?_ | refine a5 ?_ | refine a6 ?_ | refine a8 ?_)
      refine RW.callL (O1 := []) (cap := [.pointer (some ⟨bA, 0, none⟩)]) rfl rfl (around1_c (H := H2) (m := m) (q := e.at_) (by unfold smallI; omega) (by unfold smallI; omega) (by unfold smallI; omega) (by omega) hbA) (List.nil_sublist _) rfl rfl ?_
      rintro _ H5 rfl hle5
      repeat (refine a1 ?_)
      refine RW.callL (O1 := []) (cap := [.pointer (some ⟨bA, 0, none⟩)]) rfl rfl (around1_c (H := H2) (m := m) (q := e.at_ + e.len) (by unfold smallI; omega) (by unfold smallI; omega) (by unfold smallI; omega) (by omega) hbA) (List.nil_sublist _) rfl rfl ?_
      rintro _ H6 rfl hle6
      repeat (refine a1 ?_)
      refine RW.callL (O1 := []) (cap := [.pointer (some ⟨bA, 0, none⟩)]) rfl rfl (around1_c (H := H2) (m := m) (q := e.at_) (by unfold smallI; omega) (by unfold smallI; omega) (by unfold smallI; omega) (by omega) hbA) (List.nil_sublist _) rfl rfl ?_
      rintro _ H7 rfl hle7
      repeat (first | refine a4 ?_ | refine a5 ?_ | refine a6 ?_ | refine s_loadBs ?_ | refine s_fieldB ?_ | refine s_subI ?_ | refine a9 ?_)
      refine Runs.retC Try.func52 Try.results52 rfl (fun w hm => hR _ w _ H _ (List.mem_cons_self ..) (Snap.le.refl _) ?_ hm)
      unfold movE
      rw [if_neg hk1]
      rw [if_neg hcase]
end Go.Proofs.Ytbiohkncdlhigaa

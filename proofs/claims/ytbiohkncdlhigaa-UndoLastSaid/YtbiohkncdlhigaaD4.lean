/-
  Contracts: Carry of both sides. Conditions: the mark lies in the text, the edit is possible.
-/
import Derived.Test.YtbiohkncdlhigaaD3
namespace Go.Proofs.Ytbiohkncdlhigaa
open Go Go.RowKit

set_option maxHeartbeats 2000000 in
theorem carry_c {H : Snap} {m : Mk} {e : Ed} {n : Int} (hm : okM n m) (h : possE e n) (hn : 0 ≤ n ∧ n ≤ 100000) : Pure Try.prog 56 #[mkV m, edV e] H (fun _ r => r = .tuple #[mkV (carryM m e).1, .bool (carryM m e).2]) := by
  replace h := h.nums
  unfold okM at hm
  obtain ⟨i, fr, to, wh⟩ := m
  obtain ⟨ek, ea, el, et, ex⟩ := e
  dsimp only at h hm
  have hshr := shrunk_c (H := H) (m := ⟨i, fr, to, wh⟩) (a := ea) (n := el)
  dsimp only at hshr
  show Pure Try.prog 56 #[.agg #[.int .i64 i, .int .i64 fr, .int .i64 to, .bool wh], .agg #[.int .i64 ek, .int .i64 ea, .int .i64 el, .int .i64 et, str ex]] H _
  refine Pure.intro Try.func56 rfl Try.ntmps56 rfl (fun E R hM hR => ?_)
  repeat (first | refine a4 ?_ | refine a6 ?_)
  refine RW.box rfl rfl rfl rfl (fun b2 => ?_)
  refine RW.box rfl rfl rfl rfl (fun b3 => ?_)
  refine RW.alloc rfl rfl rfl (fun b4 => ?_)
  by_cases hk1 : ek = 1
  · repeat (first | refine a1 ?_ | refine a4 ?_ | refine a5 ?_ | refine a6 ?_ | refine s_fieldB ?_ | refine s_loadB ?_)
    refine RW.q (QF.add rfl rfl).qv rfl rfl ?_
    repeat (first | refine a1 ?_ | refine a4 ?_ | refine a5 ?_ | refine a6 ?_ | refine s_fieldB ?_ | refine s_loadB ?_)
    rw [decide_eq_true hk1]
    repeat (first | refine a4 ?_ | refine a6 ?_ | refine s_fieldB ?_ | refine s_loadB ?_ | refine s_loadBs ?_ | refine s_lenS ?_ | refine a7 ?_)
    refine RW.callV rfl (grown_c (H := H) (m := ⟨i, fr, to, wh⟩) (a := ea) (k := ex.length) hm.2.2.1 (by unfold smallI; dsimp only; omega) (by unfold smallI; dsimp only; omega) (by unfold smallI; omega) (by unfold smallI; omega)) rfl rfl ?_
    rintro _ _ rfl
    repeat (first | refine a1 ?_ | refine a5 ?_ | refine a9 ?_)
    refine Runs.retCT Try.func56 Try.results56 rfl rfl (fun w hm => hR _ w _ H _ (List.mem_cons_self ..) (Snap.le.refl _) ?_ hm)
    unfold carryM
    dsimp only
    rw [if_pos hk1]
  · replace hshr := hshr (by unfold smallI; omega) (by unfold smallI; omega) (by unfold smallI; omega) (by omega)
    repeat (first | refine a1 ?_ | refine a4 ?_ | refine a5 ?_ | refine a6 ?_ | refine s_fieldB ?_ | refine s_loadB ?_ | refine s_addI ?_)
    rw [decide_eq_false hk1]
    repeat (first | refine a1 ?_ | refine a4 ?_ | refine a5 ?_ | refine a6 ?_ | refine s_fieldB ?_ | refine s_loadB ?_ | refine a8 ?_)
    refine Runs.cond_d rfl (fun hk4 => ?_) (fun hk4 => ?_)
    · rw [decide_eq_true hk4]
      repeat (first | refine a1 ?_ | refine a4 ?_ | refine a5 ?_ | refine a6 ?_ | refine s_loadBs ?_ | refine a7 ?_ | refine a9 ?_)
      refine Runs.retCT Try.func56 Try.results56 rfl rfl (fun w hm => hR _ w _ H _ (List.mem_cons_self ..) (Snap.le.refl _) ?_ hm)
      unfold carryM
      dsimp only
      rw [if_neg hk1, if_pos (.inl hk4)]
    · repeat (first | refine a1 ?_ | refine a5 ?_ | refine a6 ?_ | refine s_fieldB ?_ | refine s_loadB ?_)
      refine Runs.cond_d rfl (fun hl0 => ?_) (fun hl0 => ?_)
      · repeat (first | refine a1 ?_ | refine a4 ?_ | refine a5 ?_ | refine a6 ?_ | refine s_loadBs ?_ | refine a9 ?_)
        refine Runs.retCT Try.func56 Try.results56 rfl rfl (fun w hm => hR _ w _ H _ (List.mem_cons_self ..) (Snap.le.refl _) ?_ hm)
        unfold carryM
        dsimp only
        rw [if_neg hk1, if_pos (.inr hl0)]
      · have q1 := shutP_bound (p := fr) (a := ea) (n := el) (by omega) (by omega) (by omega)
        have q2 := shutP_mono (p := fr) (q := to) (a := ea) (n := el) (by omega) (by omega)
        have q3 := shutP_bound (p := to) (a := ea) (n := el) (by omega) (by omega) (by omega)
        have e1 : (withoutM ⟨i, fr, to, wh⟩ ea el).fr = shutP fr ea el := rfl
        have e2 : (withoutM ⟨i, fr, to, wh⟩ ea el).to_ = shutP to ea el := rfl
        generalize hw : withoutM ⟨i, fr, to, wh⟩ ea el = m2 at e1 e2
        generalize shutP fr ea el = sf at *
        generalize shutP to ea el = st at *
        repeat (first | refine a1 ?_ | refine a4 ?_ | refine a6 ?_ | refine s_fieldB ?_ | refine s_loadB ?_)
        refine RW.dec 36 rfl (fun hk3 => ?_) (fun hk3 => ?_)
        · repeat (first | refine a1 ?_ | refine s_fieldB ?_ | refine s_loadB ?_)
          refine RW.dec 43 rfl (fun h1 => ?_) (fun h1 => ?_)
          · repeat (first | refine a1 ?_ | refine a5 ?_ | refine s_fieldB ?_ | refine s_loadB ?_)
            refine Runs.cond_d rfl (fun h2 => ?_) (fun h2 => ?_)
            · repeat (first | refine a1 ?_ | refine a4 ?_ | refine a5 ?_ | refine a6 ?_ | refine s_fieldB ?_ | refine s_loadB ?_ | refine s_addI ?_ | refine s_loadBs ?_ | refine s_subI ?_ | refine a9 ?_)
              refine Runs.retCT Try.func56 Try.results56 rfl rfl (fun w hm => hR _ w _ H _ (List.mem_cons_self ..) (Snap.le.refl _) ?_ hm)
              unfold carryM
              dsimp only
              rw [if_neg hk1, if_neg (by omega), if_pos ⟨hk3, h1, h2⟩]
              dsimp only
              rw [show fr + (et - ea) = fr + et - ea by omega, show to + (et - ea) = to + et - ea by omega]
            ·
              repeat (first | refine a1 ?_ | refine a4 ?_ | refine a6 ?_ | refine s_fieldB ?_ | refine s_loadB ?_ | refine s_loadBs ?_)
              refine RW.callV rfl (hshr) rfl rfl ?_
              rintro _ _ rfl
              rw [hw]
              repeat (first | refine a1 ?_ | refine a4 ?_ | refine a5 ?_ | refine a6 ?_ | refine s_fieldB ?_ | refine s_loadB ?_ | refine a9 ?_)
              refine Runs.cond_d rfl (fun hne => ?_) (fun hne => ?_)
              · repeat (first | refine a1 ?_ | refine a4 ?_ | refine a5 ?_ | refine a6 ?_ | refine s_build ?_ | refine a9 ?_)
                refine Runs.retCT Try.func56 Try.results56 rfl rfl (fun w hm => hR _ w _ H _ (List.mem_cons_self ..) (Snap.le.refl _) ?_ hm)
                unfold carryM
                dsimp only
                rw [if_neg hk1, if_neg (by omega), if_neg (by omega), hw, if_pos hne]
              · repeat (first | refine a1 ?_ | refine a4 ?_ | refine a5 ?_ | refine a6 ?_ | refine s_fieldB ?_ | refine s_loadB ?_)
                refine Runs.cond_d rfl (fun hk3' => ?_) (fun hk3' => ?_)
                · repeat (first | refine a6 ?_ | refine s_fieldB ?_ | refine s_loadB ?_ | refine s_loadBs ?_)
                  refine RW.callV rfl (grown_c (H := H) (m := m2) (a := et) (k := el) (by omega) (by unfold smallI; omega) (by unfold smallI; omega) (by unfold smallI; omega) (by unfold smallI; omega)) rfl rfl ?_
                  rintro _ _ rfl
                  repeat (first | refine a1 ?_ | refine a4 ?_ | refine a5 ?_ | refine a6 ?_ | refine s_loadBs ?_ | refine a9 ?_)
                  refine Runs.retCT Try.func56 Try.results56 rfl rfl (fun w hm => hR _ w _ H _ (List.mem_cons_self ..) (Snap.le.refl _) ?_ hm)
                  unfold carryM
                  dsimp only
                  rw [if_neg hk1, if_neg (by omega), if_neg (by omega), hw, if_neg hne, if_pos hk3']
                · repeat (first | refine a1 ?_ | refine a4 ?_ | refine a5 ?_ | refine a6 ?_ | refine s_loadBs ?_ | refine a9 ?_)
                  refine Runs.retCT Try.func56 Try.results56 rfl rfl (fun w hm => hR _ w _ H _ (List.mem_cons_self ..) (Snap.le.refl _) ?_ hm)
                  unfold carryM
                  dsimp only
                  rw [if_neg hk1, if_neg (by omega), if_neg (by omega), hw, if_neg hne, if_neg hk3']
          ·
            repeat (first | refine a1 ?_ | refine a3 ?_ | refine a4 ?_ | refine a5 ?_ | refine a6 ?_ | refine s_fieldB ?_ | refine s_loadB ?_ | refine s_loadBs ?_ | refine a8 ?_)
            refine RW.callV rfl (hshr) rfl rfl ?_
            rintro _ _ rfl
            rw [hw]
            repeat (first | refine a1 ?_ | refine a4 ?_ | refine a5 ?_ | refine a6 ?_ | refine s_fieldB ?_ | refine s_loadB ?_ | refine a9 ?_)
            refine Runs.cond_d rfl (fun hne => ?_) (fun hne => ?_)
            · repeat (first | refine a1 ?_ | refine a4 ?_ | refine a5 ?_ | refine a6 ?_ | refine s_build ?_ | refine a9 ?_)
              refine Runs.retCT Try.func56 Try.results56 rfl rfl (fun w hm => hR _ w _ H _ (List.mem_cons_self ..) (Snap.le.refl _) ?_ hm)
              unfold carryM
              dsimp only
              rw [if_neg hk1, if_neg (by omega), if_neg (by omega), hw, if_pos hne]
            · repeat (first | refine a1 ?_ | refine a4 ?_ | refine a5 ?_ | refine a6 ?_ | refine s_fieldB ?_ | refine s_loadB ?_)
              refine Runs.cond_d rfl (fun hk3' => ?_) (fun hk3' => ?_)
              · repeat (first | refine a6 ?_ | refine s_fieldB ?_ | refine s_loadB ?_ | refine s_loadBs ?_)
                refine RW.callV rfl (grown_c (H := H) (m := m2) (a := et) (k := el) (by omega) (by unfold smallI; omega) (by unfold smallI; omega) (by unfold smallI; omega) (by unfold smallI; omega)) rfl rfl ?_
                rintro _ _ rfl
                repeat (first | refine a1 ?_ | refine a4 ?_ | refine a5 ?_ | refine a6 ?_ | refine s_loadBs ?_ | refine a9 ?_)
                refine Runs.retCT Try.func56 Try.results56 rfl rfl (fun w hm => hR _ w _ H _ (List.mem_cons_self ..) (Snap.le.refl _) ?_ hm)
                unfold carryM
                dsimp only
                rw [if_neg hk1, if_neg (by omega), if_neg (by omega), hw, if_neg hne, if_pos hk3']
              · repeat (first | refine a1 ?_ | refine a4 ?_ | refine a5 ?_ | refine a6 ?_ | refine s_loadBs ?_ | refine a9 ?_)
                refine Runs.retCT Try.func56 Try.results56 rfl rfl (fun w hm => hR _ w _ H _ (List.mem_cons_self ..) (Snap.le.refl _) ?_ hm)
                unfold carryM
                dsimp only
                rw [if_neg hk1, if_neg (by omega), if_neg (by omega), hw, if_neg hne, if_neg hk3']
        ·
          repeat (first | refine a1 ?_ | refine a3 ?_ | refine a4 ?_ | refine a5 ?_ | refine a6 ?_ | refine s_fieldB ?_ | refine s_loadB ?_ | refine s_loadBs ?_ | refine a8 ?_)
          refine RW.callV rfl (hshr) rfl rfl ?_
          rintro _ _ rfl
          rw [hw]
          repeat (first | refine a1 ?_ | refine a4 ?_ | refine a5 ?_ | refine a6 ?_ | refine s_fieldB ?_ | refine s_loadB ?_ | refine a9 ?_)
          refine Runs.cond_d rfl (fun hne => ?_) (fun hne => ?_)
          · repeat (first | refine a1 ?_ | refine a4 ?_ | refine a5 ?_ | refine a6 ?_ | refine s_build ?_ | refine a9 ?_)
            refine Runs.retCT Try.func56 Try.results56 rfl rfl (fun w hm => hR _ w _ H _ (List.mem_cons_self ..) (Snap.le.refl _) ?_ hm)
            unfold carryM
            dsimp only
            rw [if_neg hk1, if_neg (by omega), if_neg (by omega), hw, if_pos hne]
          · repeat (first | refine a1 ?_ | refine a4 ?_ | refine a5 ?_ | refine a6 ?_ | refine s_fieldB ?_ | refine s_loadB ?_)
            refine Runs.cond_d rfl (fun hk3' => ?_) (fun hk3' => ?_)
            · repeat (first | refine a6 ?_ | refine s_fieldB ?_ | refine s_loadB ?_ | refine s_loadBs ?_)
              refine RW.callV rfl (grown_c (H := H) (m := m2) (a := et) (k := el) (by omega) (by unfold smallI; omega) (by unfold smallI; omega) (by unfold smallI; omega) (by unfold smallI; omega)) rfl rfl ?_
              rintro _ _ rfl
              repeat (first | refine a1 ?_ | refine a4 ?_ | refine a5 ?_ | refine a6 ?_ | refine s_loadBs ?_ | refine a9 ?_)
              refine Runs.retCT Try.func56 Try.results56 rfl rfl (fun w hm => hR _ w _ H _ (List.mem_cons_self ..) (Snap.le.refl _) ?_ hm)
              unfold carryM
              dsimp only
              rw [if_neg hk1, if_neg (by omega), if_neg (by omega), hw, if_neg hne, if_pos hk3']
            · repeat (first | refine a1 ?_ | refine a4 ?_ | refine a5 ?_ | refine a6 ?_ | refine s_loadBs ?_ | refine a9 ?_)
              refine Runs.retCT Try.func56 Try.results56 rfl rfl (fun w hm => hR _ w _ H _ (List.mem_cons_self ..) (Snap.le.refl _) ?_ hm)
              unfold carryM
              dsimp only
              rw [if_neg hk1, if_neg (by omega), if_neg (by omega), hw, if_neg hne, if_neg hk3']

set_option maxHeartbeats 2000000 in
theorem rcarry_c {H : Snap} {m : Mk} {e : Ed} {n : Int} (hm : okM n m) (h : possE e n) (hn : 0 ≤ n ∧ n ≤ 100000) : Pure Try.prog 46 #[mkV m, edV e] H (fun _ r => r = .tuple #[mkV (carryM m e).1, .bool (carryM m e).2]) := by
  replace h := h.nums
  unfold okM at hm
  obtain ⟨i, fr, to, wh⟩ := m
  obtain ⟨ek, ea, el, et, ex⟩ := e
  dsimp only at h hm
  have hshr := without_c (H := H) (m := ⟨i, fr, to, wh⟩) (a := ea) (n := el)
  dsimp only at hshr
  show Pure Try.prog 46 #[.agg #[.int .i64 i, .int .i64 fr, .int .i64 to, .bool wh], .agg #[.int .i64 ek, .int .i64 ea, .int .i64 el, .int .i64 et, str ex]] H _
  refine Pure.intro Try.func46 rfl Try.ntmps46 rfl (fun E R hM hR => ?_)
  repeat (first | refine a4 ?_ | refine a6 ?_)
  refine RW.box rfl rfl rfl rfl (fun b2 => ?_)
  refine RW.box rfl rfl rfl rfl (fun b3 => ?_)
  refine RW.alloc rfl rfl rfl (fun b4 => ?_)
  repeat (first | refine a1 ?_ | refine a4 ?_ | refine a5 ?_ | refine a6 ?_ | refine s_fieldB ?_ | refine s_loadB ?_)
  refine Runs.cond_d rfl (fun hk1 => ?_) (fun hk1 => ?_)
  · repeat (first | refine a4 ?_ | refine a6 ?_ | refine s_fieldB ?_ | refine s_loadB ?_ | refine s_loadBs ?_ | refine s_lenS ?_)
    refine RW.callV rfl (open_c (H := H) (m := ⟨i, fr, to, wh⟩) (a := ea) (k := ex.length) (by unfold smallI; dsimp only; omega) (by unfold smallI; dsimp only; omega) (by unfold smallI; omega) (by unfold smallI; omega)) rfl rfl ?_
    rintro _ _ rfl
    repeat (first | refine a1 ?_ | refine a5 ?_ | refine a9 ?_)
    refine Runs.retCT Try.func46 Try.results46 rfl rfl (fun w hm => hR _ w _ H _ (List.mem_cons_self ..) (Snap.le.refl _) ?_ hm)
    unfold carryM
    dsimp only
    rw [if_pos hk1]
  · replace hshr := hshr (by unfold smallI; omega) (by unfold smallI; omega) (by unfold smallI; omega) (by omega)
    repeat (first | refine a1 ?_ | refine a4 ?_ | refine a6 ?_ | refine s_fieldB ?_ | refine s_loadB ?_)
    refine RW.dec 21 rfl (fun hk4 => ?_) (fun hk4 => ?_)
    · repeat (first | refine a1 ?_ | refine a3 ?_ | refine a4 ?_ | refine a5 ?_ | refine a6 ?_ | refine s_loadBs ?_ | refine a7 ?_ | refine a9 ?_)
      refine Runs.retCT Try.func46 Try.results46 rfl rfl (fun w hm => hR _ w _ H _ (List.mem_cons_self ..) (Snap.le.refl _) ?_ hm)
      unfold carryM
      dsimp only
      rw [if_neg hk1, if_pos (.inl hk4)]
    · repeat (first | refine a1 ?_ | refine a5 ?_ | refine s_fieldB ?_ | refine s_loadB ?_)
      refine Runs.cond_d rfl (fun hl0 => ?_) (fun hl0 => ?_)
      · repeat (first | refine a1 ?_ | refine a4 ?_ | refine a5 ?_ | refine a6 ?_ | refine s_loadBs ?_ | refine a9 ?_)
        refine Runs.retCT Try.func46 Try.results46 rfl rfl (fun w hm => hR _ w _ H _ (List.mem_cons_self ..) (Snap.le.refl _) ?_ hm)
        unfold carryM
        dsimp only
        rw [if_neg hk1, if_pos (.inr hl0)]
      · have q1 := shutP_bound (p := fr) (a := ea) (n := el) (by omega) (by omega) (by omega)
        have q2 := shutP_mono (p := fr) (q := to) (a := ea) (n := el) (by omega) (by omega)
        have q3 := shutP_bound (p := to) (a := ea) (n := el) (by omega) (by omega) (by omega)
        have e1 : (withoutM ⟨i, fr, to, wh⟩ ea el).fr = shutP fr ea el := rfl
        have e2 : (withoutM ⟨i, fr, to, wh⟩ ea el).to_ = shutP to ea el := rfl
        generalize hw : withoutM ⟨i, fr, to, wh⟩ ea el = m2 at e1 e2
        generalize shutP fr ea el = sf at *
        generalize shutP to ea el = st at *
        repeat (first | refine a1 ?_ | refine a4 ?_ | refine a6 ?_ | refine s_fieldB ?_ | refine s_loadB ?_)
        refine RW.dec 31 rfl (fun hk3 => ?_) (fun hk3 => ?_)
        · repeat (first | refine a1 ?_ | refine s_fieldB ?_ | refine s_loadB ?_)
          refine RW.dec 38 rfl (fun h1 => ?_) (fun h1 => ?_)
          · repeat (first | refine a1 ?_ | refine a5 ?_ | refine s_fieldB ?_ | refine s_loadB ?_ | refine s_addI ?_)
            refine Runs.cond_d rfl (fun h2 => ?_) (fun h2 => ?_)
            · repeat (refine a4 ?_)
              refine Runs.freezeBase b3 hM (fun E2 hM2 hc2 hback => ?_)
              replace hR := fun v w' Hs' H' O' h1 h2 h3 h4 => hR v w' Hs' H' O' h1 h2 h3 (hback _ _ _ h4)
              refine Runs.regionD _ _ [17, 18, 19] (fun x hx => List.mem_cons_of_mem _ hx) (List.Sublist.refl _) (by kernel_rfl) ?_
              refine t_fieldB 0 ?_
              refine t_loadB 1 ?_
              refine t_fieldB 2 ?_
              refine DW.qE 3 rfl (by kernel_rfl) (QE.load rfl (hc2 3 _ rfl)) rfl rfl ?_
              refine t_addI 4 ?_
              refine t_fieldB 5 ?_
              refine DW.qE 6 rfl (by kernel_rfl) (QE.load rfl (hc2 1 _ rfl)) rfl rfl ?_
              refine t_subI 7 ?_
              refine t_fieldB 8 ?_
              refine t_loadB 9 ?_
              refine t_fieldB 10 ?_
              refine DW.qE 11 rfl (by kernel_rfl) (QE.load rfl (hc2 3 _ rfl)) rfl rfl ?_
              refine t_addI 12 ?_
              refine t_fieldB 13 ?_
              refine DW.qE 14 rfl (by kernel_rfl) (QE.load rfl (hc2 1 _ rfl)) rfl rfl ?_
              refine t_subI 15 ?_
              refine t_fieldB 16 ?_
              refine DW.storeB 17 rfl (by kernel_rfl) rfl rfl rfl rfl (by first | rfl | (simp [allOne, cellsL, one1]; done) | (simp [allOne, cellsL, one1]; first | assumption | (refine ⟨?_, ?_⟩ <;> assumption))) rfl ?_
              refine DW.qL 18 rfl (by kernel_rfl) rfl (QF.fieldB rfl).qv rfl rfl ?_
              refine DW.storeB 19 rfl (by kernel_rfl) rfl rfl rfl rfl (by first | rfl | (simp [allOne, cellsL, one1]; done) | (simp [allOne, cellsL, one1]; first | assumption | (refine ⟨?_, ?_⟩ <;> assumption))) rfl ?_
              refine DW.done (by kernel_rfl) ?_
              repeat (first | refine a1 ?_ | refine a4 ?_ | refine a5 ?_ | refine a6 ?_ | refine s_loadBs ?_ | refine a9 ?_)
              refine Runs.retCT Try.func46 Try.results46 rfl rfl (fun w hm => hR _ w _ H _ (List.mem_cons_self ..) (Snap.le.refl _) ?_ hm)
              unfold carryM
              dsimp only
              rw [if_neg hk1, if_neg (by omega), if_pos ⟨hk3, h1, h2⟩]
            ·
              repeat (first | refine a4 ?_ | refine a6 ?_ | refine s_fieldB ?_ | refine s_loadB ?_ | refine s_loadBs ?_)
              refine RW.callV rfl (hshr) rfl rfl ?_
              rintro _ _ rfl
              rw [hw]
              repeat (first | refine a1 ?_ | refine a4 ?_ | refine a5 ?_ | refine a6 ?_ | refine s_fieldB ?_ | refine s_loadB ?_ | refine a9 ?_)
              refine Runs.cond_d rfl (fun hne => ?_) (fun hne => ?_)
              · repeat (first | refine a1 ?_ | refine a4 ?_ | refine a5 ?_ | refine a6 ?_ | refine s_build ?_ | refine a9 ?_)
                refine Runs.retCT Try.func46 Try.results46 rfl rfl (fun w hm => hR _ w _ H _ (List.mem_cons_self ..) (Snap.le.refl _) ?_ hm)
                unfold carryM
                dsimp only
                rw [if_neg hk1, if_neg (by omega), if_neg (by omega), hw, if_pos hne]
              · repeat (first | refine a1 ?_ | refine a4 ?_ | refine a5 ?_ | refine a6 ?_ | refine s_fieldB ?_ | refine s_loadB ?_)
                refine Runs.cond_d rfl (fun hk3' => ?_) (fun hk3' => ?_)
                · repeat (first | refine a6 ?_ | refine s_fieldB ?_ | refine s_loadB ?_ | refine s_loadBs ?_)
                  refine RW.callV rfl (open_c (H := H) (m := m2) (a := et) (k := el) (by unfold smallI; omega) (by unfold smallI; omega) (by unfold smallI; omega) (by unfold smallI; omega)) rfl rfl ?_
                  rintro _ _ rfl
                  repeat (first | refine a1 ?_ | refine a4 ?_ | refine a5 ?_ | refine a6 ?_ | refine s_loadBs ?_ | refine a9 ?_)
                  refine Runs.retCT Try.func46 Try.results46 rfl rfl (fun w hm => hR _ w _ H _ (List.mem_cons_self ..) (Snap.le.refl _) ?_ hm)
                  unfold carryM
                  dsimp only
                  rw [if_neg hk1, if_neg (by omega), if_neg (by omega), hw, if_neg hne, if_pos hk3']
                · repeat (first | refine a1 ?_ | refine a4 ?_ | refine a5 ?_ | refine a6 ?_ | refine s_loadBs ?_ | refine a9 ?_)
                  refine Runs.retCT Try.func46 Try.results46 rfl rfl (fun w hm => hR _ w _ H _ (List.mem_cons_self ..) (Snap.le.refl _) ?_ hm)
                  unfold carryM
                  dsimp only
                  rw [if_neg hk1, if_neg (by omega), if_neg (by omega), hw, if_neg hne, if_neg hk3']
          ·
            repeat (first | refine a1 ?_ | refine a3 ?_ | refine a4 ?_ | refine a5 ?_ | refine a6 ?_ | refine s_fieldB ?_ | refine s_loadB ?_ | refine s_loadBs ?_ | refine a8 ?_)
            refine RW.callV rfl (hshr) rfl rfl ?_
            rintro _ _ rfl
            rw [hw]
            repeat (first | refine a1 ?_ | refine a4 ?_ | refine a5 ?_ | refine a6 ?_ | refine s_fieldB ?_ | refine s_loadB ?_ | refine a9 ?_)
            refine Runs.cond_d rfl (fun hne => ?_) (fun hne => ?_)
            · repeat (first | refine a1 ?_ | refine a4 ?_ | refine a5 ?_ | refine a6 ?_ | refine s_build ?_ | refine a9 ?_)
              refine Runs.retCT Try.func46 Try.results46 rfl rfl (fun w hm => hR _ w _ H _ (List.mem_cons_self ..) (Snap.le.refl _) ?_ hm)
              unfold carryM
              dsimp only
              rw [if_neg hk1, if_neg (by omega), if_neg (by omega), hw, if_pos hne]
            · repeat (first | refine a1 ?_ | refine a4 ?_ | refine a5 ?_ | refine a6 ?_ | refine s_fieldB ?_ | refine s_loadB ?_)
              refine Runs.cond_d rfl (fun hk3' => ?_) (fun hk3' => ?_)
              · repeat (first | refine a6 ?_ | refine s_fieldB ?_ | refine s_loadB ?_ | refine s_loadBs ?_)
                refine RW.callV rfl (open_c (H := H) (m := m2) (a := et) (k := el) (by unfold smallI; omega) (by unfold smallI; omega) (by unfold smallI; omega) (by unfold smallI; omega)) rfl rfl ?_
                rintro _ _ rfl
                repeat (first | refine a1 ?_ | refine a4 ?_ | refine a5 ?_ | refine a6 ?_ | refine s_loadBs ?_ | refine a9 ?_)
                refine Runs.retCT Try.func46 Try.results46 rfl rfl (fun w hm => hR _ w _ H _ (List.mem_cons_self ..) (Snap.le.refl _) ?_ hm)
                unfold carryM
                dsimp only
                rw [if_neg hk1, if_neg (by omega), if_neg (by omega), hw, if_neg hne, if_pos hk3']
              · repeat (first | refine a1 ?_ | refine a4 ?_ | refine a5 ?_ | refine a6 ?_ | refine s_loadBs ?_ | refine a9 ?_)
                refine Runs.retCT Try.func46 Try.results46 rfl rfl (fun w hm => hR _ w _ H _ (List.mem_cons_self ..) (Snap.le.refl _) ?_ hm)
                unfold carryM
                dsimp only
                rw [if_neg hk1, if_neg (by omega), if_neg (by omega), hw, if_neg hne, if_neg hk3']
        ·
          repeat (first | refine a1 ?_ | refine a3 ?_ | refine a4 ?_ | refine a5 ?_ | refine a6 ?_ | refine s_fieldB ?_ | refine s_loadB ?_ | refine s_loadBs ?_ | refine a8 ?_)
          refine RW.callV rfl (hshr) rfl rfl ?_
          rintro _ _ rfl
          rw [hw]
          repeat (first | refine a1 ?_ | refine a4 ?_ | refine a5 ?_ | refine a6 ?_ | refine s_fieldB ?_ | refine s_loadB ?_ | refine a9 ?_)
          refine Runs.cond_d rfl (fun hne => ?_) (fun hne => ?_)
          · repeat (first | refine a1 ?_ | refine a4 ?_ | refine a5 ?_ | refine a6 ?_ | refine s_build ?_ | refine a9 ?_)
            refine Runs.retCT Try.func46 Try.results46 rfl rfl (fun w hm => hR _ w _ H _ (List.mem_cons_self ..) (Snap.le.refl _) ?_ hm)
            unfold carryM
            dsimp only
            rw [if_neg hk1, if_neg (by omega), if_neg (by omega), hw, if_pos hne]
          · repeat (first | refine a1 ?_ | refine a4 ?_ | refine a5 ?_ | refine a6 ?_ | refine s_fieldB ?_ | refine s_loadB ?_)
            refine Runs.cond_d rfl (fun hk3' => ?_) (fun hk3' => ?_)
            · repeat (first | refine a6 ?_ | refine s_fieldB ?_ | refine s_loadB ?_ | refine s_loadBs ?_)
              refine RW.callV rfl (open_c (H := H) (m := m2) (a := et) (k := el) (by unfold smallI; omega) (by unfold smallI; omega) (by unfold smallI; omega) (by unfold smallI; omega)) rfl rfl ?_
              rintro _ _ rfl
              repeat (first | refine a1 ?_ | refine a4 ?_ | refine a5 ?_ | refine a6 ?_ | refine s_loadBs ?_ | refine a9 ?_)
              refine Runs.retCT Try.func46 Try.results46 rfl rfl (fun w hm => hR _ w _ H _ (List.mem_cons_self ..) (Snap.le.refl _) ?_ hm)
              unfold carryM
              dsimp only
              rw [if_neg hk1, if_neg (by omega), if_neg (by omega), hw, if_neg hne, if_pos hk3']
            · repeat (first | refine a1 ?_ | refine a4 ?_ | refine a5 ?_ | refine a6 ?_ | refine s_loadBs ?_ | refine a9 ?_)
              refine Runs.retCT Try.func46 Try.results46 rfl rfl (fun w hm => hR _ w _ H _ (List.mem_cons_self ..) (Snap.le.refl _) ?_ hm)
              unfold carryM
              dsimp only
              rw [if_neg hk1, if_neg (by omega), if_neg (by omega), hw, if_neg hne, if_neg hk3']
end Go.Proofs.Ytbiohkncdlhigaa

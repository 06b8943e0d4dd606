/-
  Steps and documents of the reference; what is put keeps a document valid. Conditions: bytes are bytes.
-/
import Derived.Test.YtcikciefaggckaaD10
namespace Go.Proofs.Ytcikciefaggckaa
open Go Go.RowKit

theorem insM_mem {x m : Mk} {ms : List Mk} (h : m ∈ insM x ms) : m = x ∨ m ∈ ms := by
  rw [insM_cnt] at h
  rcases List.mem_append.1 h with h | h
  · exact .inr (List.mem_of_mem_take h)
  · rcases List.mem_cons.1 h with h | h
    · exact .inl h
    · exact .inr (List.mem_of_mem_drop h)
theorem insM_length (x : Mk) (ms : List Mk) : (insM x ms).length = ms.length + 1 := by
  have := cntLt_le ms x.id
  rw [insM_cnt]
  simp
  omega
theorem insM_sorted {x : Mk} {ms : List Mk} (hs : ms.Pairwise (fun a b => a.id < b.id)) (hno : ¬ hasId ms x.id) : (insM x ms).Pairwise (fun a b => a.id < b.id) := by
  have hd : ∀ b ∈ ms.drop (cntLt ms x.id), x.id < b.id := fun b hb => by
    obtain ⟨j, hj⟩ := List.getElem?_of_mem hb
    rw [List.getElem?_drop] at hj
    exact (cntLt_lt hs hno hj).2 (by omega)
  have ht : ∀ b ∈ ms.take (cntLt ms x.id), b.id < x.id := fun b hb => by
    have e : ms.take (cntLt ms x.id) = ms.takeWhile (fun m : Mk => decide (m.id < x.id)) := (take_while (fun m : Mk => decide (m.id < x.id)) ms).1.symm
    rw [e] at hb
    have := tw_imp hb
    simpa using this
  rw [insM_cnt, List.pairwise_append]
  refine ⟨hs.sublist (List.take_sublist _ _), List.pairwise_cons.2 ⟨hd, hs.sublist (List.drop_sublist _ _)⟩, fun a ha b hb => ?_⟩
  rcases List.mem_cons.1 hb with rfl | hb
  · exact ht a ha
  · have := ht a ha
    have := hd b hb
    omega
theorem putD_ok {d : Dc} {i a : Int} {t : List UInt8} (h0 : (putD d i a t).2 = 0) : possE ⟨1, a, 0, 0, t⟩ d.tx.length ∧ 0 ≤ i ∧ ¬ hasId d.ms i ∧ (doD d ⟨1, a, 0, 0, t⟩).2 = 0 ∧ d.ms.length < 100 ∧ (putD d i a t).1 = ⟨(doD d ⟨1, a, 0, 0, t⟩).1.tx, insM ⟨i, a, a + t.length, true⟩ (doD d ⟨1, a, 0, 0, t⟩).1.ms⟩ := by
  unfold putD at *
  split at h0
  · simp at h0
  · rename_i h1
    split at h0
    · simp at h0
    · rename_i h2
      rw [if_neg h1, if_neg h2]
      exact ⟨Classical.not_not.1 fun h => h1 (.inl h), by omega, fun h => h1 (.inr (.inr h)), Classical.not_not.1 fun h => h2 (.inl h), by omega, rfl⟩
theorem doD_ok {d : Dc} {e : Ed} (h0 : (doD d e).2 = 0) : possE e d.tx.length ∧ (applyT d.tx e).length ≤ 400 ∧ (doD d e).1 = ⟨applyT d.tx e, carryL d.ms e⟩ := by
  unfold doD at *
  split at h0
  · rename_i hp
    split at h0
    · simp at h0
    · rename_i hl
      rw [if_pos hp, if_neg hl]
      exact ⟨hp, by omega, rfl⟩
  · simp at h0
theorem putD_valid {d : Dc} {i a : Int} {t : List UInt8} (h : validD d) (h0 : (putD d i a t).2 = 0) : validD (putD d i a t).1 ∧ ∀ m ∈ (putD d i a t).1.ms, m.id = i ∨ hasId d.ms m.id := by
  obtain ⟨hp, hi, hno, hd0, hl, he⟩ := putD_ok h0
  have hv := doD_valid h hd0
  obtain ⟨_, hbig, hde⟩ := doD_ok hd0
  have hpn := hp.nums
  have hal := (applyT_length hp).1 rfl
  rw [he]
  rw [hde] at hv ⊢
  obtain ⟨v1, v2, v3, v4, v5⟩ := hv
  have hno3 := carryL_noId (i := i) h.2.2.2.1 hp hno
  have hcl := carryL_length d.ms ⟨1, a, 0, 0, t⟩
  dsimp only at *
  refine ⟨⟨v1, v2, ?_, fun m hm => ?_, insM_sorted v5 hno3⟩, fun m hm => ?_⟩
  · dsimp only; rw [insM_length]; omega
  · rcases insM_mem hm with rfl | hm
    · unfold okM; dsimp only; omega
    · exact v4 m hm
  · rcases insM_mem hm with rfl | hm
    · exact .inl rfl
    · obtain ⟨y, hy, hye⟩ := List.mem_filterMap.1 hm
      split at hye
      · rename_i hc
        injection hye with hye
        refine .inr ⟨y, hy, ?_⟩
        rw [← hye, (carryM_ok (h.2.2.2.1 y hy) hp hc).2]
      · cases hye
def stepD (d : Dc) (x : Rw) (i : Int) : Dc :=
  if 128 ≤ x.k then (if (putD d i (x.a % ((d.tx.length : Int) + 1)) (wordT x.tx)).2 = 0 then (putD d i (x.a % ((d.tx.length : Int) + 1)) (wordT x.tx)).1 else d)
  else (if (doD d (editE x d.tx.length)).2 = 0 then (doD d (editE x d.tx.length)).1 else d)
theorem carryL_ids {ms : List Mk} {e : Ed} {s : List UInt8} (hm : ∀ m ∈ ms, okM s.length m) (h : possE e s.length) : ∀ m ∈ carryL ms e, hasId ms m.id := by
  intro m hmem
  obtain ⟨y, hy, hye⟩ := List.mem_filterMap.1 hmem
  split at hye
  · rename_i hc
    injection hye with hye
    refine ⟨y, hy, ?_⟩
    rw [← hye, (carryM_ok (hm y hy) h hc).2]
  · cases hye
theorem stepD_valid {d : Dc} {x : Rw} {i : Int} (h : validD d) : validD (stepD d x i) ∧ (∀ m ∈ (stepD d x i).ms, m.id = i ∨ hasId d.ms m.id) ∧ (stepD d x i).ms.length ≤ d.ms.length + 1 := by
  have h9 : ∀ m ∈ d.ms, m.id = i ∨ hasId d.ms m.id := fun m hm => .inr ⟨m, hm, rfl⟩
  unfold stepD
  split
  · split
    · rename_i h0
      refine ⟨(putD_valid h h0).1, (putD_valid h h0).2, ?_⟩
      obtain ⟨_, _, _, hd0, _, he⟩ := putD_ok h0
      obtain ⟨_, _, hde⟩ := doD_ok hd0
      rw [he, hde]
      dsimp only
      rw [insM_length]
      have := carryL_length d.ms ⟨1, x.a % ((d.tx.length : Int) + 1), 0, 0, wordT x.tx⟩
      omega
    · exact ⟨h, h9, by omega⟩
  · split
    · rename_i h0
      obtain ⟨hp, _, hde⟩ := doD_ok h0
      refine ⟨doD_valid h h0, ?_, ?_⟩
      · rw [hde]
        exact fun m hm => .inr (carryL_ids h.2.2.2.1 hp m hm)
      · rw [hde]
        have := carryL_length d.ms (editE x d.tx.length)
        dsimp only
        omega
    · exact ⟨h, h9, by omega⟩
def madeK (l : List Rw) : Nat → Dc
  | 0 => ⟨[], []⟩
  | k + 1 => match l[k]? with
    | some x => stepD (madeK l k) x k
    | none => madeK l k
theorem madeK_valid (l : List Rw) : ∀ k, validD (madeK l k) ∧ (∀ m ∈ (madeK l k).ms, m.id < k) ∧ (madeK l k).ms.length ≤ k
  | 0 => by
    refine ⟨⟨?_, ?_, ?_, ?_, ?_⟩, ?_, ?_⟩ <;> simp [madeK, plainP]
  | k + 1 => by
    obtain ⟨h1, h2, h3⟩ := madeK_valid l k
    unfold madeK
    split
    · rename_i x _
      obtain ⟨g1, g2, g3⟩ := stepD_valid (x := x) (i := k) h1
      refine ⟨g1, fun m hm => ?_, by omega⟩
      rcases g2 m hm with h | ⟨y, hy, he⟩
      · omega
      · have := h2 y hy
        omega
    · refine ⟨h1, fun m hm => ?_, by omega⟩
      have := h2 m hm
      omega

set_option maxHeartbeats 2000000 in
theorem step_c {H : Snap} {d : Dc} {vm v : Value} {x : Rw} {i : Int} (hd : SliceRep H MarkL vm d.ms) (hv : SliceRep H U8 v x.tx) (hx : okRw x) (hdv : validD d) : Pure Try.prog 30 #[.agg #[str d.tx, vm], .agg #[.int .u8 x.k, .int .u8 x.a, .int .u8 x.l, .int .u8 x.t, v], .int .i64 i] H (fun H' r => DocR H' r (stepD d x i)) := by
  have hvo := hv.isSl.one1
  have hdo := hd.isSl.one1
  have hed := editE_tx x d.tx.length
  have hw := wordT_length x.tx
  have hsd : stepD d x i = stepD d x i := rfl
  conv at hsd => rhs; unfold stepD
  obtain ⟨s, ms⟩ := d
  have hdv' := hdv
  obtain ⟨v1, v2, v3, v4, v5⟩ := hdv'
  have hx' := hx
  obtain ⟨⟨g1, g2⟩, ⟨g3, g4⟩, ⟨g5, g6⟩, ⟨g7, g8⟩, hb⟩ := hx'
  dsimp only at *
  refine Pure.intro Try.func30 rfl Try.ntmps30 rfl (fun E R hM hR => ?_)
  repeat (first | refine a1 ?_ | refine a3 ?_ | refine a4 ?_ | refine a5 ?_ | refine a6 ?_ | refine s_fieldB ?_ | refine s_fieldV ?_ | refine s_loadB ?_ | refine s_loadH ?_ | refine s_loadR ?_ | refine s_geq ?_ | refine s_loadBs ?_ | refine s_loadHs ?_ | refine s_convI ?_ | refine s_lenS ?_ | refine s_addI ?_ | refine s_rem ?_ | refine s_build ?_ | refine a7 ?_ | refine a8 ?_ | refine a9 ?_ | refine RW.storeR rfl rfl rfl rfl (by first | rfl | (simp [allOne, cellsL, one1]; done) | (simp [allOne, cellsL, one1]; first | assumption | (refine ⟨?_, ?_⟩ <;> assumption))) rfl ?_ | refine a10 ?_ | refine RW.storeR1 rfl rfl (by first | rfl | exact IsSl.one1 (by assumption) | exact IsSl.one1 (SliceRep.isSl (by assumption))) rfl rfl ?_)
  refine RW.box rfl rfl rfl rfl (fun b3 => ?_)
  refine RW.box rfl rfl rfl rfl (fun b4 => ?_)
  refine RW.alloc rfl rfl rfl (fun b6 => ?_)
  repeat (first | refine a1 ?_ | refine a3 ?_ | refine a4 ?_ | refine a5 ?_ | refine a6 ?_ | refine s_fieldB ?_ | refine s_fieldV ?_ | refine s_loadB ?_ | refine s_loadH ?_ | refine s_loadR ?_ | refine s_geq ?_ | refine s_loadBs ?_ | refine s_loadHs ?_ | refine s_convI ?_ | refine s_lenS ?_ | refine s_addI ?_ | refine s_rem ?_ | refine s_build ?_ | refine a7 ?_ | refine a8 ?_ | refine a9 ?_ | refine RW.storeR rfl rfl rfl rfl (by first | rfl | (simp [allOne, cellsL, one1]; done) | (simp [allOne, cellsL, one1]; first | assumption | (refine ⟨?_, ?_⟩ <;> assumption))) rfl ?_ | refine a10 ?_ | refine RW.storeR1 rfl rfl (by first | rfl | exact IsSl.one1 (by assumption) | exact IsSl.one1 (SliceRep.isSl (by assumption))) rfl rfl ?_)
  refine Runs.cond_d rfl (fun hk => ?_) (fun hk => ?_)
  · rw [if_pos hk] at hsd
    repeat (first | refine a1 ?_ | refine a3 ?_ | refine a4 ?_ | refine a5 ?_ | refine a6 ?_ | refine s_fieldB ?_ | refine s_fieldV ?_ | refine s_loadB ?_ | refine s_loadH ?_ | refine s_loadR ?_ | refine s_geq ?_ | refine s_loadBs ?_ | refine s_loadHs ?_ | refine s_convI ?_ | refine s_lenS ?_ | refine s_addI ?_ | refine s_rem ?_ | refine s_build ?_ | refine a7 ?_ | refine a8 ?_ | refine a9 ?_ | refine RW.storeR rfl rfl rfl rfl (by first | rfl | (simp [allOne, cellsL, one1]; done) | (simp [allOne, cellsL, one1]; first | assumption | (refine ⟨?_, ?_⟩ <;> assumption))) rfl ?_ | refine a10 ?_ | refine RW.storeR1 rfl rfl (by first | rfl | exact IsSl.one1 (by assumption) | exact IsSl.one1 (SliceRep.isSl (by assumption))) rfl rfl ?_)
    refine Runs.regionD _ _ [19] (fun x hx => List.mem_cons_of_mem _ hx) (List.Sublist.refl _) (by kernel_rfl) ?_
    (first | refine t_loadBs 0 ?_ | refine t_loadHs 0 ?_)
    refine d2 1 ?_
    (first | refine t_fieldB 2 ?_ | refine t_fieldV 2 ?_)
    (first | refine t_loadB 3 ?_ | refine t_loadH 3 ?_ | refine t_loadR 3 ?_)
    refine t_convI 4 ?_
    (first | refine t_fieldB 5 ?_ | refine t_fieldV 5 ?_)
    (first | refine t_loadB 6 ?_ | refine t_loadH 6 ?_ | refine t_loadR 6 ?_)
    refine t_lenS 7 ?_
    refine t_addI 8 ?_
    refine t_rem 9 ?_
    (first | refine t_fieldB 10 ?_ | refine t_fieldV 10 ?_)
    (first | refine t_loadB 11 ?_ | refine t_loadH 11 ?_ | refine t_loadR 11 ?_)
    refine DW.float 18 rfl rfl ?_
    refine DWf.call 12 rfl rfl rfl (by kernel_rfl) (by kernel_rfl) rfl rfl rfl rfl rfl rfl (word_c hv hb) ?_
    rintro _ H2 rfl hle2
    refine DWf.qF 13 rfl rfl (by kernel_rfl) (QF.build rfl rfl) (fun _ => QF.build rfl rfl) rfl rfl ?_
    refine DWf.call 14 rfl rfl rfl (by kernel_rfl) (by kernel_rfl) rfl rfl rfl rfl rfl rfl (rput_c hd (by omega) (by omega) v4 (by omega) v5) ?_
    rintro v14 H3 ⟨vd, hvd, hrd⟩ hle3
    subst hvd
    generalize putD ⟨s, ms⟩ i (x.a % ((s.length : Int) + 1)) (wordT x.tx) = q at *
    obtain ⟨⟨qs, qm⟩, qe⟩ := q
    obtain ⟨vm3, rfl, hrm3⟩ := hrd
    have hi3 := hrm3.isSl
    have ho3 := hi3.one1
    dsimp only at *
    refine DWf.qF 15 rfl rfl (by kernel_rfl) (qev_eq rfl) (fun _ => qev_eq rfl) rfl rfl ?_
    refine DWf.qF 16 rfl rfl (by kernel_rfl) (qev_eq rfl) (fun _ => qev_eq rfl) rfl rfl ?_
    refine DWf.qF 17 rfl rfl (by kernel_rfl) (qev_eq rfl) (fun _ => qev_eq rfl) rfl rfl ?_
    refine DWf.take rfl (by kernel_rfl) rfl rfl rfl (fun b7 => ?_)
    simp only [List.cons_append, List.nil_append]
    (first | refine DW.storeB 19 rfl (by kernel_rfl) rfl rfl rfl rfl (by first | rfl | (simp [allOne, cellsL, one1]; done) | (simp [allOne, cellsL, one1]; first | assumption | (refine ⟨?_, ?_⟩ <;> assumption))) rfl ?_ | refine DW.storeB1 19 rfl (by kernel_rfl) rfl rfl rfl (by first | rfl | exact IsSl.one1 (by assumption) | exact IsSl.one1 (SliceRep.isSl (by assumption))) rfl rfl ?_)
    refine d2 20 ?_
    refine DW.done (by kernel_rfl) ?_
    repeat (first | refine a1 ?_ | refine a3 ?_ | refine a4 ?_ | refine a5 ?_ | refine a6 ?_ | refine s_fieldB ?_ | refine s_fieldV ?_ | refine s_loadB ?_ | refine s_loadH ?_ | refine s_loadR ?_ | refine s_geq ?_ | refine s_loadBs ?_ | refine s_loadHs ?_ | refine s_convI ?_ | refine s_lenS ?_ | refine s_addI ?_ | refine s_rem ?_ | refine s_build ?_ | refine a7 ?_ | refine a8 ?_ | refine a9 ?_ | refine RW.storeR rfl rfl rfl rfl (by first | rfl | (simp [allOne, cellsL, one1]; done) | (simp [allOne, cellsL, one1]; first | assumption | (refine ⟨?_, ?_⟩ <;> assumption))) rfl ?_ | refine a10 ?_ | refine RW.storeR1 rfl rfl (by first | rfl | exact IsSl.one1 (by assumption) | exact IsSl.one1 (SliceRep.isSl (by assumption))) rfl rfl ?_)
    refine Runs.cond_d rfl (fun h0 => ?_) (fun h0 => ?_)
    · rw [if_pos h0] at hsd
      rw [hsd] at hR
      repeat (first | refine a1 ?_ | refine a3 ?_ | refine a4 ?_ | refine a5 ?_ | refine a6 ?_ | refine s_fieldB ?_ | refine s_fieldV ?_ | refine s_loadB ?_ | refine s_loadH ?_ | refine s_loadR ?_ | refine s_geq ?_ | refine s_loadBs ?_ | refine s_loadHs ?_ | refine s_convI ?_ | refine s_lenS ?_ | refine s_addI ?_ | refine s_rem ?_ | refine s_build ?_ | refine a7 ?_ | refine a8 ?_ | refine a9 ?_ | refine RW.storeR rfl rfl rfl rfl (by first | rfl | (simp [allOne, cellsL, one1]; done) | (simp [allOne, cellsL, one1]; first | assumption | (refine ⟨?_, ?_⟩ <;> assumption))) rfl ?_ | refine a10 ?_ | refine RW.storeR1 rfl rfl (by first | rfl | exact IsSl.one1 (by assumption) | exact IsSl.one1 (SliceRep.isSl (by assumption))) rfl rfl ?_)
      refine Runs.retC Try.func30 Try.results30 rfl (fun w hm => hR _ w _ H3 _ (by simp) (hle3) ?_ hm)
      exact ⟨_, rfl, hrm3⟩
    · rw [if_neg h0] at hsd
      rw [hsd] at hR
      repeat (first | refine a1 ?_ | refine a3 ?_ | refine a4 ?_ | refine a5 ?_ | refine a6 ?_ | refine s_fieldB ?_ | refine s_fieldV ?_ | refine s_loadB ?_ | refine s_loadH ?_ | refine s_loadR ?_ | refine s_geq ?_ | refine s_loadBs ?_ | refine s_loadHs ?_ | refine s_convI ?_ | refine s_lenS ?_ | refine s_addI ?_ | refine s_rem ?_ | refine s_build ?_ | refine a7 ?_ | refine a8 ?_ | refine a9 ?_ | refine RW.storeR rfl rfl rfl rfl (by first | rfl | (simp [allOne, cellsL, one1]; done) | (simp [allOne, cellsL, one1]; first | assumption | (refine ⟨?_, ?_⟩ <;> assumption))) rfl ?_ | refine a10 ?_ | refine RW.storeR1 rfl rfl (by first | rfl | exact IsSl.one1 (by assumption) | exact IsSl.one1 (SliceRep.isSl (by assumption))) rfl rfl ?_)
      refine Runs.retC Try.func30 Try.results30 rfl (fun w hm => hR _ w _ H _ (List.mem_cons_self ..) (Snap.le.refl _) ?_ hm)
      exact ⟨_, rfl, hd⟩
  · rw [if_neg hk] at hsd
    repeat (first | refine a1 ?_ | refine a3 ?_ | refine a4 ?_ | refine a5 ?_ | refine a6 ?_ | refine s_fieldB ?_ | refine s_fieldV ?_ | refine s_loadB ?_ | refine s_loadH ?_ | refine s_loadR ?_ | refine s_geq ?_ | refine s_loadBs ?_ | refine s_loadHs ?_ | refine s_convI ?_ | refine s_lenS ?_ | refine s_addI ?_ | refine s_rem ?_ | refine s_build ?_ | refine a7 ?_ | refine a8 ?_ | refine a9 ?_ | refine RW.storeR rfl rfl rfl rfl (by first | rfl | (simp [allOne, cellsL, one1]; done) | (simp [allOne, cellsL, one1]; first | assumption | (refine ⟨?_, ?_⟩ <;> assumption))) rfl ?_ | refine a10 ?_ | refine RW.storeR1 rfl rfl (by first | rfl | exact IsSl.one1 (by assumption) | exact IsSl.one1 (SliceRep.isSl (by assumption))) rfl rfl ?_)
    refine Runs.regionD _ _ [11] (fun x hx => List.mem_cons_of_mem _ hx) (List.Sublist.refl _) (by kernel_rfl) ?_
    (first | refine t_loadBs 0 ?_ | refine t_loadHs 0 ?_)
    (first | refine t_loadBs 1 ?_ | refine t_loadHs 1 ?_)
    (first | refine t_fieldB 2 ?_ | refine t_fieldV 2 ?_)
    (first | refine t_loadB 3 ?_ | refine t_loadH 3 ?_ | refine t_loadR 3 ?_)
    refine t_lenS 4 ?_
    refine DW.float 10 rfl rfl ?_
    refine DWf.call 5 rfl rfl rfl (by kernel_rfl) (by kernel_rfl) rfl rfl rfl rfl rfl rfl (edit_c (n := s.length) hv hx (by omega)) ?_
    rintro _ H2 rfl hle2
    refine DWf.call 6 rfl rfl rfl (by kernel_rfl) (by kernel_rfl) rfl rfl rfl rfl rfl rfl (rdo_c hd (by omega) (by omega) v4 (by omega)) ?_
    rintro v36 H3 ⟨vd, hvd, hrd⟩ hle3
    subst hvd
    generalize doD ⟨s, ms⟩ (editE x s.length) = q at *
    obtain ⟨⟨qs, qm⟩, qe⟩ := q
    obtain ⟨vm3, rfl, hrm3⟩ := hrd
    have hi3 := hrm3.isSl
    have ho3 := hi3.one1
    dsimp only at *
    refine DWf.qF 7 rfl rfl (by kernel_rfl) (qev_eq rfl) (fun _ => qev_eq rfl) rfl rfl ?_
    refine DWf.qF 8 rfl rfl (by kernel_rfl) (qev_eq rfl) (fun _ => qev_eq rfl) rfl rfl ?_
    refine DWf.qF 9 rfl rfl (by kernel_rfl) (qev_eq rfl) (fun _ => qev_eq rfl) rfl rfl ?_
    refine DWf.take rfl (by kernel_rfl) rfl rfl rfl (fun b9 => ?_)
    simp only [List.cons_append, List.nil_append]
    (first | refine DW.storeB 11 rfl (by kernel_rfl) rfl rfl rfl rfl (by first | rfl | (simp [allOne, cellsL, one1]; done) | (simp [allOne, cellsL, one1]; first | assumption | (refine ⟨?_, ?_⟩ <;> assumption))) rfl ?_ | refine DW.storeB1 11 rfl (by kernel_rfl) rfl rfl rfl (by first | rfl | exact IsSl.one1 (by assumption) | exact IsSl.one1 (SliceRep.isSl (by assumption))) rfl rfl ?_)
    refine d2 12 ?_
    refine DW.done (by kernel_rfl) ?_
    repeat (first | refine a1 ?_ | refine a3 ?_ | refine a4 ?_ | refine a5 ?_ | refine a6 ?_ | refine s_fieldB ?_ | refine s_fieldV ?_ | refine s_loadB ?_ | refine s_loadH ?_ | refine s_loadR ?_ | refine s_geq ?_ | refine s_loadBs ?_ | refine s_loadHs ?_ | refine s_convI ?_ | refine s_lenS ?_ | refine s_addI ?_ | refine s_rem ?_ | refine s_build ?_ | refine a7 ?_ | refine a8 ?_ | refine a9 ?_ | refine RW.storeR rfl rfl rfl rfl (by first | rfl | (simp [allOne, cellsL, one1]; done) | (simp [allOne, cellsL, one1]; first | assumption | (refine ⟨?_, ?_⟩ <;> assumption))) rfl ?_ | refine a10 ?_ | refine RW.storeR1 rfl rfl (by first | rfl | exact IsSl.one1 (by assumption) | exact IsSl.one1 (SliceRep.isSl (by assumption))) rfl rfl ?_)
    refine Runs.cond_d rfl (fun h0 => ?_) (fun h0 => ?_)
    · rw [if_pos h0] at hsd
      rw [hsd] at hR
      repeat (first | refine a1 ?_ | refine a3 ?_ | refine a4 ?_ | refine a5 ?_ | refine a6 ?_ | refine s_fieldB ?_ | refine s_fieldV ?_ | refine s_loadB ?_ | refine s_loadH ?_ | refine s_loadR ?_ | refine s_geq ?_ | refine s_loadBs ?_ | refine s_loadHs ?_ | refine s_convI ?_ | refine s_lenS ?_ | refine s_addI ?_ | refine s_rem ?_ | refine s_build ?_ | refine a7 ?_ | refine a8 ?_ | refine a9 ?_ | refine RW.storeR rfl rfl rfl rfl (by first | rfl | (simp [allOne, cellsL, one1]; done) | (simp [allOne, cellsL, one1]; first | assumption | (refine ⟨?_, ?_⟩ <;> assumption))) rfl ?_ | refine a10 ?_ | refine RW.storeR1 rfl rfl (by first | rfl | exact IsSl.one1 (by assumption) | exact IsSl.one1 (SliceRep.isSl (by assumption))) rfl rfl ?_)
      refine Runs.retC Try.func30 Try.results30 rfl (fun w hm => hR _ w _ H3 _ (by simp) (hle3) ?_ hm)
      exact ⟨_, rfl, hrm3⟩
    · rw [if_neg h0] at hsd
      rw [hsd] at hR
      repeat (first | refine a1 ?_ | refine a3 ?_ | refine a4 ?_ | refine a5 ?_ | refine a6 ?_ | refine s_fieldB ?_ | refine s_fieldV ?_ | refine s_loadB ?_ | refine s_loadH ?_ | refine s_loadR ?_ | refine s_geq ?_ | refine s_loadBs ?_ | refine s_loadHs ?_ | refine s_convI ?_ | refine s_lenS ?_ | refine s_addI ?_ | refine s_rem ?_ | refine s_build ?_ | refine a7 ?_ | refine a8 ?_ | refine a9 ?_ | refine RW.storeR rfl rfl rfl rfl (by first | rfl | (simp [allOne, cellsL, one1]; done) | (simp [allOne, cellsL, one1]; first | assumption | (refine ⟨?_, ?_⟩ <;> assumption))) rfl ?_ | refine a10 ?_ | refine RW.storeR1 rfl rfl (by first | rfl | exact IsSl.one1 (by assumption) | exact IsSl.one1 (SliceRep.isSl (by assumption))) rfl rfl ?_)
      refine Runs.retC Try.func30 Try.results30 rfl (fun w hm => hR _ w _ H _ (List.mem_cons_self ..) (Snap.le.refl _) ?_ hm)
      exact ⟨_, rfl, hd⟩
end Go.Proofs.Ytcikciefaggckaa

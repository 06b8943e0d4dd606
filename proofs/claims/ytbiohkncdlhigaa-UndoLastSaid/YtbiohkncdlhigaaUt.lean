/-
  Contracts: the past without a commit, of both sides; equal pasts, equal lists of numbers. Conditions: a good past.
-/
import Derived.Test.YtbiohkncdlhigaaUs
namespace Go.Proofs.Ytbiohkncdlhigaa
open Go Go.RowKit

def withoutP (p : Pst) (i : Int) : Pst × Int := if (undoP p i).2.2 ≠ 0 then (nilP, (undoP p i).2.2) else (⟨(undoP p i).1.ds, (undoP p i).1.ss.take i.toNat ++ (undoP p i).1.ss.drop (i.toNat + 1)⟩, 0)
theorem undoP_ok {p : Pst} {i : Int} (h : ¬ (undoP p i).2.2 ≠ 0) : ∃ (k : Nat) (s : Stp), i = (k : Int) ∧ p.ss[k]? = some s ∧ 0 ≤ s.id ∧ s.un = false ∧ depL s.app (k + 1) (markS s) (p.ss.drop (k + 1)) = [] ∧ undoP p i = (undP p k s, [], 0) := by
  unfold undoP at h
  cases hcb : comB p.ss i with
  | false => rw [hcb, if_neg (by simp)] at h; simp at h
  | true =>
    obtain ⟨k, s, rfl, hs, hs0, hsu⟩ := comB_some hcb
    rw [hcb, if_pos rfl, Int.toNat_natCast, hs] at h
    dsimp only at h
    by_cases hdn : depL s.app (k + 1) (markS s) (p.ss.drop (k + 1)) = []
    · refine ⟨k, s, rfl, hs, hs0, hsu, hdn, ?_⟩
      unfold undoP
      rw [hcb, if_pos rfl, Int.toNat_natCast, hs]
      dsimp only
      rw [if_pos hdn]
    · rw [if_neg hdn] at h; simp at h
set_option maxHeartbeats 2000000 in
theorem uwithout_c {H : Snap} {vd vs : Value} {ds : List Dc} {ss : List Stp} {i : Int} (hd : SliceRep H DocL vd ds) (hv : SliceRep H StepL vs ss) (hg : GoodP ⟨ds, ss⟩) :
    Pure Try.prog 24 #[.agg #[vd, vs], .int .i64 i] H (fun H' r => ∃ v, r = .tuple #[v, .int .i64 (withoutP ⟨ds, ss⟩ i).2] ∧ PastR H' v (withoutP ⟨ds, ss⟩ i).1) := by
  have ho1 := hd.isSl.one1
  have ho2 := hv.isSl.one1
  have hwo : withoutP ⟨ds, ss⟩ i = withoutP ⟨ds, ss⟩ i := rfl
  conv at hwo => rhs; unfold withoutP
  refine Pure.intro Try.func24 rfl Try.ntmps24 rfl (fun E R hM hR => ?_)
  repeat (first | refine a4 ?_ | refine a6 ?_)
  refine RW.box rfl rfl rfl rfl (fun b2 => ?_)
  refine RW.alloc rfl rfl rfl (fun b4 => ?_)
  repeat (first | refine a1 ?_ | refine a4 ?_ | refine a5 ?_ | refine a6 ?_ | refine s_loadBs ?_)
  refine RW.callO rfl rfl (undo_c (H := H) (i := i) hd hv hg) rfl rfl ?_
  rintro _ H1 _ ⟨vd2, vs2, vl, rfl, hd2, hl2, rfl, hs2⟩ hle1
  dsimp only [List.cons_append, List.nil_append]
  have ho3 := hd2.isSl.one1
  have ho4 := hs2.one1
  repeat (refine a1 ?_)
  refine RW.alloc rfl rfl rfl (fun b6 => ?_)
  repeat (first | refine a1 ?_ | refine a4 ?_ | refine a5 ?_ | refine a6 ?_ | refine a9 ?_)
  refine Runs.cond_d rfl (fun h0 => ?_) (fun h0 => ?_)
  · rw [if_pos h0] at hwo
    rw [hwo] at hR
    repeat (first | refine a1 ?_ | refine a4 ?_ | refine a5 ?_ | refine a6 ?_ | refine s_build ?_ | refine a9 ?_)
    refine Runs.retCT Try.func24 Try.results24 rfl rfl (fun w hm => hR _ w _ H _ (List.mem_cons_self ..) (Snap.le.refl _) ?_ hm)
    exact ⟨_, rfl, nilP_rep⟩
  · rw [if_neg h0] at hwo
    obtain ⟨k, s, rfl, hs, hs0, hsu, hdn, hun⟩ := undoP_ok h0
    rw [Int.toNat_natCast] at hwo
    rw [hwo] at hR
    have hk := (List.getElem?_eq_some_iff.1 hs).1
    have hlen : (undoP ⟨ds, ss⟩ (k : Int)).1.ss.length = ss.length := by rw [hun]; exact undS_length hs
    have hsz : ss.length ≤ 50 := hg.sz
    generalize (undoP ⟨ds, ss⟩ (k : Int)).1 = q at *
    dsimp only at hk
    repeat (first | refine a1 ?_ | refine a4 ?_ | refine a6 ?_ | refine s_fieldB ?_ | refine s_loadB ?_ | refine s_addI ?_)
    refine RW.callO rfl rfl (delete_c (H := H1) (v := vs2) (ss := q.ss) (i := k) (by omega) (by omega)) rfl rfl ?_
    rintro v25 H2 _ ⟨rfl, hs25⟩ hle2
    dsimp only [List.cons_append, List.nil_append]
    have ho25 := hs25.one1
    repeat (first | refine a1 ?_ | refine a4 ?_ | refine a5 ?_ | refine a6 ?_ | refine s_loadBs ?_ | refine s_fieldB ?_ | refine a9 ?_ | refine a10 ?_)
    refine Runs.freeze (H := H2) v25 hM (fun H3 hle3 hs3 hc3 => ?_)
    refine Runs.retCT Try.func24 Try.results24 rfl rfl (fun w hm => hR _ w _ H3 _ (by simp) (((hle1.trans hle2).trans hle3)) ?_ hm)
    exact ⟨_, rfl, vd2, v25, rfl, hd2.mono (hle2.trans hle3), SliceRep.of_row (H := H3) hs3 (by simp; omega) (stCs_rep H3 _) (Snap.le.refl _) hc3⟩
set_option maxHeartbeats 2000000 in
theorem rwithout_c {H : Snap} {vd vs : Value} {ds : List Dc} {ss : List Stp} {i : Int} (hd : SliceRep H DocL vd ds) (hv : SliceRep H StepL vs ss) (hg : GoodP ⟨ds, ss⟩) :
    Pure Try.prog 25 #[.agg #[vd, vs], .int .i64 i] H (fun H' r => ∃ v, r = .tuple #[v, .int .i64 (withoutP ⟨ds, ss⟩ i).2] ∧ PastR H' v (withoutP ⟨ds, ss⟩ i).1) := by
  have ho1 := hd.isSl.one1
  have ho2 := hv.isSl.one1
  have hwo : withoutP ⟨ds, ss⟩ i = withoutP ⟨ds, ss⟩ i := rfl
  conv at hwo => rhs; unfold withoutP
  refine Pure.intro Try.func25 rfl Try.ntmps25 rfl (fun E R hM hR => ?_)
  repeat (first | refine a4 ?_ | refine a6 ?_)
  refine RW.box rfl rfl rfl rfl (fun b2 => ?_)
  refine RW.alloc rfl rfl rfl (fun b4 => ?_)
  repeat (first | refine a1 ?_ | refine a4 ?_ | refine a5 ?_ | refine a6 ?_ | refine s_loadBs ?_)
  refine RW.call rfl (rundo_c (H := H) (i := i) hd hv hg) rfl rfl ?_
  rintro _ H1 ⟨vd2, vs2, vl, rfl, hd2, hv2, hl2⟩ hle1
  have ho3 := hd2.isSl.one1
  have ho4 := hv2.isSl.one1
  have ho5 := hl2.isSl.one1
  have his2 := hv2.isSl
  refine RW.alloc rfl rfl rfl (fun b6 => ?_)
  refine RW.storeB rfl rfl rfl (by simp [allOne, cellsL, one1]; exact ⟨ho3, ho4, ho5⟩) rfl ?_
  repeat (first | refine a1 ?_ | refine a4 ?_ | refine a5 ?_ | refine a6 ?_ | refine s_fieldB ?_ | refine s_loadB ?_)
  refine Runs.cond_d rfl (fun h0 => ?_) (fun h0 => ?_)
  · rw [if_pos h0] at hwo
    rw [hwo] at hR
    repeat (refine a4 ?_)
    refine Runs.regionD _ ([.blk b6 40 [vd2, vs2, vl, .int .i64 (undoP ⟨ds, ss⟩ i).2.2]]) [] (fun x hx => List.mem_cons_of_mem _ hx) SubO.h (by kernel_rfl) ?_
    refine t_build 0 ?_
    refine t_fieldB 1 ?_
    refine t_loadB 2 ?_
    refine DW.storeBS 3 rfl (by kernel_rfl) rfl rfl rfl rfl rfl inferInstance inferInstance ?_
    refine d2 4 ?_
    refine DW.done (by kernel_rfl) ?_
    skip
    refine Runs.retCT Try.func25 Try.results25 rfl rfl (fun w hm => hR _ w _ H _ (List.mem_cons_self ..) (Snap.le.refl _) ?_ hm)
    exact ⟨_, rfl, nilP_rep⟩
  · rw [if_neg h0] at hwo
    obtain ⟨k, s, rfl, hs, hs0, hsu, hdn, hun⟩ := undoP_ok h0
    rw [Int.toNat_natCast] at hwo
    rw [hwo] at hR
    have hk := (List.getElem?_eq_some_iff.1 hs).1
    have hlen : (undoP ⟨ds, ss⟩ (k : Int)).1.ss.length = ss.length := by rw [hun]; exact undS_length hs
    have hsz : ss.length ≤ 50 := hg.sz
    generalize (undoP ⟨ds, ss⟩ (k : Int)).1 = q at *
    dsimp only at hk
    have hcap := hv2.capOf_le
    have hr1 : SliceRep H1 StepL (slv vs2 8 0 k (capOf vs2)) (q.ss.take k) := by
      have := hv2.slv (lo := 0) (hi := k) (mx := capOf vs2) (s := 8) rfl (by omega) (by omega) (by omega) (Nat.le_refl _)
      simpa using this
    have hr2 : SliceRep H1 StepL (slv vs2 8 (k + 1) q.ss.length (capOf vs2)) (q.ss.drop (k + 1)) := by
      have := hv2.slv (lo := k + 1) (hi := q.ss.length) (mx := capOf vs2) (s := 8) rfl (by omega) (by omega) (by omega) (Nat.le_refl _)
      rwa [List.take_of_length_le (by rw [List.length_drop]; omega)] at this
    have hl1 : (q.ss.take k).length ≤ 50 := by rw [List.length_take]; omega
    have hl2 : (q.ss.drop (k + 1)).length ≤ 50 := by rw [List.length_drop]; omega
    repeat (first | refine a4 ?_ | refine a6 ?_)
    refine RW.buildSlice rfl rfl rfl rfl rfl rfl rfl (fun v17 h17 => ?_)
    repeat (first | refine a1 ?_ | refine s_fieldB ?_ | refine s_loadB ?_ | refine s_sliceHi ?_)
    refine RW.appendH rfl rfl (hr1) (by rfl) rfl (by decide) (by omega) (by omega) (fun _ _ => inferInstance) rfl rfl (fun ds1 v23 hc23 h23 => ?_)
    repeat (first | refine a1 ?_ | refine a4 ?_ | refine a5 ?_ | refine a6 ?_ | refine s_fieldB ?_ | refine s_loadB ?_ | refine s_addI ?_)
    rw [show ((k : Int) + 1) = ((k + 1 : Nat) : Int) from by omega]
    repeat (refine s_sliceLo ?_)
    refine RW.appendH rfl rfl (hr2) (by rfl) rfl (by decide) (by omega) (by omega) (fun _ _ => inferInstance) rfl rfl (fun ds2 v31 hc31 h31 => ?_)
    have ho31 := h31.one1
    repeat (first | refine a4 ?_ | refine a5 ?_ | refine a6 ?_ | refine s_fieldB ?_ | refine a10 ?_)
    refine RW.q (QV.loadBp (c := [vd2, v31]) rfl (by
      intro j u hu
      match j, hu with
      | 0, hu => exact hu
      | 1, hu => exact hu
      | _ + 2, hu => simp at hu)) rfl rfl ?_
    repeat (first | refine a1 ?_ | refine a5 ?_ | refine a9 ?_)
    refine Runs.freeze (H := H1) v31 hM (fun H3 hle3 hs3 hc3 => ?_)
    refine Runs.retCT Try.func25 Try.results25 rfl rfl (fun w hm => hR _ w _ H3 _ (by simp) ((hle1.trans hle3)) ?_ hm)
    have e1 := stCs_of hc23
    have e2 := stCs_of hc31
    subst e1
    subst e2
    refine ⟨_, rfl, vd2, v31, rfl, hd2.mono hle3, SliceRep.of_row (H := H3) hs3 (by simp) (stCs_rep H3 _) (Snap.le.refl _) ?_⟩
    simpa [stCs, repL] using hc3
theorem ints_c {H : Snap} {va vb : Value} {a b : List Int} (ha : SliceRep H I64 va a) (hb : SliceRep H I64 vb b) : Pure Try.prog 19 #[va, vb] H (fun _ r => r = .bool (decide (a = b))) := by
  have h1 := ha.isSl.bound
  have h2 := hb.isSl.bound
  have hia := ha.isSl
  have hib := hb.isSl
  refine Pure.intro Try.func19 rfl Try.ntmps19 rfl (fun E R hM hR => ?_)
  repeat (first | refine a1 ?_ | refine a4 ?_ | refine a5 ?_ | refine a6 ?_ | refine s_len ?_)
  refine Runs.cond_d rfl (fun hl => ?_) (fun hl => ?_)
  · have hne : a ≠ b := fun h => hl (by rw [h])
    rw [decide_eq_false hne] at hR
    repeat (first | refine a1 ?_ | refine a4 ?_ | refine a5 ?_ | refine a6 ?_)
    refine Runs.ret1 Try.func19 Try.results19 rfl (fun w hm => hR _ w _ H _ (List.mem_cons_self ..) (Snap.le.refl _) ?_ hm)
    rfl
  have hl2 : a.length = b.length := by omega
  repeat (first | refine a1 ?_ | refine a4 ?_ | refine a5 ?_ | refine a6 ?_)
  refine Runs.loop (fun k : Nat => k ≤ a.length ∧ ∀ j, j < k → a[j]? = b[j]?) (fun k => a.length - k) (fun _ => [H]) (fun _ => []) (fun k => [(0, va), (1, vb), (5, .int .i64 (k : Int))]) 0 ⟨Nat.zero_le _, by simp⟩
    (fun h => by refine Runs.weak (h) (by repeat (first | exact trivial | refine And.intro rfl ?_)) (fun x hx => List.mem_cons_of_mem _ (SubH.h x hx)) (by repeat (first | exact List.nil_sublist _ | exact List.Sublist.refl _ | refine List.Sublist.cons_cons _ ?_ | refine List.Sublist.cons _ ?_))) ?_
  rintro k ⟨hk, hI⟩ ih
  repeat (first | refine a1 ?_ | refine a4 ?_ | refine a5 ?_ | refine a6 ?_ | refine s_len ?_)
  refine Runs.cond_d rfl (fun hlt => ?_) (fun hlt => ?_)
  · obtain ⟨x, hx⟩ : ∃ x, a[k]? = some x := ⟨_, List.getElem?_eq_getElem (by omega)⟩
    obtain ⟨y, hy⟩ : ∃ y, b[k]? = some y := ⟨_, List.getElem?_eq_getElem (by omega)⟩
    repeat (refine a4 ?_)
    refine Runs.regionD _ _ [] (fun x hx => List.mem_cons_of_mem _ hx) (List.Sublist.refl _) (by kernel_rfl) ?_
    refine d1 0 2 ?_
    refine t_index 2 ?_
    refine t_loadH 3 ?_
    refine d1 4 2 ?_
    refine t_index 6 ?_
    refine t_loadH 7 ?_
    refine d2 8 ?_
    refine DW.done (by kernel_rfl) ?_
    skip
    refine Runs.cond_d rfl (fun hxy => ?_) (fun hxy => ?_)
    · have hne : a ≠ b := fun h => hxy (by rw [h, hy] at hx; exact (Option.some.inj hx).symm)
      rw [decide_eq_false hne] at hR
      repeat (first | refine a1 ?_ | refine a4 ?_ | refine a5 ?_ | refine a6 ?_)
      refine Runs.ret1 Try.func19 Try.results19 rfl (fun w hm => hR _ w _ H _ (List.mem_cons_self ..) (Snap.le.refl _) ?_ hm)
      rfl
    · have hI2 : ∀ j, j < k + 1 → a[j]? = b[j]? := fun j hj => by
        by_cases e : j = k
        · subst e; rw [hx, hy]; congr 1; omega
        · exact hI j (by omega)
      repeat (first | refine a1 ?_ | refine a4 ?_ | refine a5 ?_ | refine a6 ?_ | refine s_addI ?_)
      refine Runs.weak (ih (k + 1) ⟨by omega, hI2⟩ (by omega)) (by repeat (first | exact trivial | refine And.intro rfl ?_)) (fun x hx => List.mem_cons_of_mem _ (SubH.h x hx)) (by repeat (first | exact List.nil_sublist _ | exact List.Sublist.refl _ | refine List.Sublist.cons_cons _ ?_ | refine List.Sublist.cons _ ?_))
  · have he : a = b := List.ext_getElem? fun j => by
      by_cases e : j < k
      · exact hI j e
      · rw [List.getElem?_eq_none (by omega), List.getElem?_eq_none (by omega)]
    rw [decide_eq_true he] at hR
    repeat (first | refine a1 ?_ | refine a4 ?_ | refine a5 ?_ | refine a6 ?_)
    refine Runs.ret1 Try.func19 Try.results19 rfl (fun w hm => hR _ w _ H _ (List.mem_cons_self ..) (Snap.le.refl _) ?_ hm)
    rfl
end Go.Proofs.Ytbiohkncdlhigaa

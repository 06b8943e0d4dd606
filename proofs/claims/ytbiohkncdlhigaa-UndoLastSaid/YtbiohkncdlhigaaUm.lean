/-
  Contracts: the reference's doing a step in a past. Conditions: valid documents, at most 900 steps, texts of at most 100000 bytes.
-/
import Derived.Test.YtbiohkncdlhigaaUl
namespace Go.Proofs.Ytbiohkncdlhigaa
open Go Go.RowKit

theorem any_no {ss : List Stp} {p : Stp → Bool} (h : ∀ (j : Nat) s, ss[j]? = some s → p s = false) : ss.any p = false := by
  cases e : ss.any p with
  | false => rfl
  | true =>
    obtain ⟨s, hs, hp⟩ := List.any_eq_true.1 e
    obtain ⟨j, hj⟩ := List.getElem?_of_mem hs
    rw [h j s hj] at hp; cases hp
set_option maxHeartbeats 8000000 in
theorem rdoP_c {H : Snap} {vd vs : Value} {ds : List Dc} {ss : List Stp} {s : Stp} (hd : SliceRep H DocL vd ds) (hv : SliceRep H StepL vs ss) (hdv : ∀ d ∈ ds, validD d) (hdl : ds.length ≤ 100) (hsl : ss.length ≤ 900) (hts : s.e.tx.length ≤ 100000) :
    Pure Try.prog 28 #[.agg #[vd, vs], stpV s] H (fun H' r => ∃ v, r = .tuple #[v, .int .i64 (doP ⟨ds, ss⟩ s).2] ∧ PastR H' v (doP ⟨ds, ss⟩ s).1) := by
  have hbd := hv.isSl.bound
  have hbd2 := hd.isSl.bound
  have ho1 := hd.isSl.one1
  have ho2 := hv.isSl.one1
  have hisd := hd.isSl
  have hiss := hv.isSl
  obtain ⟨ap, sid, e, un⟩ := s
  dsimp only at hts
  have hdo : doP ⟨ds, ss⟩ ⟨ap, sid, e, un⟩ = doP ⟨ds, ss⟩ ⟨ap, sid, e, un⟩ := rfl
  conv at hdo => rhs; unfold doP
  dsimp only at hdo
  show Pure Try.prog 28 #[.agg #[vd, vs], .agg #[.int .i64 ap, .int .i64 sid, .int .i64 e.k, .int .i64 e.at_, .int .i64 e.len, .int .i64 e.to_, str e.tx, .bool un]] H _
  refine Pure.intro Try.func28 rfl Try.ntmps28 rfl (fun E R hM hR => ?_)
  repeat (first | refine a4 ?_ | refine a6 ?_)
  refine RW.box rfl rfl rfl rfl (fun b2 => ?_)
  refine RW.box rfl rfl rfl rfl (fun b3 => ?_)
  refine RW.alloc rfl rfl rfl (fun b4 => ?_)
  repeat (first | refine a1 ?_ | refine a4 ?_ | refine a5 ?_ | refine a6 ?_ | refine s_fieldB ?_ | refine s_loadB ?_ | refine s_len ?_ | refine s_subI ?_)
  refine RW.callV rfl (in_c (H := H) (x := ap) (lo := 0) (hi := (ds.length : Int) - 1)) rfl rfl ?_
  rintro _ _ rfl
  repeat (refine a1 ?_)
  by_cases h1 : 0 ≤ ap ∧ ap ≤ (ds.length : Int) - 1
  · rw [decide_eq_true h1]
    repeat (first | refine a1 ?_ | refine s_fieldB ?_ | refine s_loadB ?_)
    cases hun : un with
    | true =>
      rw [if_pos (.inr (.inr (.inl hun)))] at hdo
      subst hun
      rw [hdo] at hR
      repeat (first | refine a1 ?_ | refine a3 ?_ | refine a4 ?_ | refine a5 ?_ | refine a6 ?_ | refine s_build ?_ | refine a7 ?_ | refine a9 ?_)
      refine Runs.retCT Try.func28 Try.results28 rfl rfl (fun w hm => hR _ w _ H _ (List.mem_cons_self ..) (Snap.le.refl _) ?_ hm)
      exact ⟨_, rfl, nilP_rep⟩
    | false =>
    subst hun
    repeat (first | refine a1 ?_ | refine a5 ?_ | refine s_fieldB ?_ | refine s_loadB ?_)
    by_cases h4 : sid < -1
    · rw [if_pos (.inr (.inr (.inr h4)))] at hdo
      rw [hdo] at hR
      rw [decide_eq_true h4]
      repeat (first | refine a1 ?_ | refine a4 ?_ | refine a5 ?_ | refine a6 ?_ | refine s_build ?_ | refine a7 ?_ | refine a9 ?_)
      refine Runs.retCT Try.func28 Try.results28 rfl rfl (fun w hm => hR _ w _ H _ (List.mem_cons_self ..) (Snap.le.refl _) ?_ hm)
      exact ⟨_, rfl, nilP_rep⟩
    rw [decide_eq_false h4]
    rw [if_neg (by rintro (h | h | h | h) <;> first | omega | cases h)] at hdo
    obtain ⟨a, rfl⟩ : ∃ a : Nat, ap = (a : Int) := ⟨ap.toNat, by omega⟩
    rw [Int.toNat_natCast] at hdo
    repeat (first | refine a1 ?_ | refine a4 ?_ | refine a5 ?_ | refine a6 ?_ | refine s_fieldB ?_ | refine s_loadB ?_ | refine s_len ?_ | refine a8 ?_)
    by_cases h5 : 400 ≤ ss.length
    · rw [if_pos h5] at hdo
      rw [hdo] at hR
      rw [decide_eq_true (show (400 : Int) ≤ ss.length by omega)]
      repeat (first | refine a1 ?_ | refine a4 ?_ | refine a5 ?_ | refine a6 ?_ | refine s_build ?_ | refine a7 ?_ | refine a9 ?_)
      refine Runs.retCT Try.func28 Try.results28 rfl rfl (fun w hm => hR _ w _ H _ (List.mem_cons_self ..) (Snap.le.refl _) ?_ hm)
      exact ⟨_, rfl, nilP_rep⟩
    rw [decide_eq_false (show ¬ (400 : Int) ≤ ss.length by omega)]
    rw [if_neg h5] at hdo
    repeat (first | refine a1 ?_ | refine a4 ?_ | refine a5 ?_ | refine a6 ?_ | refine a8 ?_)
    refine Runs.loop (fun k : Nat => k ≤ ss.length ∧ ∀ (j : Nat) t, j < k → ss[j]? = some t → decide (0 ≤ sid ∧ t.id = sid) = false) (fun k => ss.length - k) (fun _ => [H]) (fun _ => [.blk b4 27 [.slice none 0 0, .slice none 0 0], .blk b3 33 [.int .i64 (a : Int), .int .i64 sid, .int .i64 e.k, .int .i64 e.at_, .int .i64 e.len, .int .i64 e.to_, str e.tx, .bool false], .blk b2 27 [vd, vs]]) (fun k => [(2, .pointer (some ⟨b2, 0, none⟩)), (3, .pointer (some ⟨b3, 0, none⟩)), (4, .pointer (some ⟨b4, 0, none⟩)), (6, .int .i64 (k : Int))]) 0 ⟨Nat.zero_le _, by simp⟩
      (fun h => by refine Runs.weak (h) (by repeat (first | exact trivial | refine And.intro rfl ?_)) (fun x hx => List.mem_cons_of_mem _ (SubH.h x hx)) (by repeat (first | exact List.nil_sublist _ | exact List.Sublist.refl _ | refine List.Sublist.cons_cons _ ?_ | refine List.Sublist.cons _ ?_))) ?_
    rintro k ⟨hk, hI⟩ ih
    repeat (first | refine a1 ?_ | refine a4 ?_ | refine a5 ?_ | refine a6 ?_ | refine s_fieldB ?_ | refine s_loadB ?_ | refine s_len ?_)
    refine Runs.cond_d rfl (fun hlt => ?_) (fun hlt => ?_)
    · obtain ⟨t, ht⟩ : ∃ t, ss[k]? = some t := ⟨_, List.getElem?_eq_getElem (by omega)⟩
      have ht8 := hv.st ht
      repeat (refine a4 ?_)
      refine Runs.regionD _ _ [] (fun x hx => List.mem_cons_of_mem _ hx) (List.Sublist.refl _) (by kernel_rfl) ?_
      refine t_fieldB 0 ?_
      refine t_loadB 1 ?_
      refine d1 2 2 ?_
      by_cases h6 : 0 ≤ sid
      · rw [decide_eq_true h6]
        refine t_fieldB 4 ?_
        refine t_loadB 5 ?_
        refine d2 6 ?_
        refine t_index 7 ?_
        refine t_fieldV 8 ?_
        refine t_loadH 9 ?_
        refine t_fieldB 10 ?_
        refine t_loadB 11 ?_
        refine d1 12 2 ?_
        refine DW.done (by kernel_rfl) ?_
        skip
        refine Runs.cond_d rfl (fun h7 => ?_) (fun h7 => ?_)
        · have hany : ss.any (fun t => decide (0 ≤ sid ∧ t.id = sid)) = true := List.any_eq_true.2 ⟨t, List.mem_of_getElem? ht, decide_eq_true ⟨h6, h7⟩⟩
          rw [if_pos hany] at hdo
          rw [hdo] at hR
          repeat (first | refine a1 ?_ | refine a4 ?_ | refine a5 ?_ | refine a6 ?_ | refine s_build ?_ | refine a9 ?_)
          refine Runs.retCT Try.func28 Try.results28 rfl rfl (fun w hm => hR _ w _ H _ (List.mem_cons_self ..) (Snap.le.refl _) ?_ hm)
          exact ⟨_, rfl, nilP_rep⟩
        · have hno : ¬ (0 ≤ sid ∧ t.id = sid) := fun h => h7 h.2
          have hI2 : ∀ (j : Nat) u, j < k + 1 → ss[j]? = some u → decide (0 ≤ sid ∧ u.id = sid) = false := fun j u hj hu => by
            by_cases e2 : j = k
            · subst e2; rw [ht] at hu; rw [← Option.some.inj hu]; exact decide_eq_false hno
            · exact hI j u (by omega) hu
          repeat (first | refine a1 ?_ | refine a4 ?_ | refine a5 ?_ | refine a6 ?_ | refine s_addI ?_)
          refine Runs.weak (ih (k + 1) ⟨by omega, hI2⟩ (by omega)) (by repeat (first | exact trivial | refine And.intro rfl ?_)) (fun x hx => List.mem_cons_of_mem _ (SubH.h x hx)) (by repeat (first | exact List.nil_sublist _ | exact List.Sublist.refl _ | refine List.Sublist.cons_cons _ ?_ | refine List.Sublist.cons _ ?_))
      · rw [decide_eq_false h6]
        refine d3 4 ?_
        refine d3 5 ?_
        refine d3 6 ?_
        refine d3 7 ?_
        refine d3 8 ?_
        refine d3 9 ?_
        refine d3 10 ?_
        refine d3 11 ?_
        refine d3 12 ?_
        refine d2 13 ?_
        refine DW.done (by kernel_rfl) ?_
        have hno : ¬ (0 ≤ sid ∧ t.id = sid) := fun h => h6 h.1
        have hI2 : ∀ (j : Nat) u, j < k + 1 → ss[j]? = some u → decide (0 ≤ sid ∧ u.id = sid) = false := fun j u hj hu => by
          by_cases e2 : j = k
          · subst e2; rw [ht] at hu; rw [← Option.some.inj hu]; exact decide_eq_false hno
          · exact hI j u (by omega) hu
        repeat (first | refine a1 ?_ | refine a4 ?_ | refine a5 ?_ | refine a6 ?_ | refine s_addI ?_ | refine a8 ?_)
        refine Runs.weak (ih (k + 1) ⟨by omega, hI2⟩ (by omega)) (by repeat (first | exact trivial | refine And.intro rfl ?_)) (fun x hx => List.mem_cons_of_mem _ (SubH.h x hx)) (by repeat (first | exact List.nil_sublist _ | exact List.Sublist.refl _ | refine List.Sublist.cons_cons _ ?_ | refine List.Sublist.cons _ ?_))
    have hany : ss.any (fun t => decide (0 ≤ sid ∧ t.id = sid)) = false := any_no (fun j t ht => hI j t (by have := (List.getElem?_eq_some_iff.1 ht).1; omega) ht)
    rw [hany, if_neg (by simp)] at hdo
    obtain ⟨d, hda⟩ : ∃ d, ds[a]? = some d := ⟨_, List.getElem?_eq_getElem (by omega)⟩
    have hgd : ds.getD a nilD = d := by rw [List.getD_eq_getElem?_getD, hda]; rfl
    rw [hgd] at hdo
    obtain ⟨vm, hvm, hcell⟩ := hd.dc hda
    have hvd := hdv d (List.mem_of_getElem? hda)
    have hovm := hvm.isSl.one1
    repeat (refine a4 ?_)
    refine Runs.regionD _ _ [12] (fun x hx => List.mem_cons_of_mem _ hx) (List.Sublist.refl _) (by kernel_rfl) ?_
    refine t_fieldB 0 ?_
    refine t_loadB 1 ?_
    refine t_fieldB 2 ?_
    refine t_loadB 3 ?_
    refine t_index 4 ?_
    refine t_loadHs 5 ?_
    refine t_loadBs 6 ?_
    refine DW.float 11 rfl rfl ?_
    refine DWf.call 7 rfl rfl rfl (by kernel_rfl) (by kernel_rfl) rfl rfl rfl rfl rfl rfl (rapply_c (H := H) (s := ⟨(a : Int), sid, e, false⟩) hvm hvd hts) ?_
    rintro _ H4 ⟨vx, rfl, hrx⟩ hle4
    obtain ⟨vm2, rfl, hrm⟩ := hrx
    have hro2 := hrm.isSl.one1
    refine DWf.qF 8 rfl rfl (by kernel_rfl) (qev_eq rfl) (fun _ => qev_eq rfl) rfl rfl ?_
    refine DWf.qF 9 rfl rfl (by kernel_rfl) (qev_eq rfl) (fun _ => qev_eq rfl) rfl rfl ?_
    refine DWf.qF 10 rfl rfl (by kernel_rfl) (qev_eq rfl) (fun _ => qev_eq rfl) rfl rfl ?_
    refine DWf.take rfl (by kernel_rfl) rfl rfl rfl (fun b7 => ?_)
    simp only [List.cons_append, List.nil_append]
    refine DW.storeB 12 rfl (by kernel_rfl) rfl rfl rfl rfl (by first | rfl | (simp [allOne, cellsL, one1]; done) | (simp [allOne, cellsL, one1]; first | assumption | (refine ⟨?_, ?_⟩ <;> assumption) | (refine ⟨?_, ?_, ?_⟩ <;> assumption))) rfl ?_
    refine d2 13 ?_
    refine DW.done (by kernel_rfl) ?_
    repeat (first | refine a1 ?_ | refine a4 ?_ | refine a5 ?_ | refine a6 ?_)
    refine Runs.cond_d rfl (fun h0 => ?_) (fun h0 => ?_)
    · rw [if_pos h0] at hdo
      rw [hdo] at hR
      repeat (first | refine a1 ?_ | refine a4 ?_ | refine a5 ?_ | refine a6 ?_ | refine s_build ?_ | refine a9 ?_)
      refine Runs.retCT Try.func28 Try.results28 rfl rfl (fun w hm => hR _ w _ H _ (List.mem_cons_self ..) (Snap.le.refl _) ?_ hm)
      exact ⟨_, rfl, nilP_rep⟩
    rw [if_neg h0] at hdo
    rw [hdo] at hR
    obtain ⟨hsD, xsD, hcD, hcellD⟩ := hd
    obtain ⟨hsS, xsS, hcS, hcellS⟩ := hv
    repeat (refine a4 ?_)
    refine Runs.joinF (α := Value × Value × Nat) (fun s => IsSl s.1 ds.length ∧ IsSl s.2.1 ss.length) (fun _ => [H4, H]) (fun s => [.row 33 8 s.2.1 ss.length xsS, .row 36 2 s.1 ds.length xsD, .blk b4 27 [.slice none 0 0, .slice none 0 0], .blk b3 33 [.int .i64 (a : Int), .int .i64 sid, .int .i64 e.k, .int .i64 e.at_, .int .i64 e.len, .int .i64 e.to_, str e.tx, .bool false], .blk b2 27 [vd, vs], .blk b7 36 [str (stD d ⟨(a : Int), sid, e, false⟩).1.tx, vm2], .blk s.2.2 27 [s.1, s.2.1]]) (fun s => [(3, .pointer (some ⟨b3, 0, none⟩)), (4, .pointer (some ⟨b4, 0, none⟩)), (7, .pointer (some ⟨b7, 0, none⟩)), (9, .pointer (some ⟨s.2.2, 0, none⟩))]) (fun hj => ?_) ?_
    · skip
      refine Runs.regionD _ _ [10] (fun x hx => List.mem_cons_of_mem _ hx) (List.Sublist.refl _) (by kernel_rfl) ?_
      refine t_fieldB 1 ?_
      refine t_loadB 2 ?_
      refine t_fieldB 5 ?_
      refine t_loadB 6 ?_
      refine DW.float 9 rfl rfl ?_
      refine DWf.h2 0 4 rfl rfl rfl rfl rfl rfl (by kernel_rfl) (by kernel_rfl) rfl rfl (HVf.buildSlice rfl rfl rfl rfl rfl) (HVf.buildSlice rfl rfl rfl rfl rfl) rfl rfl rfl rfl (by rintro v Hs' O' ⟨rfl, rfl, _⟩ hsub w hm; exact hsub w (hm.sub (fun x hx => List.mem_cons_of_mem _ hx) (List.sublist_cons_self _ _))) (by rintro v Hs' O' ⟨rfl, rfl, _⟩ hsub w hm; exact hsub w (hm.sub (fun x hx => List.mem_cons_of_mem _ hx) (List.sublist_cons_self _ _))) ?_ ?_
      · skip
        rintro v0 _ _ ⟨rfl, rfl, hv0⟩
        refine DWf.h2 3 4 rfl rfl rfl rfl rfl rfl (by kernel_rfl) (by kernel_rfl) rfl rfl (HVf.appendH (H := H) (a := 0) (sz := 2) rfl rfl hsD hcD hcellD rfl rfl (by decide) (by omega) (by omega) (fun _ => inferInstance)) (HVf.buildSlice rfl rfl rfl rfl rfl) rfl rfl rfl rfl (by rintro v Hs' O' ⟨rfl, rfl, _⟩ _ w hm; exact hm.sub (fun x hx => List.mem_cons_of_mem _ (SubH.h x hx)) SubO.h) (by rintro v Hs' O' ⟨rfl, rfl, _⟩ hsub w hm; exact hsub w (hm.sub (fun x hx => List.mem_cons_of_mem _ hx) (List.sublist_cons_self _ _))) ?_ ?_
        · skip
          rintro w0 _ _ ⟨rfl, rfl, hw0⟩
          have how0 := hw0.one1
          refine DWf.one 4 rfl rfl rfl rfl (by kernel_rfl) (by kernel_rfl) (HVf.buildSlice rfl rfl rfl rfl rfl) rfl rfl rfl rfl (by rintro v Hs' O' ⟨rfl, rfl, _⟩ hsub w hm; exact hsub w (hm.sub (fun x hx => List.mem_cons_of_mem _ hx) (List.sublist_cons_self _ _))) ?_
          rintro v1 _ _ ⟨rfl, rfl, hv1⟩
          refine DWf.one 7 rfl rfl rfl rfl (by kernel_rfl) (by kernel_rfl) (HVf.appendH (H := H) (a := 0) (sz := 8) rfl rfl hsS hcS hcellS rfl rfl (by decide) (by omega) (by omega) (fun _ => inferInstance)) rfl rfl rfl rfl (by rintro v Hs' O' ⟨rfl, rfl, _⟩ _ w hm; exact hm.sub (fun x hx => List.mem_cons_of_mem _ (SubH.h x hx)) SubO.h) ?_
          rintro w1 _ _ ⟨rfl, rfl, hw1⟩
          have how1 := hw1.one1
          refine DWf.qF 8 rfl rfl (by kernel_rfl) (QF.buildPast rfl rfl how0 how1) (fun _ => QF.buildPast rfl rfl how0 how1) rfl rfl ?_
          refine DWf.take rfl (by kernel_rfl) rfl rfl rfl (fun b9 => ?_)
          simp only [List.cons_append, List.nil_append]
          refine DW.storeB 10 rfl (by kernel_rfl) rfl rfl rfl rfl (by first | rfl | (simp [allOne, cellsL, one1]; done) | (simp [allOne, cellsL, one1]; first | assumption | (refine ⟨?_, ?_⟩ <;> assumption) | (refine ⟨?_, ?_, ?_⟩ <;> assumption))) rfl ?_
          refine DW.done (by kernel_rfl) ?_
          simp only [repL, List.nil_append, Nat.zero_add] at hw0 hw1 ⊢
          refine Runs.weak (hj (w0, w1, b9) ⟨hw0, hw1⟩) (by repeat (first | exact trivial | refine And.intro rfl ?_)) (fun x hx => List.mem_cons_of_mem _ (SubH.h x hx)) (by repeat (first | exact List.nil_sublist _ | exact List.Sublist.refl _ | refine List.Sublist.cons_cons _ ?_ | refine List.Sublist.cons _ ?_))
        · skip
          rintro v1 _ _ ⟨rfl, rfl, hv1⟩
          refine DWf.one 3 rfl rfl rfl rfl (by kernel_rfl) (by kernel_rfl) (HVf.appendH (H := H) (a := 0) (sz := 2) rfl rfl hsD hcD hcellD rfl rfl (by decide) (by omega) (by omega) (fun _ => inferInstance)) rfl rfl rfl rfl (by rintro v Hs' O' ⟨rfl, rfl, _⟩ _ w hm; exact hm.sub (fun x hx => List.mem_cons_of_mem _ (SubH.h x hx)) SubO.h) ?_
          rintro w0 _ _ ⟨rfl, rfl, hw0⟩
          have how0 := hw0.one1
          refine DWf.one 7 rfl rfl rfl rfl (by kernel_rfl) (by kernel_rfl) (HVf.appendH (H := H) (a := 0) (sz := 8) rfl rfl hsS hcS hcellS rfl rfl (by decide) (by omega) (by omega) (fun _ => inferInstance)) rfl rfl rfl rfl (by rintro v Hs' O' ⟨rfl, rfl, _⟩ _ w hm; exact hm.sub (fun x hx => List.mem_cons_of_mem _ (SubH.h x hx)) SubO.h) ?_
          rintro w1 _ _ ⟨rfl, rfl, hw1⟩
          have how1 := hw1.one1
          refine DWf.qF 8 rfl rfl (by kernel_rfl) (QF.buildPast rfl rfl how0 how1) (fun _ => QF.buildPast rfl rfl how0 how1) rfl rfl ?_
          refine DWf.take rfl (by kernel_rfl) rfl rfl rfl (fun b9 => ?_)
          simp only [List.cons_append, List.nil_append]
          refine DW.storeB 10 rfl (by kernel_rfl) rfl rfl rfl rfl (by first | rfl | (simp [allOne, cellsL, one1]; done) | (simp [allOne, cellsL, one1]; first | assumption | (refine ⟨?_, ?_⟩ <;> assumption) | (refine ⟨?_, ?_, ?_⟩ <;> assumption))) rfl ?_
          refine DW.done (by kernel_rfl) ?_
          simp only [repL, List.nil_append, Nat.zero_add] at hw0 hw1 ⊢
          refine Runs.weak (hj (w0, w1, b9) ⟨hw0, hw1⟩) (by repeat (first | exact trivial | refine And.intro rfl ?_)) (fun x hx => List.mem_cons_of_mem _ (SubH.h x hx)) (by repeat (first | exact List.nil_sublist _ | exact List.Sublist.refl _ | refine List.Sublist.cons_cons _ ?_ | refine List.Sublist.cons _ ?_))
      · skip
        rintro v1 _ _ ⟨rfl, rfl, hv1⟩
        refine DWf.one 0 rfl rfl rfl rfl (by kernel_rfl) (by kernel_rfl) (HVf.buildSlice rfl rfl rfl rfl rfl) rfl rfl rfl rfl (by rintro v Hs' O' ⟨rfl, rfl, _⟩ hsub w hm; exact hsub w (hm.sub (fun x hx => List.mem_cons_of_mem _ hx) (List.sublist_cons_self _ _))) ?_
        rintro v0 _ _ ⟨rfl, rfl, hv0⟩
        refine DWf.one 3 rfl rfl rfl rfl (by kernel_rfl) (by kernel_rfl) (HVf.appendH (H := H) (a := 0) (sz := 2) rfl rfl hsD hcD hcellD rfl rfl (by decide) (by omega) (by omega) (fun _ => inferInstance)) rfl rfl rfl rfl (by rintro v Hs' O' ⟨rfl, rfl, _⟩ _ w hm; exact hm.sub (fun x hx => List.mem_cons_of_mem _ (SubH.h x hx)) SubO.h) ?_
        rintro w0 _ _ ⟨rfl, rfl, hw0⟩
        have how0 := hw0.one1
        refine DWf.one 7 rfl rfl rfl rfl (by kernel_rfl) (by kernel_rfl) (HVf.appendH (H := H) (a := 0) (sz := 8) rfl rfl hsS hcS hcellS rfl rfl (by decide) (by omega) (by omega) (fun _ => inferInstance)) rfl rfl rfl rfl (by rintro v Hs' O' ⟨rfl, rfl, _⟩ _ w hm; exact hm.sub (fun x hx => List.mem_cons_of_mem _ (SubH.h x hx)) SubO.h) ?_
        rintro w1 _ _ ⟨rfl, rfl, hw1⟩
        have how1 := hw1.one1
        refine DWf.qF 8 rfl rfl (by kernel_rfl) (QF.buildPast rfl rfl how0 how1) (fun _ => QF.buildPast rfl rfl how0 how1) rfl rfl ?_
        refine DWf.take rfl (by kernel_rfl) rfl rfl rfl (fun b9 => ?_)
        simp only [List.cons_append, List.nil_append]
        refine DW.storeB 10 rfl (by kernel_rfl) rfl rfl rfl rfl (by first | rfl | (simp [allOne, cellsL, one1]; done) | (simp [allOne, cellsL, one1]; first | assumption | (refine ⟨?_, ?_⟩ <;> assumption) | (refine ⟨?_, ?_, ?_⟩ <;> assumption))) rfl ?_
        refine DW.done (by kernel_rfl) ?_
        simp only [repL, List.nil_append, Nat.zero_add] at hw0 hw1 ⊢
        refine Runs.perm (List.Perm.swap _ _ _) ?_
        refine Runs.weak (hj (w0, w1, b9) ⟨hw0, hw1⟩) (by repeat (first | exact trivial | refine And.intro rfl ?_)) (fun x hx => List.mem_cons_of_mem _ (SubH.h x hx)) (by repeat (first | exact List.nil_sublist _ | exact List.Sublist.refl _ | refine List.Sublist.cons_cons _ ?_ | refine List.Sublist.cons _ ?_))
    rintro ⟨w0, w1, b9⟩ ⟨hw0, hw1⟩
    dsimp only at hw0 hw1 ⊢
    have how0 := hw0.one1
    have how1 := hw1.one1
    repeat (first | refine a4 ?_ | refine a6 ?_ | refine s_fieldB ?_ | refine s_loadB ?_ | refine s_index ?_ | refine s_loadBs ?_)
    obtain ⟨xs', hp, hcx'⟩ := (hcD.mono hle4).put (k := a) (s := 2) (c := [str (stD d ⟨(a : Int), sid, e, false⟩).1.tx, vm2]) (by omega) rfl ⟨vm2, rfl, hrm⟩
    refine RW.storeR rfl rfl hp rfl (by simp [allOne, cellsL, one1]; assumption) rfl ?_
    repeat (first | refine a4 ?_ | refine a5 ?_ | refine a6 ?_ | refine s_fieldB ?_ | refine s_loadB ?_ | refine s_loadBs ?_)
    refine RW.buildSlice rfl rfl rfl rfl rfl rfl rfl (fun v88 h88 => ?_)
    skip
    refine RW.appendR rfl rfl (by assumption) rfl rfl rfl (by decide) (by omega) (by omega) (fun _ => inferInstance) rfl rfl (fun v89 h89 => ?_)
    have ho89 := h89.one1
    repeat (first | refine a1 ?_ | refine a4 ?_ | refine a5 ?_ | refine a6 ?_ | refine s_fieldB ?_ | refine s_loadBs ?_ | refine a9 ?_ | refine a10 ?_)
    refine Runs.freeze (H := H4) w0 hM (fun HD hleD hsD' hcD' => ?_)
    refine Runs.freeze (H := HD) v89 hM (fun HE hleE hsE hcE => ?_)
    refine Runs.retCT Try.func28 Try.results28 rfl rfl (fun w hm => hR _ w _ HE _ (by simp) (((hle4.trans hleD).trans hleE)) ?_ hm)
    refine ⟨_, rfl, w0, v89, rfl, SliceRep.of_row (H := H4) hsD' (by simp) hcx' (hleD.trans hleE) (fun j u hu => hleE.cell (hcD' j u hu)), ?_⟩
    have e8 := stCs_of hcS
    subst e8
    have e9 : stCs ss ++ stpC ⟨(a : Int), sid, e, false⟩ = stCs (ss ++ [⟨(a : Int), sid, e, false⟩]) := by simp [stCs]
    refine SliceRep.of_row (H := HE) hsE (by simp) (stCs_rep HE _) (Snap.le.refl _) ?_
    rw [← e9]
    exact hcE
  · have hbad : (ap < 0 ∨ (ds.length : Int) ≤ ap ∨ un = true ∨ sid < -1) := by omega
    rw [if_pos hbad] at hdo
    rw [hdo] at hR
    rw [decide_eq_false h1]
    repeat (first | refine a1 ?_ | refine a3 ?_ | refine a4 ?_ | refine a5 ?_ | refine a6 ?_ | refine s_build ?_ | refine a7 ?_ | refine a9 ?_)
    refine Runs.retCT Try.func28 Try.results28 rfl rfl (fun w hm => hR _ w _ H _ (List.mem_cons_self ..) (Snap.le.refl _) ?_ hm)
    exact ⟨_, rfl, nilP_rep⟩
end Go.Proofs.Ytbiohkncdlhigaa

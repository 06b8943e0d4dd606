/-
  Contract: undoing. Conditions: a good past.
-/
import Derived.Test.YtbiohkncdlhigaaMUq
namespace Go.Proofs.Ytbiohkncdlhigaa
open Go Go.RowKit

section
variable {P : Program} {f : FuncId} {n : Nat} {E : Ent} {R : Value → World → Prop} {k : List Item} {Hs : List Snap} {O : List Own} {l : Env}
/-- The first result lies in a block, the others in slots. -/
theorem Runs.retCTT {fn : Func} {t t2 t3 b : Nat} {T T' : TypeId} {cs : List Value} {v2 v3 : Value} [i : TAgg P T true] (hf : P.funcs[f]? = some fn) (hr : fn.results = #[.cell t T, .tmp t2, .tmp t3]) (hv : efind l t = some (.pointer (some ⟨b, 0, none⟩))) (hv2 : efind l t2 = some v2) (hv3 : efind l t3 = some v3) [q : GetBlk O b T' cs] [s : TSz P T cs.length] (hR : ∀ w, Mem E w Hs O → R (.tuple #[.agg cs.toArray, v2, v3]) w) :
    Runs P f n E R (.code .ret :: k) Hs O l :=
  Runs.ret hf (v := .tuple #[.agg cs.toArray, v2, v3]) (fun w a hm ha => by
    have h1 : (loadVar T ⟨b, 0, none⟩).run P w = .ok (.agg cs.toArray) w := run_loadVar_agg (fun j u hj => by
      have h2 := hm.cellB (i := q) hj
      by_cases h0 : j = 0
      · subst h0; simpa [Addr.add] using h2
      · simpa [Addr.add, h0] using h2)
    simp [results, hr, ha.get t _ hv, ha.get t2 _ hv2, ha.get t3 _ hv3, asAddr, h1]) hR
end
theorem foldl_setE_len {ss0 : List Stp} : ∀ (l : List Evt) (ss : List Stp), (l.foldl (setE ss0) ss).length = ss.length
  | [], _ => rfl
  | x :: l, ss => by rw [List.foldl_cons, foldl_setE_len l, setE_len]
theorem und_fold {ss : List Stp} {k : Nat} {s : Stp} (hs : ss[k]? = some s) (hw : allW s.app (markS s) (ss.drop (k + 1))) : (folL s.app (k + 1) (markS s) (ss.drop (k + 1))).foldl (setE ss) (ss.set k ⟨s.app, s.id, s.e, true⟩) = undS ss k s := by
  have hk := (List.getElem?_eq_some_iff.1 hs).1
  have hl : (ss.take k ++ [(⟨s.app, s.id, s.e, true⟩ : Stp)]).length = k + 1 := by simp; omega
  have h := fol_set (a := s.app) (ss0 := ss) (B := ss.drop (k + 1)) (X := ss.take k ++ [⟨s.app, s.id, s.e, true⟩]) (m := markS s) rfl hw (fun j t ht => by rw [hl]; rw [List.getElem?_drop] at ht; exact ht)
  rw [hl] at h
  rw [List.set_eq_take_append_cons_drop, if_pos hk]
  unfold undS
  rw [List.append_assoc, List.append_assoc] at h
  exact h
def UndoR (H' : Snap) (O' : List Own) (r : Value) (u : Pst × List Int × Int) : Prop := ∃ vd vs vl, r = .tuple #[.agg #[vd, vs], vl, .int .i64 u.2.2] ∧ SliceRep H' DocL vd u.1.ds ∧ SliceRep H' I64 vl u.2.1 ∧ O' = [.row 33 8 vs u.1.ss.length (stCs u.1.ss)] ∧ IsSl vs u.1.ss.length
set_option maxHeartbeats 8000000 in
theorem undo_c {H : Snap} {vd vs : Value} {ds : List Dc} {ss : List Stp} {i : Int} (hd : SliceRep H DocL vd ds) (hv : SliceRep H StepL vs ss) (hg : GoodP ⟨ds, ss⟩) :
    Ctr Try.prog 34 #[.agg #[vd, vs], .int .i64 i] H [] (fun H' O' r => UndoR H' O' r (undoP ⟨ds, ss⟩ i)) := by
  have ho1 := hd.isSl.one1
  have ho2 := hv.isSl.one1
  have hsz : ss.length ≤ 50 := hg.sz
  have hdl : ds.length ≤ 2 := hg.len
  have hch : chP ss := good_ch hg
  have htx : ∀ s ∈ ss, s.e.tx.length ≤ 100000 := fun s hs => Nat.le_trans (hg.tx s hs) (by omega)
  have hun : undoP ⟨ds, ss⟩ i = undoP ⟨ds, ss⟩ i := rfl
  conv at hun => rhs; unfold undoP
  dsimp only at hun
  have hdp : depP ss i = depP ss i := rfl
  conv at hdp => rhs; unfold depP
  refine Ctr.intro Try.func34 rfl Try.ntmps34 rfl (fun E R hM hR => ?_)
  repeat (first | refine a4 ?_ | refine a6 ?_)
  refine RW.box rfl rfl rfl rfl (fun b2 => ?_)
  refine RW.alloc rfl rfl rfl (fun b4 => ?_)
  repeat (first | refine a1 ?_ | refine a4 ?_ | refine a5 ?_ | refine a6 ?_ | refine s_loadBs ?_)
  refine RW.call rfl (depends_c (H := H) (i := i) hd hv (by omega) hch htx) rfl rfl ?_
  rintro _ H1 ⟨vl, rfl, hrl⟩ hle1
  have hol := hrl.isSl.one1
  have hil := hrl.isSl
  repeat (first | refine a1 ?_ | refine a4 ?_ | refine a5 ?_ | refine a6 ?_)
  cases hcb : comB ss i with
  | false =>
    rw [hcb, if_neg (by simp)] at hdp hun
    rw [hun] at hR
    rw [hdp] at hil ⊢
    repeat (first | refine a1 ?_ | refine a4 ?_ | refine a5 ?_ | refine a6 ?_ | refine s_build ?_ | refine a7 ?_ | refine a9 ?_)
    refine Runs.addNil 33 8 ?_
    refine Runs.retCTT Try.func34 Try.results34 rfl rfl rfl (fun w hm => hR _ w _ H1 _ (by simp) hle1 ?_ (hm.sub (O' := [.row 33 8 (.slice none 0 0) 0 []]) (fun x hx => List.mem_cons_of_mem _ hx) (List.Sublist.cons_cons _ (List.nil_sublist _))))
    exact ⟨_, _, _, rfl, SliceRep.nil, SliceRep.nil, rfl, isSl_nil⟩
  | true =>
    rw [hcb, if_pos rfl] at hdp hun
    obtain ⟨k, s, rfl, hs, hs0, hsu⟩ := comB_some hcb
    rw [Int.toNat_natCast, hs] at hdp hun
    dsimp only at hdp hun
    rw [hdp] at hil hrl ⊢
    dsimp only at hil hrl
    repeat (first | refine a1 ?_ | refine a4 ?_ | refine a5 ?_ | refine a6 ?_ | refine s_len ?_ | refine a8 ?_)
    by_cases hdn : depL s.app (k + 1) (markS s) (ss.drop (k + 1)) = []
    · rw [if_pos hdn] at hun
      rw [hun] at hR
      have hw : allW s.app (markS s) (ss.drop (k + 1)) := (dep_nil rfl).1 hdn
      obtain ⟨D, D0, hD1, hD2, hrun, _⟩ := undo_ok hg hs hs0 hsu hw
      obtain ⟨hc1, hc2⟩ := hch k s hs hs0 hsu
      have hts := htx s (List.mem_of_getElem? hs)
      have ha2 := hg.app s (List.mem_of_getElem? hs)
      dsimp only at ha2
      obtain ⟨a, ha⟩ : ∃ a : Nat, s.app = (a : Int) := ⟨s.app.toNat, by omega⟩
      have hk := (List.getElem?_eq_some_iff.1 hs).1
      have hs8 := hv.st hs
      have hl0 : (depL s.app (k + 1) (markS s) (ss.drop (k + 1))).length = 0 := by rw [hdn]; rfl
      have hSl := undS_length hs
      have hStx : ∀ (j : Nat) t, (undS ss k s)[j]? = some t → t.e.tx.length ≤ 100000 := fun j t ht => by
        obtain ⟨u, g1, _, _, _, g2, _⟩ := undS_get hs ht
        rw [g2]; exact htx u (List.mem_of_getElem? g1)
      have hfold := und_fold hs hw
      have hund : undP ⟨ds, ss⟩ k s = ⟨ds.set a D0, undS ss k s⟩ := by
        unfold undP
        dsimp only at hrun ⊢
        rw [hrun, ha, Int.toNat_natCast]
        rfl
      rw [hund] at hR
      dsimp only at hrun
      generalize undS ss k s = S at *
      have hd1 := hd.mono hle1
      have hv1 := hv.mono hle1
      rw [hl0]
      repeat (first | refine a4 ?_ | refine a8 ?_)
      rw [decide_eq_false (show ¬ (0 : Int) < ((0 : Nat) : Int) by omega)]
      skip
      refine Runs.regionD _ _ [8] (fun x hx => List.mem_cons_of_mem _ hx) (List.Sublist.refl _) (by kernel_rfl) ?_
      refine t_fieldB 0 ?_
      refine t_loadB 1 ?_
      refine t_fieldB 3 ?_
      refine t_loadB 4 ?_
      refine DW.float 7 rfl rfl ?_
      refine DWf.one 2 rfl rfl rfl rfl (by kernel_rfl) (by kernel_rfl) (HVf.callC (H := H1) rfl (cloneD_c hd1 (by omega))) rfl rfl rfl rfl (by rintro v Hs' O' ⟨H', O2, _, _, rfl, rfl⟩ hsub w hm; exact hsub w (hm.sub (fun x hx => List.mem_cons_of_mem _ (List.mem_cons_of_mem _ hx)) (List.sublist_append_right ..))) ?_
      rintro v33 _ _ ⟨HA, _, ⟨xsD, rfl, hcD, hsD⟩, hleA, rfl, rfl⟩
      dsimp only [List.cons_append, List.nil_append]
      refine DWf.one 5 rfl rfl rfl rfl (by kernel_rfl) (by kernel_rfl) (HVf.callC (H := H1) rfl (cloneS_c hv1 (by omega))) rfl rfl rfl rfl (by rintro v Hs' O' ⟨H', O2, _, _, rfl, rfl⟩ hsub w hm; exact hsub w (hm.sub (fun x hx => List.mem_cons_of_mem _ (List.mem_cons_of_mem _ hx)) (List.sublist_append_right ..))) ?_
      rintro v36 _ _ ⟨HB, _, ⟨xsS, rfl, hcS, hsS⟩, hleB, rfl, rfl⟩
      dsimp only [List.cons_append, List.nil_append]
      have hcS := stCs_of hcS
      subst hcS
      have ho33 := hsD.one1
      have ho36 := hsS.one1
      refine DWf.qF 6 rfl rfl (by kernel_rfl) (QF.buildPast rfl rfl ho33 ho36) (fun _ => QF.buildPast rfl rfl ho33 ho36) rfl rfl ?_
      refine DWf.take rfl (by kernel_rfl) rfl rfl rfl (fun b9 => ?_)
      simp only [List.cons_append, List.nil_append]
      refine DW.storeB 8 rfl (by kernel_rfl) rfl rfl rfl rfl (by first | rfl | (simp [allOne, cellsL, one1]; done) | (simp [allOne, cellsL, one1]; first | assumption | (refine ⟨?_, ?_⟩ <;> assumption) | (refine ⟨?_, ?_, ?_⟩ <;> assumption))) rfl ?_
      refine DW.done (by kernel_rfl) ?_
      repeat (first | refine a1 ?_ | refine a4 ?_ | refine a6 ?_ | refine s_fieldB ?_ | refine s_fieldV ?_ | refine s_loadB ?_ | refine s_index ?_)
      refine RW.storeR1 rfl rfl rfl (stCs_un hs true) rfl ?_
      refine RW.nil ?_
      refine Runs.perm (perm_last _ _) ?_
      dsimp only [List.cons_append, List.nil_append]
      repeat (first | refine a1 ?_ | refine a4 ?_ | refine a6 ?_ | refine s_loadBs ?_ | refine s_makeFunc ?_)
      refine RW.callM (cap := []) (F := [.row 36 2 v33 ds.length xsD, .blk b4 27 [.slice none 0 0, .slice none 0 0]]) (O1 := [.blk b2 27 [vd, vs], .blk b9 27 [v33, v36], .row 33 8 v36 ss.length (stCs (ss.set k ⟨s.app, s.id, s.e, true⟩))]) rfl rfl (follow_c (H := H1) (σ := List Stp) (Y := fun cur => [.blk b2 27 [vd, vs], .blk b9 27 [v33, v36], .row 33 8 v36 ss.length (stCs cur)]) (Inv := fun pre cur => cur = pre.foldl (setE ss) (ss.set k ⟨s.app, s.id, s.e, true⟩)) (ycap := [.pointer (some ⟨b2, 0, none⟩), .pointer (some ⟨b9, 0, none⟩)]) hd1 hv1 hs hc1 hc2 hts (fun H' pre ev st hleH hpost hinv => ?_) (ss.set k ⟨s.app, s.id, s.e, true⟩) rfl) rfl rfl rfl ?_
      · obtain ⟨post, hpost⟩ := hpost
        have hmem : ev ∈ folL s.app (k + 1) (markS s) (ss.drop (k + 1)) := by rw [hpost]; simp
        obtain ⟨j, t, hj1, hj2, n, hn1, hn2, hn3, hn4⟩ := fol_ev hc1 hmem
        rw [List.getElem?_drop, ← hj2] at hj1
        have hcl : st.length = ss.length := by rw [hinv, foldl_setE_len]; simp
        have hc9 := undo1_c (H := H') (vd := vd) (vd2 := v33) (v := v36) (b2 := b2) (b9 := b9) (k := ev.1) (b := ev.2.1) (a := ev.2.2) (cur := st) (hv1.mono hleH) hj1 hcl hn3 hn4 ⟨hn1, hn2⟩ (by omega)
        rw [hcl] at hc9
        refine Ctr.mono hc9 ?_
        rintro H2 O2 r _ ⟨rfl, rfl⟩
        exact ⟨_, rfl, by rw [hinv, List.foldl_append]; rfl, rfl⟩
      rintro _ HC _ ⟨S', rfl, hinv, rfl⟩ hleC
      rw [hfold] at hinv
      subst hinv
      dsimp only [List.cons_append, List.nil_append]
      repeat (first | refine a4 ?_ | refine a5 ?_ | refine a6 ?_)
      refine RW.alloc rfl rfl rfl (fun b10 => ?_)
      repeat (first | refine a1 ?_ | refine a4 ?_ | refine a5 ?_ | refine a6 ?_ | refine s_len ?_ | refine s_fieldB ?_ | refine s_fieldV ?_ | refine s_loadB ?_ | refine s_loadH ?_ | refine s_index ?_)
      rw [ha]
      have hss1 : SliceRep H1 StepL vs ss := hv1
      refine Runs.rowSl v36 (fun hs36 ho36' => ?_)
      skip
      refine Runs.loop (fun u : Nat × Snap × Dc × Value => u.1 ≤ ss.length ∧ H1.le u.2.1 ∧ validD u.2.2.1 ∧ SliceRep u.2.1 MarkL u.2.2.2 u.2.2.1.ms ∧ runS s.app u.2.2.1 (S'.drop u.1) = some D0) (fun u => ss.length - u.1) (fun u => [u.2.1, H1, H]) (fun u => [.blk b10 36 [str u.2.2.1.tx, u.2.2.2], .row 36 2 v33 ds.length xsD, .blk b4 27 [.slice none 0 0, .slice none 0 0], .blk b2 27 [vd, vs], .blk b9 27 [v33, v36], .row 33 8 v36 ss.length (stCs S')]) (fun u => [(4, .pointer (some ⟨b4, 0, none⟩)), (9, .pointer (some ⟨b9, 0, none⟩)), (10, .pointer (some ⟨b10, 0, none⟩)), (11, .int .i64 (a : Int)), (54, v36), (55, .int .i64 (ss.length : Int)), (56, .int .i64 (u.1 : Int))]) (0, H1, nilD, .slice none 0 0) ⟨Nat.zero_le _, Snap.le.refl _, nilD_valid, SliceRep.nil, hrun⟩
        (fun h => by refine Runs.weak (h) (by repeat (first | exact trivial | refine And.intro rfl ?_)) (fun x hx => List.mem_cons_of_mem _ (SubH.h x hx)) (by repeat (first | exact List.nil_sublist _ | exact List.Sublist.refl _ | refine List.Sublist.cons_cons _ ?_ | refine List.Sublist.cons _ ?_))) ?_
      rintro ⟨j, Hk, d, vm⟩ ⟨hj, hleK, hdv, hrm, hrn⟩ ih
      dsimp only at hj hleK hdv hrm hrn ih ⊢
      have hom := hrm.isSl.one1
      repeat (first | refine a1 ?_ | refine a4 ?_ | refine a5 ?_ | refine a6 ?_)
      by_cases hlt : (j : Int) < (ss.length : Int)
      · rw [decide_eq_true hlt]
        obtain ⟨t, ht⟩ : ∃ t, S'[j]? = some t := ⟨_, List.getElem?_eq_getElem (by omega)⟩
        have htt := hStx j t ht
        rw [drop_at ht] at hrn
        repeat (first | refine a4 ?_ | refine a6 ?_ | refine s_index ?_ | refine a7 ?_)
        refine RW.q (QV.loadRs rfl (stCs_at ht)) rfl rfl ?_
        skip
        refine RW.alloc rfl rfl rfl (fun b13 => ?_)
        repeat (first | refine a1 ?_ | refine a4 ?_ | refine a5 ?_ | refine a6 ?_ | refine s_fieldB ?_ | refine s_loadB ?_ | refine a9 ?_)
        by_cases c1 : t.app = (a : Int)
        · rw [decide_eq_true c1]
          repeat (first | refine a1 ?_ | refine a5 ?_ | refine s_fieldB ?_ | refine s_loadB ?_)
          cases htu : t.un with
          | true =>
            have hsk : skipS s.app t := .inr htu
            repeat (first | refine a1 ?_ | refine a4 ?_ | refine a5 ?_ | refine a6 ?_ | refine s_addI ?_ | refine a8 ?_)
            rw [runS_skip hsk] at hrn
            skip
            refine Runs.weak (ih (j + 1, Hk, d, vm) ⟨by dsimp only; omega, hleK, hdv, hrm, hrn⟩ (by dsimp only; omega)) (by repeat (first | exact trivial | refine And.intro rfl ?_)) (fun x hx => List.mem_cons_of_mem _ (SubH.h x hx)) (by repeat (first | exact List.nil_sublist _ | exact List.Sublist.refl _ | refine List.Sublist.cons_cons _ ?_ | refine List.Sublist.cons _ ?_))
          | false =>
            have hnsk : ¬ skipS s.app t := by
              rintro (h | h)
              · exact h (by rw [c1, ha])
              · rw [htu] at h; cases h
            obtain ⟨q1, q2⟩ := runS_step hnsk hrn
            have het : t = ⟨t.app, t.id, t.e, false⟩ := by rw [← htu]
            repeat (refine a7 ?_)
            refine Runs.regionD _ _ [7] (fun x hx => List.mem_cons_of_mem _ hx) (List.Sublist.refl _) (by kernel_rfl) ?_
            refine t_loadBs 0 ?_
            refine t_loadBs 2 ?_
            refine DW.call 1 rfl (by kernel_rfl) rfl (deedOf_c (H := Hk) (s := ⟨t.app, t.id, t.e, false⟩)) rfl rfl ?_
            rintro _ HE rfl hleE
            rw [← het]
            refine DW.h 3 true rfl (by kernel_rfl) (HV.deed (H := Hk) (d := d) (vm := vm) (s := t) rfl rfl hrm hdv htt) rfl rfl (by simp) ?_
            rintro _ _ _ ⟨HF, ⟨vx, rfl, hrx⟩, hleF, rfl, rfl⟩
            obtain ⟨vm2, rfl, hrm2⟩ := hrx
            have hom2 := hrm2.isSl.one1
            refine ⟨fun _ w hm => hm.sub (fun x hx => List.mem_cons_of_mem _ (SubH.h x hx)) SubO.h, ?_⟩
            refine d1 4 3 ?_
            refine DW.storeB 7 rfl (by kernel_rfl) rfl rfl rfl rfl (by first | rfl | (simp [allOne, cellsL, one1]; done) | (simp [allOne, cellsL, one1]; first | assumption | (refine ⟨?_, ?_⟩ <;> assumption) | (refine ⟨?_, ?_, ?_⟩ <;> assumption))) rfl ?_
            refine DW.done (by kernel_rfl) ?_
            repeat (first | refine a1 ?_ | refine a4 ?_ | refine a5 ?_ | refine a6 ?_ | refine s_addI ?_)
            refine Runs.weak (ih (j + 1, HF, (stD d t).1, vm2) ⟨by dsimp only; omega, hleK.trans hleF, stD_valid hdv q1, hrm2, q2⟩ (by dsimp only; omega)) (by repeat (first | exact trivial | refine And.intro rfl ?_)) (fun x hx => List.mem_cons_of_mem _ (SubH.h x hx)) (by repeat (first | exact List.nil_sublist _ | exact List.Sublist.refl _ | refine List.Sublist.cons_cons _ ?_ | refine List.Sublist.cons _ ?_))
        · rw [decide_eq_false c1]
          have hsk : skipS s.app t := .inl (by rw [ha]; exact c1)
          repeat (first | refine a1 ?_ | refine a3 ?_ | refine a4 ?_ | refine a5 ?_ | refine a6 ?_ | refine s_addI ?_ | refine a8 ?_)
          rw [runS_skip hsk] at hrn
          skip
          refine Runs.weak (ih (j + 1, Hk, d, vm) ⟨by dsimp only; omega, hleK, hdv, hrm, hrn⟩ (by dsimp only; omega)) (by repeat (first | exact trivial | refine And.intro rfl ?_)) (fun x hx => List.mem_cons_of_mem _ (SubH.h x hx)) (by repeat (first | exact List.nil_sublist _ | exact List.Sublist.refl _ | refine List.Sublist.cons_cons _ ?_ | refine List.Sublist.cons _ ?_))
      · rw [decide_eq_false hlt]
        have hk3 : S'.drop j = [] := List.drop_eq_nil_of_le (by omega)
        rw [hk3, runS, Option.some.injEq] at hrn
        subst hrn
        repeat (first | refine a1 ?_ | refine a4 ?_ | refine a6 ?_ | refine s_loadBs ?_ | refine s_fieldB ?_ | refine s_loadB ?_ | refine s_index ?_ | refine a8 ?_)
        obtain ⟨xs', hp, hcx'⟩ := (hcD.mono hleK).put (k := a) (s := 2) (c := [str d.tx, vm]) (by omega) rfl ⟨vm, rfl, hrm⟩
        refine RW.storeR rfl rfl hp rfl (by simp [allOne, cellsL, one1]; assumption) rfl ?_
        repeat (first | refine a1 ?_ | refine a4 ?_ | refine a5 ?_ | refine a6 ?_ | refine s_loadBs ?_ | refine a9 ?_)
        refine Runs.freeze (H := Hk) v33 hM (fun HG hleG hsG hcG => ?_)
        refine Runs.retCTT Try.func34 Try.results34 rfl rfl rfl (fun w hm => hR _ w _ HG _ (by simp) ((hle1.trans hleK).trans hleG) ?_ (hm.sub (O' := [.row 33 8 v36 ss.length (stCs S')]) (fun x hx => List.mem_cons_of_mem _ hx) (by repeat (first | exact List.nil_sublist _ | exact List.Sublist.refl _ | refine List.Sublist.cons_cons _ ?_ | refine List.Sublist.cons _ ?_))))
        refine ⟨v33, v36, _, rfl, SliceRep.of_row (H := Hk) hsG (by simp) hcx' hleG hcG, SliceRep.nil, ?_, ?_⟩
        · dsimp only; rw [hSl]
        · dsimp only; rw [hSl]; exact hs36
    · rw [if_neg hdn] at hun
      rw [hun] at hR
      have hl1 : 0 < (depL s.app (k + 1) (markS s) (ss.drop (k + 1))).length := List.length_pos_iff.2 hdn
      rw [decide_eq_true (show (0 : Int) < ((depL s.app (k + 1) (markS s) (ss.drop (k + 1))).length : Nat) by omega)]
      repeat (first | refine a1 ?_ | refine a4 ?_ | refine a5 ?_ | refine a6 ?_ | refine s_build ?_ | refine a7 ?_ | refine a9 ?_)
      refine Runs.addNil 33 8 ?_
      refine Runs.retCTT Try.func34 Try.results34 rfl rfl rfl (fun w hm => hR _ w _ H1 _ (by simp) hle1 ?_ (hm.sub (O' := [.row 33 8 (.slice none 0 0) 0 []]) (fun x hx => List.mem_cons_of_mem _ hx) (List.Sublist.cons_cons _ (List.nil_sublist _))))
      exact ⟨_, _, _, rfl, SliceRep.nil, hrl, rfl, isSl_nil⟩
end Go.Proofs.Ytbiohkncdlhigaa

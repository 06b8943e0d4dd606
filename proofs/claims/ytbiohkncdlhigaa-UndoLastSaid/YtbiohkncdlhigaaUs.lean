/-
  Contracts: the reference's undoing; undoing as the law calls it. Conditions: a good past.
-/
import Derived.Test.YtbiohkncdlhigaaUr
namespace Go.Proofs.Ytbiohkncdlhigaa
open Go Go.RowKit

def UndR (H : Snap) (v : Value) (u : Pst × List Int × Int) : Prop := ∃ vd vs vl, v = .agg #[vd, vs, vl, .int .i64 u.2.2] ∧ SliceRep H DocL vd u.1.ds ∧ SliceRep H StepL vs u.1.ss ∧ SliceRep H I64 vl u.2.1
theorem QF.buildUnd {l : Env} {x y z : Operand} {vd vs vl : Value} {e : Int} (hx : opv l x = some (.agg #[vd, vs])) (hy : opv l y = some vl) (hz : opv l z = some (.int .i64 e)) (h1 : one1 vl = true) : QF Try.prog l (.build 40 #[(0, x), (1, y), (2, z)]) (.agg #[vd, vs, vl, .int .i64 e]) :=
  QF.build (L := [(0, x), (1, y), (2, z)]) (vs := [(0, .agg #[vd, vs]), (1, vl), (2, .int .i64 e)]) (cs := [vd, vs, vl, .int .i64 e]) (by simp only [opvs, hx, hy, hz]) (by
    have e1 := cellsL_one h1
    have e2 : cellsL (.agg #[vd, vs]) = [vd, vs] := rfl
    simp only [fillL, e1, e2]
    rfl)
theorem QF.buildUnd2 {l : Env} {y z : Operand} {vl : Value} {e : Int} (hy : opv l y = some vl) (hz : opv l z = some (.int .i64 e)) (h1 : one1 vl = true) : QF Try.prog l (.build 40 #[(1, y), (2, z)]) (.agg #[.slice none 0 0, .slice none 0 0, vl, .int .i64 e]) :=
  QF.build (L := [(1, y), (2, z)]) (vs := [(1, vl), (2, .int .i64 e)]) (cs := [.slice none 0 0, .slice none 0 0, vl, .int .i64 e]) (by simp only [opvs, hy, hz]) (by
    have e1 := cellsL_one h1
    simp only [fillL, e1]
    rfl)
section
variable {P : Program} {f : FuncId} {n : Nat} {E : Ent} {R : Value → World → Prop} {k : List Item} {Hs : List Snap} {O : List Own} {l : Env} {L : List Oper} {d : Nat} {ty : TypeId} {pos : String} {aft : Array Edge} {g : Option (Nat × Bool)} {Hs0 : List Snap} {O0 : List Own} {lt : List Nat} {fuel : Nat} {listed : Array Bool}
/-- A store into what is not held throughout. -/
theorem DW.storeBS (i : Nat) {T T' : TypeId} {x y : Operand} {b o : Nat} {v : Value} {cs cs' : List Value} {O' : List Own} (hi : opAt L i = some ⟨none, .store T x y, ty, pos, aft, g⟩) (hrd : (Region.ready .any L.toArray listed == [i]) = true) (hx : opv l x = some (.pointer (some ⟨b, o, none⟩))) (hy : opv l y = some v) [q : GetBlk O b T' cs] (hp : putAll cs o (cellsL v) = some cs') (h1 : allOne (cellsL v) = true) [s : TSz P T (cellsL v).length] [u : PutBlk O b T' cs cs' O'] (hg : guardIs L l g = some true) (hsub : SubO O0 O') (hsubH : SubH Hs0 Hs)
    (h : DW P f n E R L Hs0 O0 lt true fuel (listed.setIfInBounds i true) k Hs O' l) : DW P f n E R L Hs0 O0 lt true (fuel + 1) listed k Hs O l :=
  DW.h0 i true hi hrd (HV.storeB hx hy hp h1) hg (by simp) (by rintro v Hs' O' ⟨rfl, rfl⟩; exact ⟨fun _ w hm => hm.sub (fun x hx => List.mem_cons_of_mem _ (hsubH.h x hx)) hsub.h, h⟩)
end
theorem allW_rid {a j : Int} : ∀ {B : List Stp} {m : Mk}, allW a (ridM j m) B ↔ allW a m B
  | [], _ => Iff.rfl
  | s :: B, m => by
    by_cases c : skipS a s
    · rw [allW, if_pos c, allW, if_pos c]; exact allW_rid
    · rw [allW, if_neg c, allW, if_neg c, carryM_rid]
      dsimp only
      cases e : (carryM m s.e).1.wh with
      | true =>
        rw [if_pos (carryM_wh e).2]
        show ((carryM m s.e).1.wh = true ∧ allW a (ridM j (carryM m s.e).1) B) ↔ _
        rw [allW_rid, e]
      | false =>
        constructor
        · rintro ⟨h, _⟩
          split at h
          · change (carryM m s.e).1.wh = true at h; rw [e] at h; cases h
          · rw [e] at h; cases h
        · rintro ⟨h, _⟩; cases h
set_option maxHeartbeats 1000000 in
theorem undone_c {H : Snap} {vd vs : Value} {ds : List Dc} {ss : List Stp} {i : Int} (hd : SliceRep H DocL vd ds) (hv : SliceRep H StepL vs ss) (hg : GoodP ⟨ds, ss⟩) :
    Pure Try.prog 13 #[.agg #[vd, vs], .int .i64 i] H (fun H' r => UndR H' r (undoP ⟨ds, ss⟩ i)) := by
  have ho1 := hd.isSl.one1
  have ho2 := hv.isSl.one1
  refine Pure.intro Try.func13 rfl Try.ntmps13 rfl (fun E R hM hR => ?_)
  repeat (first | refine a4 ?_ | refine a6 ?_)
  refine RW.box rfl rfl rfl rfl (fun b2 => ?_)
  refine RW.alloc rfl rfl rfl (fun b4 => ?_)
  repeat (first | refine a1 ?_ | refine a4 ?_ | refine a5 ?_ | refine a6 ?_ | refine s_loadBs ?_)
  refine RW.callO rfl rfl (undo_c (H := H) (i := i) hd hv hg) rfl rfl ?_
  rintro _ H1 _ ⟨vd2, vs2, vl, rfl, hd2, hl2, rfl, hs2⟩ hle1
  dsimp only [List.cons_append, List.nil_append]
  have ho3 := hd2.isSl.one1
  have ho4 := hs2.one1
  have ho5 := hl2.isSl.one1
  repeat (refine a1 ?_)
  refine RW.alloc rfl rfl rfl (fun b5 => ?_)
  repeat (first | refine a1 ?_ | refine a4 ?_ | refine a5 ?_ | refine a6 ?_ | refine s_loadBs ?_ | refine a9 ?_)
  refine RW.q (QF.buildUnd rfl rfl rfl ho5).qv rfl rfl ?_
  refine RW.storeB rfl rfl rfl (by simp [allOne, cellsL, one1]; exact ⟨ho3, ho4, ho5⟩) rfl ?_
  repeat (refine a5 ?_)
  refine Runs.freeze (H := H1) vs2 hM (fun H3 hle3 hs3 hc3 => ?_)
  refine Runs.retC Try.func13 Try.results13 rfl (fun w hm => hR _ w _ H3 _ (by simp) ((hle1.trans hle3)) ?_ hm)
  exact ⟨vd2, vs2, vl, rfl, hd2.mono hle3, SliceRep.of_row (H := H3) hs3 rfl (stCs_rep H3 _) (Snap.le.refl _) hc3, hl2.mono hle3⟩
set_option maxHeartbeats 8000000 in
theorem rundo_c {H : Snap} {vd vs : Value} {ds : List Dc} {ss : List Stp} {i : Int} (hd : SliceRep H DocL vd ds) (hv : SliceRep H StepL vs ss) (hg : GoodP ⟨ds, ss⟩) :
    Pure Try.prog 27 #[.agg #[vd, vs], .int .i64 i] H (fun H' r => UndR H' r (undoP ⟨ds, ss⟩ i)) := by
  have ho1 := hd.isSl.one1
  have ho2 := hv.isSl.one1
  have hsz : ss.length ≤ 50 := hg.sz
  have hdl : ds.length ≤ 2 := hg.len
  have hch : chP ss := good_ch hg
  have htx : ∀ s ∈ ss, s.e.tx.length ≤ 100000 := fun s hs => Nat.le_trans (hg.tx s hs) (by omega)
  have hun : undoP ⟨ds, ss⟩ i = undoP ⟨ds, ss⟩ i := rfl
  conv at hun => rhs; unfold undoP
  dsimp only at hun
  have hdp : depP ss i = depP ss i := rfl
  conv at hdp => rhs; unfold depP
  refine Pure.intro Try.func27 rfl Try.ntmps27 rfl (fun E R hM hR => ?_)
  repeat (first | refine a4 ?_ | refine a6 ?_)
  refine RW.box rfl rfl rfl rfl (fun b2 => ?_)
  refine RW.alloc rfl rfl rfl (fun b4 => ?_)
  repeat (first | refine a1 ?_ | refine a4 ?_ | refine a5 ?_ | refine a6 ?_ | refine s_loadBs ?_)
  refine RW.call rfl (rdepends_c (H := H) (i := i) hd hv (by omega) hch htx) rfl rfl ?_
  rintro _ H1 ⟨vl, rfl, hrl⟩ hle1
  have hol := hrl.isSl.one1
  have hil := hrl.isSl
  repeat (first | refine a1 ?_ | refine a4 ?_ | refine a5 ?_ | refine a6 ?_)
  cases hcb : comB ss i with
  | false =>
    rw [hcb, if_neg (by simp)] at hdp hun
    rw [hun] at hR
    rw [hdp] at hil ⊢
    repeat (first | refine a1 ?_ | refine a4 ?_ | refine a5 ?_ | refine a6 ?_ | refine s_build ?_ | refine a7 ?_ | refine a9 ?_)
    refine Runs.retC Try.func27 Try.results27 rfl (fun w hm => hR _ w _ H _ (List.mem_cons_self ..) (Snap.le.refl _) ?_ hm)
    exact ⟨_, _, _, rfl, SliceRep.nil, SliceRep.nil, SliceRep.nil⟩
  | true =>
    rw [hcb, if_pos rfl] at hdp hun
    obtain ⟨k, s, rfl, hs, hs0, hsu⟩ := comB_some hcb
    rw [Int.toNat_natCast, hs] at hdp hun
    dsimp only at hdp hun
    rw [hdp] at hil hrl ⊢
    dsimp only at hil hrl
    repeat (first | refine a1 ?_ | refine a4 ?_ | refine a5 ?_ | refine a6 ?_ | refine s_len ?_ | refine a8 ?_)
    by_cases hdn : depL s.app (k + 1) (markS s) (ss.drop (k + 1)) = []
    · rw [if_pos hdn] at hun
      rw [hun] at hR
      have hw : allW s.app (markS s) (ss.drop (k + 1)) := (dep_nil rfl).1 hdn
      obtain ⟨D, D0, hD1, hD2, hrun, _⟩ := undo_ok hg hs hs0 hsu hw
      obtain ⟨hc1, hc2⟩ := hch k s hs hs0 hsu
      have hc3 := chOK_rid (j := 0) (Int.le_refl _) hc1
      have hw3 := (allW_rid (j := 0)).2 hw
      have hts := htx s (List.mem_of_getElem? hs)
      have ha2 := hg.app s (List.mem_of_getElem? hs)
      dsimp only at ha2
      obtain ⟨a, ha⟩ : ∃ a : Nat, s.app = (a : Int) := ⟨s.app.toNat, by omega⟩
      have hk := (List.getElem?_eq_some_iff.1 hs).1
      have hl0 : (depL s.app (k + 1) (markS s) (ss.drop (k + 1))).length = 0 := by rw [hdn]; rfl
      have hSl := undS_length hs
      have hStx : ∀ t ∈ undS ss k s, t.e.tx.length ≤ 100000 := fun t ht => by
        obtain ⟨j, hj⟩ := List.getElem?_of_mem ht
        obtain ⟨u, g1, _, _, _, g2, _⟩ := undS_get hs hj
        rw [g2]; exact htx u (List.mem_of_getElem? g1)
      have hund : undP ⟨ds, ss⟩ k s = ⟨ds.set a D0, undS ss k s⟩ := by
        unfold undP
        dsimp only at hrun ⊢
        rw [hrun, ha, Int.toNat_natCast]
        rfl
      rw [hund] at hR
      dsimp only at hrun
      have hS0 : (ss.set k ⟨s.app, s.id, s.e, true⟩).take (k + 1) ++ movL s.app ⟨0, s.e.at_, s.e.at_ + s.e.tx.length, true⟩ (ss.drop (k + 1)) = undS ss k s := by
        have h1 := movL_rid (a := s.app) (j := 0) (B := ss.drop (k + 1)) (m := markS s)
        change movL s.app ⟨0, s.e.at_, s.e.at_ + s.e.tx.length, true⟩ (ss.drop (k + 1)) = _ at h1
        have h2 : (ss.set k ⟨s.app, s.id, s.e, true⟩)[k]? = some (⟨s.app, s.id, s.e, true⟩ : Stp) := by simp [hk]
        rw [h1, take_one h2, List.take_set_of_le (Nat.le_refl _)]
        unfold undS
        simp
      change chOK s.app ⟨0, s.e.at_, s.e.at_ + s.e.tx.length, true⟩ (ss.drop (k + 1)) at hc3
      change allW s.app ⟨0, s.e.at_, s.e.at_ + s.e.tx.length, true⟩ (ss.drop (k + 1)) at hw3
      generalize undS ss k s = S at *
      have hs8 := hv.st hs
      have hAt : H.cell (vat vs (k * 8 + 2 + 1)) = some (.int .i64 s.e.at_) := hv.stE hs 1 _ rfl
      have hTx : H.cell (vat vs (k * 8 + 2 + 4)) = some (str s.e.tx) := hv.stE hs 4 _ rfl
      have hisd := hd.isSl
      have hiss := hv.isSl
      unfold smallI at hc2
      rw [hl0]
      repeat (first | refine a4 ?_ | refine a8 ?_)
      rw [decide_eq_false (show ¬ (0 : Int) < ((0 : Nat) : Int) by omega)]
      have hv0 := hv
      obtain ⟨hsD, xsD, hcD, hcellD⟩ := hd
      obtain ⟨hsS, xsS, hcS, hcellS⟩ := hv
      skip
      refine Runs.joinF (α := Value × Value × Nat) (fun s => IsSl s.1 ds.length ∧ IsSl s.2.1 ss.length) (fun _ => [H1, H]) (fun u => [.row 33 8 u.2.1 ss.length xsS, .row 36 2 u.1 ds.length xsD, .blk b4 40 [.slice none 0 0, .slice none 0 0, .slice none 0 0, .int .i64 0], .blk b2 27 [vd, vs], .blk u.2.2 27 [u.1, u.2.1]]) (fun u => [(1, .int .i64 (k : Int)), (2, .pointer (some ⟨b2, 0, none⟩)), (4, .pointer (some ⟨b4, 0, none⟩)), (7, .pointer (some ⟨u.2.2, 0, none⟩)), (8, .int .i64 s.app)]) (fun hj => ?_) ?_
      · skip
        refine Runs.regionD _ _ [] (fun x hx => List.mem_cons_of_mem _ hx) (List.Sublist.refl _) (by kernel_rfl) ?_
        refine t_fieldB 1 ?_
        refine t_loadB 2 ?_
        refine t_fieldB 5 ?_
        refine t_loadB 6 ?_
        refine t_fieldB 9 ?_
        refine t_loadB 10 ?_
        refine d2 11 ?_
        refine t_index 12 ?_
        refine t_fieldV 13 ?_
        refine t_loadH 14 ?_
        refine DW.float 15 rfl rfl ?_
        refine DWf.h2 0 4 rfl rfl rfl rfl rfl rfl (by kernel_rfl) (by kernel_rfl) rfl rfl (HVf.buildSlice rfl rfl rfl rfl rfl) (HVf.buildSlice rfl rfl rfl rfl rfl) rfl rfl rfl rfl (by rintro v Hs' O' ⟨rfl, rfl, _⟩ hsub w hm; exact hsub w (hm.sub (fun x hx => List.mem_cons_of_mem _ hx) (List.sublist_cons_self _ _))) (by rintro v Hs' O' ⟨rfl, rfl, _⟩ hsub w hm; exact hsub w (hm.sub (fun x hx => List.mem_cons_of_mem _ hx) (List.sublist_cons_self _ _))) ?_ ?_
        · skip
          rintro v0 _ _ ⟨rfl, rfl, hv0⟩
          refine DWf.h2 3 4 rfl rfl rfl rfl rfl rfl (by kernel_rfl) (by kernel_rfl) rfl rfl (HVf.appendH (H := H) (a := 0) (sz := 2) rfl rfl hsD hcD hcellD rfl rfl (by decide) (by omega) (by omega) (fun _ => inferInstance)) (HVf.buildSlice rfl rfl rfl rfl rfl) rfl rfl rfl rfl (by rintro v Hs' O' ⟨rfl, rfl, _⟩ _ w hm; exact hm.sub (fun x hx => List.mem_cons_of_mem _ (SubH.h x hx)) SubO.h) (by rintro v Hs' O' ⟨rfl, rfl, _⟩ hsub w hm; exact hsub w (hm.sub (fun x hx => List.mem_cons_of_mem _ hx) (List.sublist_cons_self _ _))) ?_ ?_
          · skip
            rintro w0 _ _ ⟨rfl, rfl, hw0⟩
            have how0 := hw0.one1
            refine DWf.one 4 rfl rfl rfl rfl (by kernel_rfl) (by kernel_rfl) (HVf.buildSlice rfl rfl rfl rfl rfl) rfl rfl rfl rfl (by rintro v Hs' O' ⟨rfl, rfl, _⟩ hsub w hm; exact hsub w (hm.sub (fun x hx => List.mem_cons_of_mem _ hx) (List.sublist_cons_self _ _))) ?_
            rintro v1 _ _ ⟨rfl, rfl, hv1⟩
            refine DWf.one 7 rfl rfl rfl rfl (by kernel_rfl) (by kernel_rfl) (HVf.appendH (H := H) (a := 0) (sz := 8) rfl rfl hsS hcS hcellS rfl rfl (by decide) (by omega) (by omega) (fun _ => inferInstance)) rfl rfl rfl rfl (by rintro v Hs' O' ⟨rfl, rfl, _⟩ _ w hm; exact hm.sub (fun x hx => List.mem_cons_of_mem _ (SubH.h x hx)) SubO.h) ?_
            rintro w1 _ _ ⟨rfl, rfl, hw1⟩
            have how1 := hw1.one1
            refine DWf.qF 8 rfl rfl (by kernel_rfl) (QF.buildPast rfl rfl how0 how1) (fun _ => QF.buildPast rfl rfl how0 how1) rfl rfl ?_
            refine DWf.take rfl (by kernel_rfl) rfl rfl rfl (fun b9 => ?_)
            simp only [List.cons_append, List.nil_append]
            refine DW.storeBS 16 rfl (by kernel_rfl) rfl rfl rfl (by simp [allOne, cellsL, one1]; exact ⟨how0, how1⟩) rfl inferInstance inferInstance ?_
            refine d2 17 ?_
            refine DW.done (by kernel_rfl) ?_
            simp only [repL, List.nil_append, Nat.zero_add] at hw0 hw1 ⊢
            refine Runs.weak (hj (w0, w1, b9) ⟨hw0, hw1⟩) (by repeat (first | exact trivial | refine And.intro rfl ?_)) (fun x hx => List.mem_cons_of_mem _ (SubH.h x hx)) (by repeat (first | exact List.nil_sublist _ | exact List.Sublist.refl _ | refine List.Sublist.cons_cons _ ?_ | refine List.Sublist.cons _ ?_))
          · skip
            rintro v1 _ _ ⟨rfl, rfl, hv1⟩
            refine DWf.one 3 rfl rfl rfl rfl (by kernel_rfl) (by kernel_rfl) (HVf.appendH (H := H) (a := 0) (sz := 2) rfl rfl hsD hcD hcellD rfl rfl (by decide) (by omega) (by omega) (fun _ => inferInstance)) rfl rfl rfl rfl (by rintro v Hs' O' ⟨rfl, rfl, _⟩ _ w hm; exact hm.sub (fun x hx => List.mem_cons_of_mem _ (SubH.h x hx)) SubO.h) ?_
            rintro w0 _ _ ⟨rfl, rfl, hw0⟩
            have how0 := hw0.one1
            refine DWf.one 7 rfl rfl rfl rfl (by kernel_rfl) (by kernel_rfl) (HVf.appendH (H := H) (a := 0) (sz := 8) rfl rfl hsS hcS hcellS rfl rfl (by decide) (by omega) (by omega) (fun _ => inferInstance)) rfl rfl rfl rfl (by rintro v Hs' O' ⟨rfl, rfl, _⟩ _ w hm; exact hm.sub (fun x hx => List.mem_cons_of_mem _ (SubH.h x hx)) SubO.h) ?_
            rintro w1 _ _ ⟨rfl, rfl, hw1⟩
            have how1 := hw1.one1
            refine DWf.qF 8 rfl rfl (by kernel_rfl) (QF.buildPast rfl rfl how0 how1) (fun _ => QF.buildPast rfl rfl how0 how1) rfl rfl ?_
            refine DWf.take rfl (by kernel_rfl) rfl rfl rfl (fun b9 => ?_)
            simp only [List.cons_append, List.nil_append]
            refine DW.storeBS 16 rfl (by kernel_rfl) rfl rfl rfl (by simp [allOne, cellsL, one1]; exact ⟨how0, how1⟩) rfl inferInstance inferInstance ?_
            refine d2 17 ?_
            refine DW.done (by kernel_rfl) ?_
            simp only [repL, List.nil_append, Nat.zero_add] at hw0 hw1 ⊢
            refine Runs.weak (hj (w0, w1, b9) ⟨hw0, hw1⟩) (by repeat (first | exact trivial | refine And.intro rfl ?_)) (fun x hx => List.mem_cons_of_mem _ (SubH.h x hx)) (by repeat (first | exact List.nil_sublist _ | exact List.Sublist.refl _ | refine List.Sublist.cons_cons _ ?_ | refine List.Sublist.cons _ ?_))
        · skip
          rintro v1 _ _ ⟨rfl, rfl, hv1⟩
          refine DWf.one 0 rfl rfl rfl rfl (by kernel_rfl) (by kernel_rfl) (HVf.buildSlice rfl rfl rfl rfl rfl) rfl rfl rfl rfl (by rintro v Hs' O' ⟨rfl, rfl, _⟩ hsub w hm; exact hsub w (hm.sub (fun x hx => List.mem_cons_of_mem _ hx) (List.sublist_cons_self _ _))) ?_
          rintro v0 _ _ ⟨rfl, rfl, hv0⟩
          refine DWf.one 3 rfl rfl rfl rfl (by kernel_rfl) (by kernel_rfl) (HVf.appendH (H := H) (a := 0) (sz := 2) rfl rfl hsD hcD hcellD rfl rfl (by decide) (by omega) (by omega) (fun _ => inferInstance)) rfl rfl rfl rfl (by rintro v Hs' O' ⟨rfl, rfl, _⟩ _ w hm; exact hm.sub (fun x hx => List.mem_cons_of_mem _ (SubH.h x hx)) SubO.h) ?_
          rintro w0 _ _ ⟨rfl, rfl, hw0⟩
          have how0 := hw0.one1
          refine DWf.one 7 rfl rfl rfl rfl (by kernel_rfl) (by kernel_rfl) (HVf.appendH (H := H) (a := 0) (sz := 8) rfl rfl hsS hcS hcellS rfl rfl (by decide) (by omega) (by omega) (fun _ => inferInstance)) rfl rfl rfl rfl (by rintro v Hs' O' ⟨rfl, rfl, _⟩ _ w hm; exact hm.sub (fun x hx => List.mem_cons_of_mem _ (SubH.h x hx)) SubO.h) ?_
          rintro w1 _ _ ⟨rfl, rfl, hw1⟩
          have how1 := hw1.one1
          refine DWf.qF 8 rfl rfl (by kernel_rfl) (QF.buildPast rfl rfl how0 how1) (fun _ => QF.buildPast rfl rfl how0 how1) rfl rfl ?_
          refine DWf.take rfl (by kernel_rfl) rfl rfl rfl (fun b9 => ?_)
          simp only [List.cons_append, List.nil_append]
          refine DW.storeBS 16 rfl (by kernel_rfl) rfl rfl rfl (by simp [allOne, cellsL, one1]; exact ⟨how0, how1⟩) rfl inferInstance inferInstance ?_
          refine d2 17 ?_
          refine DW.done (by kernel_rfl) ?_
          simp only [repL, List.nil_append, Nat.zero_add] at hw0 hw1 ⊢
          refine Runs.perm (List.Perm.swap _ _ _) ?_
          refine Runs.weak (hj (w0, w1, b9) ⟨hw0, hw1⟩) (by repeat (first | exact trivial | refine And.intro rfl ?_)) (fun x hx => List.mem_cons_of_mem _ (SubH.h x hx)) (by repeat (first | exact List.nil_sublist _ | exact List.Sublist.refl _ | refine List.Sublist.cons_cons _ ?_ | refine List.Sublist.cons _ ?_))
      rintro ⟨w0, w1, b9⟩ ⟨hw0, hw1⟩
      dsimp only at hw0 hw1 ⊢
      have how0 := hw0.one1
      have how1 := hw1.one1
      have e8 := stCs_of hcS
      subst e8
      have hv := hv0
      repeat (refine a4 ?_)
      refine Runs.regionD _ _ [25] (fun x hx => List.mem_cons_of_mem _ hx) (List.Sublist.refl _) (by kernel_rfl) ?_
      refine t_fieldB 0 ?_
      refine t_loadB 1 ?_
      refine d2 2 ?_
      refine t_index 3 ?_
      refine t_fieldV 4 ?_
      refine t_fieldV 5 ?_
      refine t_loadH 6 ?_
      refine t_fieldB 7 ?_
      refine t_loadB 8 ?_
      refine d2 9 ?_
      refine t_index 10 ?_
      refine t_fieldV 11 ?_
      refine t_fieldV 12 ?_
      refine t_loadH 13 ?_
      refine t_fieldB 14 ?_
      refine t_loadB 15 ?_
      refine d2 16 ?_
      refine t_index 17 ?_
      refine t_fieldV 18 ?_
      refine t_fieldV 19 ?_
      refine t_loadH 20 ?_
      refine t_lenS 21 ?_
      refine t_addI 22 ?_
      refine t_build 23 ?_
      refine DW.alloc 24 rfl (by kernel_rfl) rfl rfl rfl (fun b10 => ?_)
      refine DW.storeB 25 rfl (by kernel_rfl) rfl rfl rfl rfl (by first | rfl | (simp [allOne, cellsL, one1]; done) | (simp [allOne, cellsL, one1]; first | assumption | (refine ⟨?_, ?_⟩ <;> assumption) | (refine ⟨?_, ?_, ?_⟩ <;> assumption))) rfl ?_
      refine DW.done (by kernel_rfl) ?_
      repeat (first | refine a1 ?_ | refine a4 ?_ | refine a6 ?_ | refine s_fieldB ?_ | refine s_fieldV ?_ | refine s_loadB ?_ | refine s_index ?_)
      refine RW.storeR1 rfl rfl rfl (stCs_un hs true) rfl ?_
      repeat (first | refine a1 ?_ | refine a4 ?_ | refine a5 ?_ | refine a6 ?_ | refine s_addI ?_)
      refine Runs.loop (fun u : Nat × Mk × List Stp => k + 1 ≤ u.1 ∧ u.1 ≤ ss.length ∧ u.2.2.length = ss.length ∧ u.2.2.drop u.1 = ss.drop u.1 ∧ u.2.2.take u.1 ++ movL s.app u.2.1 (ss.drop u.1) = S ∧ chOK s.app u.2.1 (ss.drop u.1) ∧ allW s.app u.2.1 (ss.drop u.1)) (fun u => ss.length - u.1) (fun _ => [H1, H]) (fun u => [.blk b10 44 (mkC u.2.1), .row 33 8 w1 ss.length (stCs u.2.2), .row 36 2 w0 ds.length xsD, .blk b4 40 [.slice none 0 0, .slice none 0 0, .slice none 0 0, .int .i64 0], .blk b2 27 [vd, vs], .blk b9 27 [w0, w1]]) (fun u => [(2, .pointer (some ⟨b2, 0, none⟩)), (4, .pointer (some ⟨b4, 0, none⟩)), (7, .pointer (some ⟨b9, 0, none⟩)), (8, .int .i64 s.app), (9, .pointer (some ⟨b10, 0, none⟩)), (10, .int .i64 (u.1 : Int))]) (k + 1, ⟨0, s.e.at_, s.e.at_ + s.e.tx.length, true⟩, ss.set k ⟨s.app, s.id, s.e, true⟩) ⟨Nat.le_refl _, by dsimp only; omega, by dsimp only; simp, by dsimp only; rw [List.drop_set_of_lt (by omega)], hS0, hc3, hw3⟩
        (fun h => by refine Runs.weak (h) (by repeat (first | exact trivial | refine And.intro rfl ?_)) (fun x hx => List.mem_cons_of_mem _ (SubH.h x hx)) (by repeat (first | exact List.nil_sublist _ | exact List.Sublist.refl _ | refine List.Sublist.cons_cons _ ?_ | refine List.Sublist.cons _ ?_))) ?_
      rintro ⟨j, m, cur⟩ ⟨hj1, hj2, hcl, hcd, hcS2, hck, hwk⟩ ih
      dsimp only at hj1 hj2 hcl hcd hcS2 hck hwk ih ⊢
      repeat (first | refine a1 ?_ | refine a4 ?_ | refine a5 ?_ | refine a6 ?_ | refine s_len ?_ | refine s_fieldB ?_ | refine s_loadB ?_)
      by_cases hlt : (j : Int) < (ss.length : Int)
      · rw [decide_eq_true hlt]
        obtain ⟨t, ht⟩ : ∃ t, ss[j]? = some t := ⟨_, List.getElem?_eq_getElem (by omega)⟩
        have ht8 := hv.st ht
        have hct : cur[j]? = some t := by
          have h0 : (cur.drop j)[0]? = (ss.drop j)[0]? := by rw [hcd]
          rw [List.getElem?_drop, List.getElem?_drop, Nat.add_zero] at h0
          rw [h0]; exact ht
        have hdt := drop_at ht
        have hdc := drop_at hct
        have hcd2 : cur.drop (j + 1) = ss.drop (j + 1) := by
          rw [hdc, hdt] at hcd
          exact (List.cons.inj hcd).2
        rw [hdt] at hck hwk hcS2
        repeat (first | refine a1 ?_ | refine a4 ?_ | refine a6 ?_ | refine s_loadHs ?_ | refine s_fieldB ?_ | refine s_loadB ?_ | refine s_index ?_ | refine a7 ?_)
        refine RW.alloc rfl rfl rfl (fun b11 => ?_)
        repeat (first | refine a1 ?_ | refine a4 ?_ | refine a5 ?_ | refine a6 ?_ | refine s_fieldB ?_ | refine s_loadB ?_ | refine a9 ?_)
        by_cases c1 : t.app = s.app
        · rw [decide_eq_false (show ¬ t.app ≠ s.app by simpa using c1)]
          repeat (first | refine a1 ?_ | refine a5 ?_ | refine s_fieldB ?_ | refine s_loadB ?_)
          cases htu : t.un with
          | true =>
            have hsk : skipS s.app t := .inr htu
            repeat (first | refine a1 ?_ | refine a4 ?_ | refine a5 ?_ | refine a6 ?_ | refine s_addI ?_ | refine a7 ?_)
            rw [chOK, if_pos hsk] at hck
            rw [allW, if_pos hsk] at hwk
            rw [movL, if_pos hsk] at hcS2
            have hn2 : cur.take (j + 1) ++ movL s.app m (ss.drop (j + 1)) = S := by rw [take_one hct, List.append_assoc]; exact hcS2
            skip
            refine Runs.weak (ih (j + 1, m, cur) ⟨by dsimp only; omega, by dsimp only; omega, hcl, hcd2, hn2, hck, hwk⟩ (by dsimp only; omega)) (by repeat (first | exact trivial | refine And.intro rfl ?_)) (fun x hx => List.mem_cons_of_mem _ (SubH.h x hx)) (by repeat (first | exact List.nil_sublist _ | exact List.Sublist.refl _ | refine List.Sublist.cons_cons _ ?_ | refine List.Sublist.cons _ ?_))
          | false =>
            have hnsk : ¬ skipS s.app t := by
              rintro (h | h)
              · exact h c1
              · rw [htu] at h; cases h
            have hstE : ∀ (j : Nat) (u : Value), (edC t.e)[j]? = some u → [Value.int .i64 t.app, .int .i64 t.id, .int .i64 t.e.k, .int .i64 t.e.at_, .int .i64 t.e.len, .int .i64 t.e.to_, str t.e.tx, .bool false][2 + j]? = some u := fun j u hu => by rw [← htu]; exact stp_ed j u hu
            rw [chOK, if_neg hnsk] at hck
            rw [allW, if_neg hnsk] at hwk
            rw [movL, if_neg hnsk] at hcS2
            obtain ⟨⟨n, hn1, hn2, hmk, hpo⟩, hck⟩ := hck
            have hck := hck (carryM_wh hwk.1).2
            rw [wM_eq hwk.1] at hck
            refine Runs.rowSl w1 (fun hsw1 _ => ?_)
            repeat (first | refine a4 ?_ | refine a8 ?_)
            refine Runs.regionD _ _ [7, 8, 9] (fun x hx => List.mem_cons_of_mem _ hx) (List.Sublist.refl _) (by kernel_rfl) ?_
            refine t_fieldB 0 ?_
            refine t_loadB 1 ?_
            refine d2 2 ?_
            refine t_fieldB 3 ?_
            refine DW.q 4 rfl (by kernel_rfl) (QV.loadBp (c := edC t.e) rfl hstE) rfl rfl ?_
            refine t_loadBs 5 ?_
            refine DW.callV 6 rfl (by kernel_rfl) rfl (rumoved_c (H := H) (e := t.e) (m := m) hmk hpo (by omega)) rfl rfl ?_
            rintro _ _ rfl
            refine DW.qL 7 rfl (by kernel_rfl) rfl (QF.index rfl rfl hsw1 rfl (by omega)).qv rfl rfl ?_
            refine DW.qL 8 rfl (by kernel_rfl) rfl (QF.fieldV rfl).qv rfl rfl ?_
            refine DW.storeR 9 rfl (by kernel_rfl) rfl rfl rfl (stCs_ed hct (movE t.e m)) rfl rfl rfl ?_
            refine DW.done (by kernel_rfl) ?_
            repeat (first | refine a6 ?_ | refine s_loadBs ?_ | refine s_fieldB ?_)
            refine RW.q (QV.loadBp (c := edC t.e) rfl hstE) rfl rfl ?_
            skip
            refine RW.callV rfl (rcarry_c (H := H) (m := m) (e := t.e) hmk hpo (by omega)) rfl rfl ?_
            rintro _ _ rfl
            repeat (first | refine a1 ?_ | refine a4 ?_ | refine a5 ?_ | refine a6 ?_ | refine s_addI ?_ | refine a9 ?_)
            have hcn : (cur.set j ⟨t.app, t.id, movE t.e m, t.un⟩).take (j + 1) ++ movL s.app (carryM m t.e).1 (ss.drop (j + 1)) = S := by
              have h2 : (cur.set j ⟨t.app, t.id, movE t.e m, t.un⟩)[j]? = some (⟨t.app, t.id, movE t.e m, t.un⟩ : Stp) := List.getElem?_set_self (by omega)
              rw [take_one h2, List.take_set_of_le (Nat.le_refl _), List.append_assoc]
              exact hcS2
            refine Runs.weak (ih (j + 1, (carryM m t.e).1, cur.set j ⟨t.app, t.id, movE t.e m, t.un⟩) ⟨by dsimp only; omega, by dsimp only; omega, by dsimp only; simp [hcl], by dsimp only; rw [List.drop_set_of_lt (by omega)]; exact hcd2, hcn, hck, hwk.2⟩ (by dsimp only; omega)) (by repeat (first | exact trivial | refine And.intro rfl ?_)) (fun x hx => List.mem_cons_of_mem _ (SubH.h x hx)) (by repeat (first | exact List.nil_sublist _ | exact List.Sublist.refl _ | refine List.Sublist.cons_cons _ ?_ | refine List.Sublist.cons _ ?_))
        · rw [decide_eq_true (show t.app ≠ s.app from c1)]
          have hsk : skipS s.app t := .inl c1
          repeat (first | refine a1 ?_ | refine a3 ?_ | refine a4 ?_ | refine a5 ?_ | refine a6 ?_ | refine s_addI ?_ | refine a7 ?_)
          rw [chOK, if_pos hsk] at hck
          rw [allW, if_pos hsk] at hwk
          rw [movL, if_pos hsk] at hcS2
          have hn2 : cur.take (j + 1) ++ movL s.app m (ss.drop (j + 1)) = S := by rw [take_one hct, List.append_assoc]; exact hcS2
          skip
          refine Runs.weak (ih (j + 1, m, cur) ⟨by dsimp only; omega, by dsimp only; omega, hcl, hcd2, hn2, hck, hwk⟩ (by dsimp only; omega)) (by repeat (first | exact trivial | refine And.intro rfl ?_)) (fun x hx => List.mem_cons_of_mem _ (SubH.h x hx)) (by repeat (first | exact List.nil_sublist _ | exact List.Sublist.refl _ | refine List.Sublist.cons_cons _ ?_ | refine List.Sublist.cons _ ?_))
      · rw [decide_eq_false hlt]
        have hk3 : ss.drop j = [] := List.drop_eq_nil_of_le (by omega)
        have hcS3 : cur = S := by rw [← hcS2, hk3, movL, List.append_nil, List.take_of_length_le (by omega)]
        subst hcS3
        refine Runs.freeze (H := H1) w1 hM (fun HG hleG hsG hcG => ?_)
        have hrS : SliceRep HG StepL w1 cur := SliceRep.of_row (H := HG) hsG hcl.symm (stCs_rep HG _) (Snap.le.refl _) hcG
        rw [ha]
        have hwl : IsSl w1 cur.length := hrS.isSl
        repeat (first | refine a4 ?_ | refine a8 ?_)
        refine Runs.regionD _ _ [9, 10] (fun x hx => List.mem_cons_of_mem _ hx) (List.Sublist.refl _) (by kernel_rfl) ?_
        refine t_fieldB 0 ?_
        refine t_loadB 1 ?_
        refine d2 2 ?_
        refine t_loadBs 3 ?_
        refine d2 4 ?_
        refine t_fieldB 5 ?_
        refine t_loadB 6 ?_
        refine t_len 7 ?_
        refine DW.call 8 rfl (by kernel_rfl) rfl (replay_c (H := HG) (a := (a : Int)) (m := cur.length) how0 hrS hStx (by omega)) rfl rfl ?_
        rintro _ HJ hrJ hleJ
        obtain ⟨vm, rfl, hrm⟩ := hrJ
        rw [List.take_of_length_le (Nat.le_refl _), ← ha, replS_run hrun] at hrm
        rw [List.take_of_length_le (Nat.le_refl _), ← ha, replS_run hrun]
        have hom := hrm.isSl.one1
        rw [ha]
        refine DW.qL 9 rfl (by kernel_rfl) rfl (QF.index rfl rfl hw0 rfl (by omega)).qv rfl rfl ?_
        obtain ⟨xs', hp, hcx'⟩ := (hcD.mono (((hle1.trans hleG).trans hleJ))).put (k := a) (s := 2) (c := [str D0.tx, vm]) (by omega) rfl ⟨vm, rfl, hrm⟩
        refine DW.storeR 10 rfl (by kernel_rfl) rfl rfl rfl hp rfl (by simp [allOne, cellsL, one1]; assumption) rfl ?_
        refine DW.done (by kernel_rfl) ?_
        repeat (first | refine a4 ?_ | refine a5 ?_ | refine a6 ?_ | refine s_loadBs ?_ | refine s_build ?_ | refine a9 ?_)
        refine Runs.freeze (H := HJ) w0 hM (fun HK hleK hsK hcK => ?_)
        refine Runs.retC Try.func27 Try.results27 rfl (fun w hm => hR _ w _ HK _ (by simp) ((((hle1.trans hleG).trans hleJ).trans hleK)) ?_ hm)
        exact ⟨w0, w1, _, rfl, SliceRep.of_row (H := HJ) hsK (by simp) hcx' hleK hcK, hrS.mono (hleJ.trans hleK), SliceRep.nil⟩
    · rw [if_neg hdn] at hun
      rw [hun] at hR
      have hl1 : 0 < (depL s.app (k + 1) (markS s) (ss.drop (k + 1))).length := List.length_pos_iff.2 hdn
      rw [decide_eq_true (show (0 : Int) < ((depL s.app (k + 1) (markS s) (ss.drop (k + 1))).length : Nat) by omega)]
      repeat (first | refine a1 ?_ | refine a4 ?_ | refine a6 ?_ | refine a7 ?_)
      refine RW.q (QF.buildUnd2 rfl rfl hol).qv rfl rfl ?_
      repeat (first | refine a5 ?_ | refine a9 ?_)
      refine Runs.retC Try.func27 Try.results27 rfl (fun w hm => hR _ w _ H1 _ (by simp) (hle1) ?_ hm)
      exact ⟨_, _, _, rfl, SliceRep.nil, SliceRep.nil, hrl⟩
end Go.Proofs.Ytbiohkncdlhigaa

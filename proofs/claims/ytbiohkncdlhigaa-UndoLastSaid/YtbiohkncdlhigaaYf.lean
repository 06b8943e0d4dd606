/-
  Contract: undoing a commit right after it restores all documents. Conditions: bytes are bytes.
-/
import Derived.Test.YtbiohkncdlhigaaYf0
namespace Go.Proofs.Ytbiohkncdlhigaa
open Go Go.RowKit

section
variable {P : Program} {E : Ent} {Hs : List Snap} {O : List Own} {l : Env} {dj : Nat} {T : TypeId} {cs : List Value}
theorem HVf.appendRR {Ts e : TypeId} {x y : Operand} {v vy z : Value} {sz bytes a m : Nat} {xs ds : List Value} [t : TDesc P Ts (.slice e)] [ji : TInfo P e z sz bytes] (hx : opv l x = some v) (hy : opv l y = some vy) [q1 : GetRow O v e sz a xs] [q2 : GetRow O vy e sz m ds] (hs : IsSl vy m) (hd' : Nat.beq ds.length (m * sz) = true)
    (h1 : allOne ds = true) (hz : Nat.beq (cellsL z).length sz = true) (h0 : sz ≠ 0) (hb : (a + m) * bytes ≤ 140737488355328) (hb2 : a + m ≤ 140737488355328)
    {O1 : Value → List Own} (q : ∀ v', PutRow O v e sz a xs v' (a + m) (xs ++ ds) (O1 v')) :
    HVf P E Hs O l dj T cs (.call ⟨.builtin .append, #[x, y], #[Ts, Ts]⟩) (fun v' Hs' O2 => Hs' = Hs ∧ O2 = O1 v' ∧ IsSl v' (a + m)) := by
  refine ⟨HV.append hx hy hs (Nat.eq_of_beq_eq_true hd') (fun w hm k u hu => hm.cellR hu) (allOne_eq h1) hz h0 hb hb2 q, fun b o ho w hm a' ha next Q hn => ?_⟩
  refine (HV.append (E := E) (Hs := Hs) (O := O ++ [.blk b T cs]) (O1 := fun v' => O1 v' ++ [.blk b T cs]) (opv_app hx) (opv_app hy) hs (Nat.eq_of_beq_eq_true hd') (fun w hm k u hu => hm.cellR hu) (allOne_eq h1) hz h0 hb hb2 (fun v' => (q v').app)) o ho w hm a' ha next Q ?_
  rintro v' w' Hs' O' ⟨rfl, rfl, h1⟩ hm'
  exact hn v' w' Hs' _ ⟨_, rfl, rfl, rfl, h1⟩ hm'
end
set_option maxHeartbeats 8000000 in
theorem last32_c {H : Snap} {v vx : Value} {l : List Rq} {x : Rq} (hv : SliceRep H RqL v l) (hx : ∀ x ∈ l, okRq x) (hvx : SliceRep H U8 vx x.x.tx) (hxo : okRq x) : Pure Try.prog 7 #[v, rqV x vx] H (fun _ r => r = .bool true) := by
  unfold rqV
  obtain ⟨hg, hml⟩ := madeP_good l (min l.length 14) (by omega)
  have hl2 := madeP_len l (min l.length 14)
  have hmc := madeP_c hv hx
  generalize madeP l (min l.length 14) = p at *
  have hovx := hvx.isSl.one1
  have hox : okRq ⟨x.app, x.undo, ⟨128, x.x.a, x.x.l, x.x.t, x.x.tx⟩⟩ := ⟨hxo.1, ⟨show (0 : Int) ≤ 128 by decide, show (128 : Int) ≤ 255 by decide⟩, hxo.2.2⟩
  refine Pure.intro Try.func7 rfl Try.ntmps7 rfl (fun E R hM hR => ?_)
  repeat (first | refine a4 ?_ | refine a6 ?_)
  refine RW.box rfl rfl rfl rfl (fun b3 => ?_)
  repeat (first | refine a1 ?_ | refine a4 ?_ | refine a5 ?_ | refine a6 ?_)
  refine RW.callV rfl (usanity_c (H := H)) rfl rfl ?_
  rintro _ _ rfl
  repeat (first | refine a1 ?_ | refine a4 ?_ | refine a5 ?_ | refine a6 ?_)
  refine RW.call rfl (hmc) rfl rfl ?_
  rintro _ H1 ⟨vd, vs, rfl, hd, hs⟩ hle1
  have ho1 := hd.isSl.one1
  have ho2 := hs.isSl.one1
  have hid := hd.isSl
  have his := hs.isSl
  have hsz : p.ss.length ≤ 50 := hg.sz
  refine RW.alloc rfl rfl rfl (fun b6 => ?_)
  repeat (first | refine a4 ?_ | refine a5 ?_ | refine a6 ?_ | refine s_fieldB ?_ | refine s_loadBs ?_ | refine a9 ?_)
  refine RW.callV rfl (next_c (H := H1) (x := ⟨x.app, x.undo, ⟨128, x.x.a, x.x.l, x.x.t, x.x.tx⟩⟩) (vx := vx) hd hs (hvx.mono hle1) hox hg (by omega)) rfl rfl ?_
  rintro _ _ rfl
  rw [show nextP ⟨p.ds, p.ss⟩ ⟨x.app, x.undo, ⟨128, x.x.a, x.x.l, x.x.t, x.x.tx⟩⟩ = nextP p ⟨x.app, x.undo, ⟨128, x.x.a, x.x.l, x.x.t, x.x.tx⟩⟩ from rfl]
  have hnx := (next_ok p ⟨x.app, x.undo, ⟨128, x.x.a, x.x.l, x.x.t, x.x.tx⟩⟩).1
  obtain ⟨a, d, e1, ha2, hda, e3, e4, hrun, hdo⟩ := last_do hg hl2 (by omega) hox rfl
  generalize nextP p ⟨x.app, x.undo, ⟨128, x.x.a, x.x.l, x.x.t, x.x.tx⟩⟩ = s at *
  refine RW.alloc rfl rfl rfl (fun b7 => ?_)
  repeat (first | refine a4 ?_ | refine a5 ?_ | refine a6 ?_ | refine s_loadBs ?_ | refine a9 ?_)
  rcases hdo with ⟨q, hq⟩ | ⟨D1, hq⟩
  · refine RW.call rfl (doE (H := H1) (p := p) (s := s) hd hs hg (by omega) hq) rfl rfl ?_
    rintro _ H2 ⟨vd2, vs2, rfl, hd2, hs2⟩ hle2
    have o1 := hd2.isSl.one1
    have o2 := hs2.isSl.one1
    repeat (refine a1 ?_)
    refine RW.alloc rfl rfl rfl (fun b8 => ?_)
    repeat (first | refine a1 ?_ | refine a4 ?_ | refine a5 ?_ | refine a6 ?_ | refine a7 ?_ | refine a9 ?_)
    refine Runs.ret1 Try.func7 Try.results7 rfl (fun w hm => hR _ w _ H _ (List.mem_cons_self ..) (Snap.le.refl _) ?_ hm)
    rfl
  · have hgq : GoodP ⟨p.ds.set a D1, p.ss ++ [s]⟩ := by
      have := doP_good hg (by rw [hq]) (.inr e3) (by omega) hnx
      rwa [hq] at this
    have hun := last_undo (D1 := D1) e1 hda e3 e4 hrun
    refine RW.call rfl (doE (H := H1) (p := p) (s := s) hd hs hg (by omega) hq) rfl rfl ?_
    rintro _ H2 ⟨vd2, vs2, rfl, hd2, hs2⟩ hle2
    have o1 := hd2.isSl.one1
    have o2 := hs2.isSl.one1
    have i1 : IsSl vd2 2 := by have := hd2.isSl; simpa [hl2] using this
    have i2 : IsSl vs2 (p.ss.length + 1) := by have := hs2.isSl; simpa using this
    repeat (refine a1 ?_)
    refine RW.alloc rfl rfl rfl (fun b8 => ?_)
    repeat (first | refine a1 ?_ | refine a4 ?_ | refine a5 ?_ | refine a6 ?_ | refine s_fieldB ?_ | refine s_loadB ?_ | refine s_len ?_ | refine s_addI ?_ | refine a8 ?_ | refine a9 ?_)
    rw [decide_eq_false (show ¬ (((p.ss.length + 1 : Nat) : Int) ≠ (p.ss.length : Int) + 1) by omega)]
    repeat (first | refine a1 ?_ | refine a4 ?_ | refine a5 ?_ | refine a6 ?_ | refine s_fieldB ?_ | refine s_loadBs ?_ | refine s_loadB ?_ | refine s_len ?_ | refine a8 ?_)
    have hue := undE (H := H2) (i := (p.ss.length : Int)) hd2 hs2 hgq
    rw [hun] at hue
    refine RW.call rfl (hue) rfl rfl ?_
    rintro _ H3 ⟨vd3, vs3, vl3, rfl, hd3, hs3, hl3⟩ hle3
    have o3 := hd3.isSl.one1
    have o4 := hs3.isSl.one1
    have o5 := hl3.isSl.one1
    refine RW.alloc rfl rfl rfl (fun b10 => ?_)
    refine RW.storeB rfl rfl rfl (by simp [allOne, cellsL, one1]; exact ⟨o3, o4, o5⟩) rfl ?_
    repeat (first | refine a4 ?_ | refine a5 ?_ | refine a6 ?_ | refine s_fieldB ?_ | refine a9 ?_)
    have hs' := hs
    obtain ⟨hsS, xsS, hcS, hcellS⟩ := hs
    refine Runs.joinF (α := Value × Nat) (fun s' => IsSl s'.1 (p.ss.length + 1)) (fun _ => [H3, H2, H1, H]) (fun s' => [.row 33 8 s'.1 (p.ss.length + 1) (xsS ++ stpC ⟨s.app, s.id, s.e, true⟩), .blk b10 40 [vd3, vs3, vl3, .int .i64 0], .blk s'.2 27 [vd, s'.1]]) (fun s' => [(5, .bool true), (10, .pointer (some ⟨b10, 0, none⟩)), (11, .pointer (some ⟨s'.2, 0, none⟩))]) (fun hj => ?_) ?_
    · skip
      refine Runs.regionD _ _ [] (fun x hx => List.mem_cons_of_mem _ hx) (List.Sublist.refl _) (by kernel_rfl) ?_
      refine t_fieldB 0 ?_
      refine t_loadB 1 ?_
      refine t_fieldB 3 ?_
      refine t_loadB 4 ?_
      refine t_loadBs 6 ?_
      refine DW.float 10 rfl rfl ?_
      refine DWf.h2 2 7 rfl rfl rfl rfl rfl rfl (by kernel_rfl) (by kernel_rfl) rfl rfl (HVf.buildSlice rfl rfl rfl rfl rfl) (HVf.buildSlice rfl rfl rfl rfl rfl) rfl rfl rfl rfl (by rintro v Hs' O' ⟨rfl, rfl, _⟩ hsub w hm; exact hsub w (hm.sub (fun x hx => List.mem_cons_of_mem _ hx) (List.sublist_cons_self _ _))) (by rintro v Hs' O' ⟨rfl, rfl, _⟩ hsub w hm; exact hsub w (hm.sub (fun x hx => List.mem_cons_of_mem _ hx) (List.sublist_cons_self _ _))) ?_ ?_
      · skip
        rintro v2 _ _ ⟨rfl, rfl, hv2⟩
        refine DWf.h2 5 7 rfl rfl rfl rfl rfl rfl (by kernel_rfl) (by kernel_rfl) rfl rfl (HVf.appendH (H := H1) (a := 0) (sz := 8) rfl rfl hsS hcS hcellS rfl rfl (by decide) (by omega) (by omega) (fun _ => inferInstance)) (HVf.buildSlice rfl rfl rfl rfl rfl) rfl rfl rfl rfl (by rintro v Hs' O' ⟨rfl, rfl, _⟩ _ w hm; exact hm.sub (fun x hx => List.mem_cons_of_mem _ (SubH.h x hx)) SubO.h) (by rintro v Hs' O' ⟨rfl, rfl, _⟩ hsub w hm; exact hsub w (hm.sub (fun x hx => List.mem_cons_of_mem _ hx) (List.sublist_cons_self _ _))) ?_ ?_
        · skip
          rintro v5 _ _ ⟨rfl, rfl, hv5⟩
          refine DWf.one 7 rfl rfl rfl rfl (by kernel_rfl) (by kernel_rfl) (HVf.buildSlice rfl rfl rfl rfl rfl) rfl rfl rfl rfl (by rintro v Hs' O' ⟨rfl, rfl, _⟩ hsub w hm; exact hsub w (hm.sub (fun x hx => List.mem_cons_of_mem _ hx) (List.sublist_cons_self _ _))) ?_
          rintro v7 _ _ ⟨rfl, rfl, hv7⟩
          have hv7 := hv7
          refine DWf.one 8 rfl rfl rfl rfl (by kernel_rfl) (by kernel_rfl) (HVf.appendRR (a := 0 + p.ss.length) (sz := 8) (m := 1) rfl rfl hv7 rfl rfl rfl (by decide) (by omega) (by omega) (fun _ => inferInstance)) rfl rfl rfl rfl (by rintro v Hs' O' ⟨rfl, rfl, _⟩ _ w hm; exact hm.sub (fun x hx => List.mem_cons_of_mem _ (SubH.h x hx)) SubO.h) ?_
          rintro v8 _ _ ⟨rfl, rfl, hv8⟩
          have hov8 := hv8.one1
          refine DWf.qF 9 rfl rfl (by kernel_rfl) (QF.buildPast rfl rfl ho1 hov8) (fun _ => QF.buildPast rfl rfl ho1 hov8) rfl rfl ?_
          refine DWf.take rfl (by kernel_rfl) rfl rfl rfl (fun b11 => ?_)
          simp only [List.cons_append, List.nil_append]
          refine DW.storeBS 11 rfl (by kernel_rfl) rfl rfl rfl (by simp [allOne, cellsL, one1]; exact ⟨ho1, hov8⟩) rfl inferInstance inferInstance ?_
          refine DW.done (by kernel_rfl) ?_
          simp only [repL, List.nil_append, Nat.zero_add] at hv8 ⊢
          refine Runs.weak (hj (v8, b11) hv8) (by repeat (first | exact trivial | refine And.intro rfl ?_)) (fun x hx => List.mem_cons_of_mem _ (SubH.h x hx)) (by repeat (first | exact List.nil_sublist _ | exact List.Sublist.refl _ | refine List.Sublist.cons_cons _ ?_ | refine List.Sublist.cons _ ?_))
        · skip
          rintro v7 _ _ ⟨rfl, rfl, hv7⟩
          refine DWf.one 5 rfl rfl rfl rfl (by kernel_rfl) (by kernel_rfl) (HVf.appendH (H := H1) (a := 0) (sz := 8) rfl rfl hsS hcS hcellS rfl rfl (by decide) (by omega) (by omega) (fun _ => inferInstance)) rfl rfl rfl rfl (by rintro v Hs' O' ⟨rfl, rfl, _⟩ _ w hm; exact hm.sub (fun x hx => List.mem_cons_of_mem _ (SubH.h x hx)) SubO.h) ?_
          rintro v5 _ _ ⟨rfl, rfl, hv5⟩
          have hv7 := hv7
          refine DWf.one 8 rfl rfl rfl rfl (by kernel_rfl) (by kernel_rfl) (HVf.appendRR (a := 0 + p.ss.length) (sz := 8) (m := 1) rfl rfl hv7 rfl rfl rfl (by decide) (by omega) (by omega) (fun _ => inferInstance)) rfl rfl rfl rfl (by rintro v Hs' O' ⟨rfl, rfl, _⟩ _ w hm; exact hm.sub (fun x hx => List.mem_cons_of_mem _ (SubH.h x hx)) SubO.h) ?_
          rintro v8 _ _ ⟨rfl, rfl, hv8⟩
          have hov8 := hv8.one1
          refine DWf.qF 9 rfl rfl (by kernel_rfl) (QF.buildPast rfl rfl ho1 hov8) (fun _ => QF.buildPast rfl rfl ho1 hov8) rfl rfl ?_
          refine DWf.take rfl (by kernel_rfl) rfl rfl rfl (fun b11 => ?_)
          simp only [List.cons_append, List.nil_append]
          refine DW.storeBS 11 rfl (by kernel_rfl) rfl rfl rfl (by simp [allOne, cellsL, one1]; exact ⟨ho1, hov8⟩) rfl inferInstance inferInstance ?_
          refine DW.done (by kernel_rfl) ?_
          simp only [repL, List.nil_append, Nat.zero_add] at hv8 ⊢
          refine Runs.weak (hj (v8, b11) hv8) (by repeat (first | exact trivial | refine And.intro rfl ?_)) (fun x hx => List.mem_cons_of_mem _ (SubH.h x hx)) (by repeat (first | exact List.nil_sublist _ | exact List.Sublist.refl _ | refine List.Sublist.cons_cons _ ?_ | refine List.Sublist.cons _ ?_))
      · skip
        rintro v7 _ _ ⟨rfl, rfl, hv7⟩
        refine DWf.one 2 rfl rfl rfl rfl (by kernel_rfl) (by kernel_rfl) (HVf.buildSlice rfl rfl rfl rfl rfl) rfl rfl rfl rfl (by rintro v Hs' O' ⟨rfl, rfl, _⟩ hsub w hm; exact hsub w (hm.sub (fun x hx => List.mem_cons_of_mem _ hx) (List.sublist_cons_self _ _))) ?_
        rintro v2 _ _ ⟨rfl, rfl, hv2⟩
        refine DWf.one 5 rfl rfl rfl rfl (by kernel_rfl) (by kernel_rfl) (HVf.appendH (H := H1) (a := 0) (sz := 8) rfl rfl hsS hcS hcellS rfl rfl (by decide) (by omega) (by omega) (fun _ => inferInstance)) rfl rfl rfl rfl (by rintro v Hs' O' ⟨rfl, rfl, _⟩ _ w hm; exact hm.sub (fun x hx => List.mem_cons_of_mem _ (SubH.h x hx)) SubO.h) ?_
        rintro v5 _ _ ⟨rfl, rfl, hv5⟩
        have hv7 := hv7
        refine DWf.one 8 rfl rfl rfl rfl (by kernel_rfl) (by kernel_rfl) (HVf.appendRR (a := 0 + p.ss.length) (sz := 8) (m := 1) rfl rfl hv7 rfl rfl rfl (by decide) (by omega) (by omega) (fun _ => inferInstance)) rfl rfl rfl rfl (by rintro v Hs' O' ⟨rfl, rfl, _⟩ _ w hm; exact hm.sub (fun x hx => List.mem_cons_of_mem _ (SubH.h x hx)) SubO.h) ?_
        rintro v8 _ _ ⟨rfl, rfl, hv8⟩
        have hov8 := hv8.one1
        refine DWf.qF 9 rfl rfl (by kernel_rfl) (QF.buildPast rfl rfl ho1 hov8) (fun _ => QF.buildPast rfl rfl ho1 hov8) rfl rfl ?_
        refine DWf.take rfl (by kernel_rfl) rfl rfl rfl (fun b11 => ?_)
        simp only [List.cons_append, List.nil_append]
        refine DW.storeBS 11 rfl (by kernel_rfl) rfl rfl rfl (by simp [allOne, cellsL, one1]; exact ⟨ho1, hov8⟩) rfl inferInstance inferInstance ?_
        refine DW.done (by kernel_rfl) ?_
        simp only [repL, List.nil_append, Nat.zero_add] at hv8 ⊢
        refine Runs.weak (hj (v8, b11) hv8) (by repeat (first | exact trivial | refine And.intro rfl ?_)) (fun x hx => List.mem_cons_of_mem _ (SubH.h x hx)) (by repeat (first | exact List.nil_sublist _ | exact List.Sublist.refl _ | refine List.Sublist.cons_cons _ ?_ | refine List.Sublist.cons _ ?_))
    rintro ⟨v8, b11⟩ hv8
    dsimp only at hv8 ⊢
    have hov8 := hv8.one1
    refine Runs.freeze (H := H3) v8 hM (fun HF hleF hsF hcF => ?_)
    have hle1F := (hle2.trans hle3).trans hleF
    have hrow : SliceRep HF StepL v8 (p.ss ++ [⟨s.app, s.id, s.e, true⟩]) := by
      exact SliceRep.of_row (H := HF) hsF (by simp) ((hcS.mono hle1F).append (CellsRep.one (L := StepL) (H := HF) (x := (⟨s.app, s.id, s.e, true⟩ : Stp)) (c := stpC ⟨s.app, s.id, s.e, true⟩) rfl)) (Snap.le.refl _) hcF
    repeat (first | refine a4 ?_ | refine a6 ?_ | refine s_loadBs ?_ | refine s_build ?_)
    refine RW.callV rfl (usame_c (H := HF) (a := (⟨p.ds, p.ss ++ [⟨s.app, s.id, s.e, true⟩]⟩, [], 0)) (b := (⟨p.ds, p.ss ++ [⟨s.app, s.id, s.e, true⟩]⟩, [], 0)) ⟨vd3, vs3, vl3, rfl, hd3.mono hleF, hs3.mono hleF, hl3.mono hleF⟩ ⟨vd, v8, .slice none 0 0, rfl, hd.mono hle1F, hrow, SliceRep.nil⟩) rfl rfl ?_
    rintro _ _ rfl
    rw [decide_eq_true rfl]
    repeat (first | refine a1 ?_ | refine a5 ?_)
    refine Runs.ret1 Try.func7 Try.results7 rfl (fun w hm => hR _ w _ H _ (List.mem_cons_self ..) (Snap.le.refl _) ?_ hm)
    rfl
end Go.Proofs.Ytbiohkncdlhigaa

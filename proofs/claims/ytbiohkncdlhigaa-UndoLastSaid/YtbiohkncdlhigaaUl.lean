/-
  Contracts: doing a step in a past. Conditions: valid documents, at most 900 steps, texts of at most 100000 bytes.
-/
import Derived.Test.YtbiohkncdlhigaaMUj
namespace Go.Proofs.Ytbiohkncdlhigaa
open Go Go.RowKit

section
variable {P : Program} {f : FuncId} {n : Nat} {E : Ent} {R : Value → World → Prop} {k : List Item} {Hs : List Snap} {O : List Own} {l : Env}
theorem QF.makeMethD {x : Operand} {s : Stp} (hx : opv l x = some (deedV s)) : QF Try.prog l (.makeFunc (.method "syllabary/undo.do") #[x] #[]) (.func (.method "syllabary/undo.do") #[deedV s] #[]) := by
  unfold deedV at *
  split
  · rename_i h; rw [if_pos h] at hx; exact QF.makeMeth hx
  · rename_i h; rw [if_neg h] at hx; exact QF.makeMeth hx
theorem QF.nilCheckD {x : Operand} {s : Stp} (hx : opv l x = some (.func (.method "syllabary/undo.do") #[deedV s] #[])) : QF Try.prog l (.nilCheck x) (.func (.method "syllabary/undo.do") #[deedV s] #[]) := by
  unfold deedV at *
  split
  · rename_i h; rw [if_pos h] at hx; exact QF.nilCheckMeth hx
  · rename_i h; rw [if_neg h] at hx; exact QF.nilCheckMeth hx
end
section
variable {f : FuncId} {n : Nat} {E : Ent} {R : Value → World → Prop} {k : List Item} {Hs : List Snap} {O : List Own} {l : Env} {L : List Oper} {d : Nat} {ty : TypeId} {pos : String} {aft : Array Edge} {g : Option (Nat × Bool)}
  {Hs0 : List Snap} {O0 : List Own} {lt : List Nat} {fuel : Nat} {listed : Array Bool} {j dj : Nat} {T : TypeId} {cs : List Value}
theorem DWf.deed (i : Nat) {zj : Value} [tj : TZero Try.prog T zj] {tyj : TypeId} {posj : String} {aftj : Array Edge} (hij : Nat.beq i j = false) (hj : opAt L j = some ⟨some dj, .alloc T, tyj, posj, aftj, none⟩) (hc : cellsO zj = some cs)
    (hrd : (Region.ready .any L.toArray listed == [i, j] || Region.ready .any L.toArray listed == [j, i]) = true) (hrd2 : (Region.ready .any L.toArray (listed.setIfInBounds j true) == [i]) = true)
    (hdj : Nat.blt dj n = true) (hnj : (efind l dj).isNone = true) {recv x : Operand} {ts : Array TypeId} {dc : Dc} {vm : Value} {s : Stp} {H : Snap} (hi : opAt L i = some ⟨some d, .call ⟨.invoke recv "syllabary/undo.do", #[x], ts⟩, ty, pos, aft, g⟩) (hg : guardIs L l g = some true) (hd : Nat.blt d n = true) (hf : opv l recv = some (deedV s)) (ha : opv l x = some (.agg #[str dc.tx, vm])) [hH : InH Hs H] (hm : SliceRep H MarkL vm dc.ms) (hv : validD dc) (ht : s.e.tx.length ≤ 100000)
    (h : ∀ v H', (∃ vd, v = .tuple #[vd, .int .i64 (stD dc s).2] ∧ DocR H' vd (stD dc s).1) → H.le H' → DWf Try.prog f n E R L Hs0 O0 lt j dj T cs fuel (listed.setIfInBounds i true) k (H' :: Hs) O ((d, v) :: l)) : DWf Try.prog f n E R L Hs0 O0 lt j dj T cs (fuel + 1) listed k Hs O l := by
  refine DWf.step i (post := fun v Hs' O1 => ∃ H', (∃ vd, v = .tuple #[vd, .int .i64 (stD dc s).2] ∧ DocR H' vd (stD dc s).1) ∧ H.le H' ∧ Hs' = H' :: Hs ∧ O1 = O) hij hi hj hc hrd hrd2 (HV.deed hf ha hm hv ht) (fun b o ho w hm2 a hρ next Q hn => ?_) hg hd hdj hnj ?_ ?_
  · refine (HV.deed (E := E) (Hs := Hs) (O := O ++ [.blk b T cs]) (opv_app hf) (opv_app ha) hm hv ht) o ho w hm2 a hρ next Q ?_
    rintro v w' Hs' O' ⟨H', h1, h2, rfl, rfl⟩ hm'
    exact hn v w' _ _ ⟨O, rfl, H', h1, h2, rfl, rfl⟩ hm'
  · rintro v Hs' O' ⟨H', _, _, rfl, rfl⟩ hsub w hm2
    exact hsub w (hm2.sub (fun x hx => List.mem_cons_of_mem _ (List.mem_cons_of_mem _ hx)) (List.Sublist.refl _))
  · rintro v Hs' O' ⟨H', h1, h2, rfl, rfl⟩
    exact h v H' h1 h2
theorem DWf.one (i : Nat) {op : Op} {post : Value → List Snap → List Own → Prop} {P : Program} {z : Value} [t : TZero P T z] {tyj : TypeId} {posj : String} {aftj : Array Edge} (hij : Nat.beq i j = false)
    (hi : opAt L i = some ⟨some d, op, ty, pos, aft, g⟩) (hj : opAt L j = some ⟨some dj, .alloc T, tyj, posj, aftj, none⟩) (hc : cellsO z = some cs)
    (hrd : (Region.ready .any L.toArray listed == [i, j] || Region.ready .any L.toArray listed == [j, i]) = true) (hrd2 : (Region.ready .any L.toArray (listed.setIfInBounds j true) == [i]) = true)
    (hq : HVf P E Hs O l dj T cs op post) (hg : guardIs L l g = some true) (hd : Nat.blt d n = true) (hdj : Nat.blt dj n = true) (hnj : (efind l dj).isNone = true)
    (hst : ∀ v Hs' O', post v Hs' O' → (∀ w, Mem E w Hs O → Mem E w Hs0 O0) → ∀ w, Mem E w Hs' O' → Mem E w Hs0 O0)
    (h : ∀ v Hs' O', post v Hs' O' → DWf P f n E R L Hs0 O0 lt j dj T cs fuel (listed.setIfInBounds i true) k Hs' O' ((d, v) :: l)) : DWf P f n E R L Hs0 O0 lt j dj T cs (fuel + 1) listed k Hs O l :=
  DWf.step i hij hi hj hc hrd hrd2 hq.one hq.two hg hd hdj hnj hst h
end
theorem QF.buildPast {l : Env} {x y : Operand} {vx vy : Value} (hx : opv l x = some vx) (hy : opv l y = some vy) (h1 : one1 vx = true) (h2 : one1 vy = true) : QF Try.prog l (.build 27 #[(0, x), (1, y)]) (.agg #[vx, vy]) :=
  QF.build (L := [(0, x), (1, y)]) (vs := [(0, vx), (1, vy)]) (cs := [vx, vy]) (by simp only [opvs, hx, hy]) (by
    have e1 := cellsL_one h1
    have e2 := cellsL_one h2
    simp only [fillL, e1, e2]
    rfl)
def nilP : Pst := ⟨[], []⟩
def doP (p : Pst) (s : Stp) : Pst × Int :=
  if s.app < 0 ∨ (p.ds.length : Int) ≤ s.app ∨ s.un = true ∨ s.id < -1 then (nilP, 1)
  else if 400 ≤ p.ss.length then (nilP, 2)
  else if p.ss.any (fun t => decide (0 ≤ s.id ∧ t.id = s.id)) = true then (nilP, 290)
  else if (stD (p.ds.getD s.app.toNat nilD) s).2 ≠ 0 then (nilP, (stD (p.ds.getD s.app.toNat nilD) s).2)
  else (⟨p.ds.set s.app.toNat (stD (p.ds.getD s.app.toNat nilD) s).1, p.ss ++ [s]⟩, 0)
theorem nilP_rep {H : Snap} : PastR H (.agg #[.slice none 0 0, .slice none 0 0]) nilP := ⟨_, _, rfl, SliceRep.nil, SliceRep.nil⟩
set_option maxHeartbeats 4000000 in
theorem udo_c {H : Snap} {vd vs : Value} {ds : List Dc} {ss : List Stp} {s : Stp} (hd : SliceRep H DocL vd ds) (hv : SliceRep H StepL vs ss) (hdv : ∀ d ∈ ds, validD d) (hdl : ds.length ≤ 100) (hsl : ss.length ≤ 900) (hts : s.e.tx.length ≤ 100000) :
    Pure Try.prog 21 #[.agg #[vd, vs], stpV s] H (fun H' r => ∃ v, r = .tuple #[v, .int .i64 (doP ⟨ds, ss⟩ s).2] ∧ PastR H' v (doP ⟨ds, ss⟩ s).1) := by
  have hbd := hv.isSl.bound
  have hbd2 := hd.isSl.bound
  have ho1 := hd.isSl.one1
  have ho2 := hv.isSl.one1
  have hisd := hd.isSl
  have hiss := hv.isSl
  obtain ⟨ap, sid, e, un⟩ := s
  dsimp only at hts
  have hdo : doP ⟨ds, ss⟩ ⟨ap, sid, e, un⟩ = doP ⟨ds, ss⟩ ⟨ap, sid, e, un⟩ := rfl
  conv at hdo => rhs; unfold doP
  dsimp only at hdo
  show Pure Try.prog 21 #[.agg #[vd, vs], .agg #[.int .i64 ap, .int .i64 sid, .int .i64 e.k, .int .i64 e.at_, .int .i64 e.len, .int .i64 e.to_, str e.tx, .bool un]] H _
  refine Pure.intro Try.func21 rfl Try.ntmps21 rfl (fun E R hM hR => ?_)
  repeat (first | refine a4 ?_ | refine a6 ?_)
  refine RW.box rfl rfl rfl rfl (fun b2 => ?_)
  refine RW.box rfl rfl rfl rfl (fun b3 => ?_)
  refine RW.alloc rfl rfl rfl (fun b4 => ?_)
  repeat (first | refine a1 ?_ | refine a4 ?_ | refine a5 ?_ | refine a6 ?_ | refine s_makeFunc ?_ | refine s_fieldB ?_ | refine s_loadB ?_)
  by_cases h1 : ap < 0
  · rw [if_pos (.inl h1)] at hdo
    rw [hdo] at hR
    rw [decide_eq_true h1]
    repeat (first | refine a1 ?_ | refine a3 ?_ | refine a4 ?_ | refine a5 ?_ | refine a6 ?_ | refine s_build ?_ | refine a7 ?_ | refine a9 ?_)
    refine Runs.retCT Try.func21 Try.results21 rfl rfl (fun w hm => hR _ w _ H _ (List.mem_cons_self ..) (Snap.le.refl _) ?_ hm)
    exact ⟨_, rfl, nilP_rep⟩
  rw [decide_eq_false h1]
  repeat (first | refine a1 ?_ | refine s_fieldB ?_ | refine s_loadB ?_ | refine s_len ?_)
  by_cases h2 : (ds.length : Int) ≤ ap
  · rw [if_pos (.inr (.inl h2))] at hdo
    rw [hdo] at hR
    rw [decide_eq_true h2]
    repeat (first | refine a1 ?_ | refine a3 ?_ | refine a4 ?_ | refine a5 ?_ | refine a6 ?_ | refine s_build ?_ | refine a7 ?_ | refine a9 ?_)
    refine Runs.retCT Try.func21 Try.results21 rfl rfl (fun w hm => hR _ w _ H _ (List.mem_cons_self ..) (Snap.le.refl _) ?_ hm)
    exact ⟨_, rfl, nilP_rep⟩
  rw [decide_eq_false h2]
  repeat (first | refine a1 ?_ | refine s_fieldB ?_ | refine s_loadB ?_)
  cases hun : un with
  | true =>
    rw [if_pos (.inr (.inr (.inl hun)))] at hdo
    subst hun
    rw [hdo] at hR
    repeat (first | refine a1 ?_ | refine a3 ?_ | refine a4 ?_ | refine a5 ?_ | refine a6 ?_ | refine s_build ?_ | refine a7 ?_ | refine a9 ?_)
    refine Runs.retCT Try.func21 Try.results21 rfl rfl (fun w hm => hR _ w _ H _ (List.mem_cons_self ..) (Snap.le.refl _) ?_ hm)
    exact ⟨_, rfl, nilP_rep⟩
  | false =>
  subst hun
  repeat (first | refine a1 ?_ | refine a5 ?_ | refine s_fieldB ?_ | refine s_loadB ?_)
  by_cases h4 : sid < -1
  · rw [if_pos (.inr (.inr (.inr h4)))] at hdo
    rw [hdo] at hR
    rw [decide_eq_true h4]
    repeat (first | refine a1 ?_ | refine a4 ?_ | refine a5 ?_ | refine a6 ?_ | refine s_build ?_ | refine a7 ?_ | refine a9 ?_)
    refine Runs.retCT Try.func21 Try.results21 rfl rfl (fun w hm => hR _ w _ H _ (List.mem_cons_self ..) (Snap.le.refl _) ?_ hm)
    exact ⟨_, rfl, nilP_rep⟩
  rw [decide_eq_false h4]
  rw [if_neg (by rintro (h | h | h | h) <;> first | omega | cases h)] at hdo
  obtain ⟨a, rfl⟩ : ∃ a : Nat, ap = (a : Int) := ⟨ap.toNat, by omega⟩
  rw [Int.toNat_natCast] at hdo
  repeat (first | refine a1 ?_ | refine a4 ?_ | refine a5 ?_ | refine a6 ?_ | refine s_fieldB ?_ | refine s_loadB ?_ | refine s_len ?_ | refine a8 ?_)
  by_cases h5 : 400 ≤ ss.length
  · rw [if_pos h5] at hdo
    rw [hdo] at hR
    rw [decide_eq_true (show (400 : Int) ≤ ss.length by omega)]
    repeat (first | refine a1 ?_ | refine a4 ?_ | refine a5 ?_ | refine a6 ?_ | refine s_build ?_ | refine a7 ?_ | refine a9 ?_)
    refine Runs.retCT Try.func21 Try.results21 rfl rfl (fun w hm => hR _ w _ H _ (List.mem_cons_self ..) (Snap.le.refl _) ?_ hm)
    exact ⟨_, rfl, nilP_rep⟩
  rw [decide_eq_false (show ¬ (400 : Int) ≤ ss.length by omega)]
  rw [if_neg h5] at hdo
  repeat (first | refine a1 ?_ | refine a4 ?_ | refine a6 ?_ | refine s_fieldB ?_ | refine s_loadB ?_ | refine a8 ?_)
  refine RW.callL (cap := []) rfl rfl (cfuncS_c (O := [.blk b3 33 (stpC ⟨(a : Int), sid, e, false⟩)]) (pcap := [.pointer (some ⟨b3, 0, none⟩)]) (q := fun t => decide (0 ≤ sid ∧ t.id = sid)) hv (fun H' t _ _ => used_c (s := ⟨(a : Int), sid, e, false⟩))) (by repeat (first | exact List.nil_sublist _ | exact List.Sublist.refl _ | refine List.Sublist.cons_cons _ ?_ | refine List.Sublist.cons _ ?_)) rfl rfl ?_
  rintro _ H2 rfl hle2
  cases hany : ss.any (fun t => decide (0 ≤ sid ∧ t.id = sid)) with
  | true =>
    rw [hany, if_pos rfl] at hdo
    rw [hdo] at hR
    repeat (first | refine a1 ?_ | refine a4 ?_ | refine a5 ?_ | refine a6 ?_ | refine s_build ?_ | refine a7 ?_ | refine a9 ?_)
    refine Runs.retCT Try.func21 Try.results21 rfl rfl (fun w hm => hR _ w _ H _ (List.mem_cons_self ..) (Snap.le.refl _) ?_ hm)
    exact ⟨_, rfl, nilP_rep⟩
  | false =>
  rw [hany, if_neg (by simp)] at hdo
  obtain ⟨d, hda⟩ : ∃ d, ds[a]? = some d := ⟨_, List.getElem?_eq_getElem (by omega)⟩
  have hgd : ds.getD a nilD = d := by rw [List.getD_eq_getElem?_getD, hda]; rfl
  rw [hgd] at hdo
  obtain ⟨vm, hvm, hcell⟩ := hd.dc hda
  have hvd := hdv d (List.mem_of_getElem? hda)
  have hovm := hvm.isSl.one1
  repeat (first | refine a1 ?_ | refine a4 ?_ | refine a5 ?_ | refine a8 ?_)
  refine Runs.regionD _ _ [16] (fun x hx => List.mem_cons_of_mem _ hx) (List.Sublist.refl _) (by kernel_rfl) ?_
  refine t_loadBs 0 ?_
  refine t_fieldB 2 ?_
  refine t_loadB 3 ?_
  refine t_fieldB 4 ?_
  refine t_loadB 5 ?_
  refine t_index 6 ?_
  refine t_loadHs 7 ?_
  refine DW.float 15 rfl rfl ?_
  refine DWf.call 1 rfl rfl rfl (by kernel_rfl) (by kernel_rfl) rfl rfl rfl rfl rfl rfl (deedOf_c (H := H) (s := ⟨(a : Int), sid, e, false⟩)) ?_
  rintro _ H3 rfl hle3
  refine DWf.qF 8 rfl rfl (by kernel_rfl) (QF.makeMethD rfl) (fun _ => QF.makeMethD rfl) rfl rfl ?_
  refine DWf.qF 9 rfl rfl (by kernel_rfl) (QF.nilCheckD rfl) (fun _ => QF.nilCheckD rfl) rfl rfl ?_
  refine DWf.qF 10 rfl rfl (by kernel_rfl) (qev_eq rfl) (fun _ => qev_eq rfl) rfl rfl ?_
  refine DWf.deed 11 rfl rfl rfl (by kernel_rfl) (by kernel_rfl) rfl rfl rfl rfl rfl (s := ⟨(a : Int), sid, e, false⟩) (dc := d) rfl rfl hvm hvd hts ?_
  rintro _ H4 ⟨vx, rfl, hrx⟩ hle4
  obtain ⟨vm2, rfl, hrm⟩ := hrx
  have hro2 := hrm.isSl.one1
  refine DWf.qF 12 rfl rfl (by kernel_rfl) (qev_eq rfl) (fun _ => qev_eq rfl) rfl rfl ?_
  refine DWf.qF 13 rfl rfl (by kernel_rfl) (qev_eq rfl) (fun _ => qev_eq rfl) rfl rfl ?_
  refine DWf.qF 14 rfl rfl (by kernel_rfl) (qev_eq rfl) (fun _ => qev_eq rfl) rfl rfl ?_
  refine DWf.take rfl (by kernel_rfl) rfl rfl rfl (fun b7 => ?_)
  simp only [List.cons_append, List.nil_append]
  refine DW.storeB 16 rfl (by kernel_rfl) rfl rfl rfl rfl (by first | rfl | (simp [allOne, cellsL, one1]; done) | (simp [allOne, cellsL, one1]; first | assumption | (refine ⟨?_, ?_⟩ <;> assumption) | (refine ⟨?_, ?_, ?_⟩ <;> assumption))) rfl ?_
  refine d2 17 ?_
  refine DW.done (by kernel_rfl) ?_
  repeat (first | refine a1 ?_ | refine a4 ?_ | refine a5 ?_ | refine a6 ?_)
  refine Runs.cond_d rfl (fun h0 => ?_) (fun h0 => ?_)
  · rw [if_pos h0] at hdo
    rw [hdo] at hR
    repeat (first | refine a1 ?_ | refine a4 ?_ | refine a5 ?_ | refine a6 ?_ | refine s_build ?_ | refine a9 ?_)
    refine Runs.retCT Try.func21 Try.results21 rfl rfl (fun w hm => hR _ w _ H _ (List.mem_cons_self ..) (Snap.le.refl _) ?_ hm)
    exact ⟨_, rfl, nilP_rep⟩
  rw [if_neg h0] at hdo
  rw [hdo] at hR
  have hd4 := hd.mono hle4
  repeat (first | refine a4 ?_ | refine a6 ?_ | refine s_fieldB ?_ | refine s_loadB ?_)
  refine RW.callO rfl rfl (cloneD_c (H := H4) hd4 (by omega)) rfl rfl ?_
  rintro v66 H5 _ ⟨xs, rfl, hcx, hs66⟩ hle5
  dsimp only [List.cons_append, List.nil_append]
  have ho66 := hs66.one1
  repeat (first | refine a1 ?_ | refine a4 ?_ | refine a5 ?_ | refine a6 ?_ | refine s_fieldB ?_ | refine s_loadB ?_ | refine s_loadBs ?_ | refine s_index ?_)
  obtain ⟨xs', hp, hcx'⟩ := hcx.put (k := a) (s := 2) (c := [str (stD d ⟨(a : Int), sid, e, false⟩).1.tx, vm2]) (by omega) rfl ⟨vm2, rfl, hrm⟩
  refine RW.storeR rfl rfl hp rfl (by simp [allOne, cellsL, one1]; assumption) rfl ?_
  repeat (first | refine a1 ?_ | refine a4 ?_ | refine a5 ?_ | refine a6 ?_ | refine s_fieldB ?_ | refine s_loadB ?_ | refine s_loadBs ?_)
  refine RW.buildSlice rfl rfl rfl rfl rfl rfl rfl (fun v76 h76 => ?_)
  have ho76 := h76.one1
  skip
  refine RW.buildSlice (cs := [vs, v76]) rfl rfl rfl rfl (by have e1 := cellsL_one ho2; have e2 := cellsL_one ho76; simp only [fillL, e1, e2]; rfl) rfl rfl (fun v77 h77 => ?_)
  refine RW.freeze (H := H5) v76 hM (fun HA hleA hsA hcA => ?_)
  refine RW.freeze (H := HA) v77 hM (fun HB hleB hsB hcB => ?_)
  have hr76 : SliceRep HB StepL v76 [⟨(a : Int), sid, e, false⟩] := SliceRep.of_row (H := HA) hsA rfl ⟨stpC ⟨(a : Int), sid, e, false⟩, [], by simp [repL], rfl, rfl⟩ hleB (fun j u hu => hleB.cell (hcA j u hu))
  have hvv : SliceRep HB (SlL StepL) v77 [ss, [⟨(a : Int), sid, e, false⟩]] := SliceRep.of_row (H := HB) hsB rfl ⟨[vs], [v76], rfl, ⟨vs, rfl, hv.mono ((hle4.trans hle5).trans (hleA.trans hleB))⟩, ⟨[v76], [], rfl, ⟨v76, rfl, hr76⟩, rfl⟩⟩ (Snap.le.refl _) hcB
  refine RW.callO rfl rfl (concat_c hvv (by simp; omega)) rfl rfl ?_
  rintro v78 HC _ ⟨rfl, hs78⟩ hleC
  dsimp only [List.cons_append, List.nil_append]
  have ho78 := hs78.one1
  skip
  refine RW.q (QF.buildPast rfl rfl ho66 ho78).qv rfl rfl ?_
  repeat (first | refine a1 ?_ | refine a5 ?_ | refine a9 ?_)
  refine Runs.freeze (H := HC) v66 hM (fun HD hleD hsD hcD => ?_)
  refine Runs.freeze (H := HD) v78 hM (fun HE hleE hsE hcE => ?_)
  refine Runs.retCT Try.func21 Try.results21 rfl rfl (fun w hm => hR _ w _ HE _ (by simp) ((((hle4.trans hle5).trans (hleA.trans hleB)).trans ((hleC.trans hleD).trans hleE))) ?_ hm)
  refine ⟨_, rfl, v66, v78, rfl, SliceRep.of_row (H := H4) hsD (by simp) hcx' (((hle5.trans (hleA.trans hleB)).trans (hleC.trans hleD)).trans hleE) (fun j u hu => hleE.cell (hcD j u hu)), ?_⟩
  have e9 : ([ss, [⟨(a : Int), sid, e, false⟩]] : List (List Stp)).flatten = ss ++ [⟨(a : Int), sid, e, false⟩] := by simp
  rw [e9] at hsE hcE
  exact SliceRep.of_row (H := HE) hsE rfl (stCs_rep HE _) (Snap.le.refl _) hcE
end Go.Proofs.Ytbiohkncdlhigaa

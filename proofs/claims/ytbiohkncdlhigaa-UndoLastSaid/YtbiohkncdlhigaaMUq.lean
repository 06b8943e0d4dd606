/-
  Contracts: the reference's list of the steps that a commit depends on. Conditions: the chain of the commit's mark is of possible edits.
  Contracts: what undoing sets in the steps behind a commit; the plain side of undoing as a function. Conditions: a good past.
-/
import Derived.Test.YtbiohkncdlhigaaMUo
namespace Go.Proofs.Ytbiohkncdlhigaa
open Go Go.RowKit

theorem dep_skip {a : Int} {k : Nat} {m : Mk} {s : Stp} {B : List Stp} (h : skipS a s) : depL a k m (s :: B) = depL a (k + 1) m B := by unfold depL; rw [fol_skip h]
theorem dep_ok {a : Int} {k : Nat} {m : Mk} {s : Stp} {B : List Stp} (h : ¬ skipS a s) (h2 : (carryM m s.e).2 = true) : depL a k m (s :: B) = (if (carryM m s.e).1.wh = true then [] else [(k : Int)]) ++ depL a (k + 1) (wM (carryM m s.e).1) B := by
  unfold depL
  rw [fol_ok h h2, badL_cons]
  split <;> rfl
theorem dep_no {a : Int} {k : Nat} {m : Mk} {s : Stp} {B : List Stp} (h : ¬ skipS a s) (h2 : (carryM m s.e).2 = false) : depL a k m (s :: B) = [(k : Int)] := by
  unfold depL
  rw [fol_no h h2, badL_cons, if_neg (fun h3 => by rw [(carryM_wh h3).2] at h2; cases h2)]
  rfl
theorem dep_len {a : Int} {B : List Stp} {k : Nat} {m : Mk} : (depL a k m B).length ≤ B.length := Nat.le_trans (badL_len _) fol_len
set_option maxHeartbeats 4000000 in
theorem rdepends_c {H : Snap} {vd vs : Value} {ds : List Dc} {ss : List Stp} {i : Int} (hd : SliceRep H DocL vd ds) (hv : SliceRep H StepL vs ss) (hsl : ss.length ≤ 900) (hch : chP ss) (ht : ∀ s ∈ ss, s.e.tx.length ≤ 100000) :
    Pure Try.prog 23 #[.agg #[vd, vs], .int .i64 i] H (fun H' r => ∃ v, r = .tuple #[v, .int .i64 (depP ss i).2] ∧ SliceRep H' I64 v (depP ss i).1) := by
  have ho1 := hd.isSl.one1
  have ho2 := hv.isSl.one1
  have hisd := hd.isSl
  have hiss := hv.isSl
  have hdp : depP ss i = depP ss i := rfl
  conv at hdp => rhs; unfold depP
  refine Pure.intro Try.func23 rfl Try.ntmps23 rfl (fun E R hM hR => ?_)
  repeat (first | refine a4 ?_ | refine a6 ?_)
  refine RW.box rfl rfl rfl rfl (fun b2 => ?_)
  repeat (first | refine a1 ?_ | refine a4 ?_ | refine a5 ?_ | refine a6 ?_ | refine s_loadBs ?_)
  refine RW.callV rfl (rcommit_c (H := H) (i := i) hd hv) rfl rfl ?_
  rintro _ _ rfl
  repeat (first | refine a1 ?_ | refine a5 ?_)
  cases hcb : comB ss i with
  | false =>
    rw [hcb, if_neg (by simp)] at hdp
    rw [hdp] at hR
    repeat (first | refine a1 ?_ | refine a4 ?_ | refine a5 ?_ | refine a6 ?_ | refine a7 ?_)
    refine Runs.ret2 Try.func23 Try.results23 rfl rfl (fun w hm => hR _ w _ H _ (List.mem_cons_self ..) (Snap.le.refl _) ?_ hm)
    exact ⟨_, rfl, SliceRep.nil⟩
  | true =>
    rw [hcb, if_pos rfl] at hdp
    obtain ⟨k0, s, rfl, hs, hs0, hsu⟩ := comB_some hcb
    rw [Int.toNat_natCast, hs] at hdp
    dsimp only at hdp
    rw [hdp] at hR
    obtain ⟨hc1, hc2⟩ := hch k0 s hs hs0 hsu
    have hc3 := chOK_rid (j := 0) (Int.le_refl _) hc1
    rw [← dep_rid (j := 0)] at hR
    have hm0 : ridM 0 (markS s) = ⟨0, s.e.at_, s.e.at_ + s.e.tx.length, true⟩ := rfl
    rw [hm0] at hR hc3
    have hts := ht s (List.mem_of_getElem? hs)
    have hs8 := hv.st hs
    have hi := (List.getElem?_eq_some_iff.1 hs).1
    have hAt : H.cell (vat vs (k0 * 8 + 2 + 1)) = some (.int .i64 s.e.at_) := hv.stE hs 1 _ rfl
    have hTx : H.cell (vat vs (k0 * 8 + 2 + 4)) = some (str s.e.tx) := hv.stE hs 4 _ rfl
    have hfl := dep_len (a := s.app) (B := ss.drop (k0 + 1)) (k := k0 + 1) (m := ⟨0, s.e.at_, s.e.at_ + s.e.tx.length, true⟩)
    rw [List.length_drop] at hfl
    unfold smallI at hc2
    repeat (first | refine a4 ?_ | refine a8 ?_)
    refine Runs.regionD _ _ [] (fun x hx => List.mem_cons_of_mem _ hx) (List.Sublist.refl _) (by kernel_rfl) ?_
    refine t_fieldB 1 ?_
    refine t_loadB 2 ?_
    refine d2 3 ?_
    refine t_index 4 ?_
    refine t_fieldV 5 ?_
    refine t_loadH 6 ?_
    refine DW.buildSlice 0 rfl (by kernel_rfl) rfl rfl rfl rfl rfl rfl rfl (fun v16 h16 => ?_)
    refine d1 7 2 ?_
    refine DW.done (by kernel_rfl) ?_
    repeat (refine a4 ?_)
    refine Runs.regionD _ _ [25] (fun x hx => List.mem_cons_of_mem _ hx) (List.Sublist.refl _) (by kernel_rfl) ?_
    refine t_fieldB 0 ?_
    refine t_loadB 1 ?_
    refine d2 2 ?_
    refine t_index 3 ?_
    refine t_fieldV 4 ?_
    refine t_fieldV 5 ?_
    refine t_loadH 6 ?_
    refine t_fieldB 7 ?_
    refine t_loadB 8 ?_
    refine d2 9 ?_
    refine t_index 10 ?_
    refine t_fieldV 11 ?_
    refine t_fieldV 12 ?_
    refine t_loadH 13 ?_
    refine t_fieldB 14 ?_
    refine t_loadB 15 ?_
    refine d2 16 ?_
    refine t_index 17 ?_
    refine t_fieldV 18 ?_
    refine t_fieldV 19 ?_
    refine t_loadH 20 ?_
    refine t_lenS 21 ?_
    refine t_addI 22 ?_
    refine t_build 23 ?_
    refine DW.alloc 24 rfl (by kernel_rfl) rfl rfl rfl (fun b8 => ?_)
    refine DW.storeB 25 rfl (by kernel_rfl) rfl rfl rfl rfl (by first | rfl | (simp [allOne, cellsL, one1]; done) | (simp [allOne, cellsL, one1]; first | assumption | (refine ⟨?_, ?_⟩ <;> assumption) | (refine ⟨?_, ?_, ?_⟩ <;> assumption))) rfl ?_
    refine DW.done (by kernel_rfl) ?_
    repeat (first | refine a1 ?_ | refine a4 ?_ | refine a5 ?_ | refine a6 ?_ | refine s_addI ?_)
    refine Runs.loop (fun u : Nat × Mk × List Int × Value => k0 + 1 ≤ u.1 ∧ u.1 ≤ ss.length ∧ IsSl u.2.2.2 u.2.2.1.length ∧ depL s.app (k0 + 1) ⟨0, s.e.at_, s.e.at_ + s.e.tx.length, true⟩ (ss.drop (k0 + 1)) = u.2.2.1 ++ depL s.app u.1 u.2.1 (ss.drop u.1) ∧ chOK s.app u.2.1 (ss.drop u.1)) (fun u => ss.length - u.1) (fun _ => [H]) (fun u => [.blk b8 44 (mkC u.2.1), .row 3 1 u.2.2.2 u.2.2.1.length (encI u.2.2.1), .blk b2 27 [vd, vs]]) (fun u => [(2, .pointer (some ⟨b2, 0, none⟩)), (6, u.2.2.2), (7, .int .i64 s.app), (8, .pointer (some ⟨b8, 0, none⟩)), (9, .int .i64 (u.1 : Int))]) (k0 + 1, ⟨0, s.e.at_, s.e.at_ + s.e.tx.length, true⟩, [], v16) ⟨Nat.le_refl _, by dsimp only; omega, h16, rfl, hc3⟩
      (fun h => by refine Runs.weak (h) (by repeat (first | exact trivial | refine And.intro rfl ?_)) (fun x hx => List.mem_cons_of_mem _ (SubH.h x hx)) (by repeat (first | exact List.nil_sublist _ | exact List.Sublist.refl _ | refine List.Sublist.cons_cons _ ?_ | refine List.Sublist.cons _ ?_))) ?_
    rintro ⟨k, m, l, vl⟩ ⟨hk1, hk2, hsl2, hfol, hck⟩ ih
    dsimp only at hk1 hk2 hsl2 hfol hck ih ⊢
    have hlen : l.length ≤ 900 := by rw [hfol, List.length_append] at hfl; omega
    have hovl := hsl2.one1
    repeat (first | refine a1 ?_ | refine a4 ?_ | refine a5 ?_ | refine a6 ?_ | refine s_fieldB ?_ | refine s_loadB ?_ | refine s_len ?_)
    by_cases hlt : (k : Int) < (ss.length : Int)
    · rw [decide_eq_true hlt]
      obtain ⟨t, htk⟩ : ∃ t, ss[k]? = some t := ⟨_, List.getElem?_eq_getElem (by omega)⟩
      have ht8 := hv.st htk
      have htE := hv.stE htk
      rw [drop_at htk] at hfol hck
      repeat (first | refine a1 ?_ | refine a4 ?_ | refine a6 ?_ | refine s_fieldB ?_ | refine s_fieldV ?_ | refine s_loadB ?_ | refine s_loadH ?_ | refine s_index ?_ | refine a7 ?_)
      by_cases c1 : t.app = s.app
      · rw [decide_eq_false (show ¬ t.app ≠ s.app by simpa using c1)]
        repeat (first | refine a1 ?_ | refine a5 ?_ | refine s_fieldB ?_ | refine s_fieldV ?_ | refine s_loadB ?_ | refine s_loadH ?_ | refine s_index ?_)
        cases hun : t.un with
        | true =>
          have hsk : skipS s.app t := .inr hun
          repeat (first | refine a1 ?_ | refine a4 ?_ | refine a5 ?_ | refine a6 ?_ | refine s_addI ?_ | refine a7 ?_)
          rw [dep_skip hsk] at hfol
          rw [chOK, if_pos hsk] at hck
          skip
          refine Runs.weak (ih (k + 1, m, l, vl) ⟨by dsimp only; omega, by dsimp only; omega, hsl2, hfol, hck⟩ (by dsimp only; omega)) (by repeat (first | exact trivial | refine And.intro rfl ?_)) (fun x hx => List.mem_cons_of_mem _ (SubH.h x hx)) (by repeat (first | exact List.nil_sublist _ | exact List.Sublist.refl _ | refine List.Sublist.cons_cons _ ?_ | refine List.Sublist.cons _ ?_))
        | false =>
          have hnsk : ¬ skipS s.app t := by
            rintro (h | h)
            · exact h c1
            · rw [hun] at h; cases h
          rw [chOK, if_neg hnsk] at hck
          obtain ⟨⟨n, hn1, hn2, hmk, hpo⟩, hck⟩ := hck
          repeat (first | refine a4 ?_ | refine a8 ?_)
          refine Runs.regionD _ _ [12] (fun x hx => List.mem_cons_of_mem _ hx) (List.Sublist.refl _) (by kernel_rfl) ?_
          refine t_loadBs 0 ?_
          refine t_fieldB 1 ?_
          refine t_loadB 2 ?_
          refine d2 3 ?_
          refine t_index 4 ?_
          refine t_fieldV 5 ?_
          refine DW.q 6 rfl (by kernel_rfl) (QV.loadHs (c := edC t.e) rfl htE) rfl rfl ?_
          refine DW.float 11 rfl rfl ?_
          refine DWf.call 7 rfl rfl rfl (by kernel_rfl) (by kernel_rfl) rfl rfl rfl rfl rfl rfl (rcarry_c (H := H) (m := m) (e := t.e) hmk hpo (by omega)) ?_
          rintro _ H2 rfl hle2
          refine DWf.qF 8 rfl rfl (by kernel_rfl) (qev_eq rfl) (fun _ => qev_eq rfl) rfl rfl ?_
          refine DWf.qF 9 rfl rfl (by kernel_rfl) (qev_eq rfl) (fun _ => qev_eq rfl) rfl rfl ?_
          refine DWf.qF 10 rfl rfl (by kernel_rfl) (qev_eq rfl) (fun _ => qev_eq rfl) rfl rfl ?_
          refine DWf.take rfl (by kernel_rfl) rfl rfl rfl (fun b10 => ?_)
          simp only [List.cons_append, List.nil_append]
          refine DW.storeB 12 rfl (by kernel_rfl) rfl rfl rfl rfl (by first | rfl | (simp [allOne, cellsL, one1]; done) | (simp [allOne, cellsL, one1]; first | assumption | (refine ⟨?_, ?_⟩ <;> assumption) | (refine ⟨?_, ?_, ?_⟩ <;> assumption))) rfl ?_
          refine d2 13 ?_
          refine DW.done (by kernel_rfl) ?_
          repeat (first | refine a1 ?_ | refine a4 ?_ | refine a5 ?_ | refine a6 ?_)
          cases hok : (carryM m t.e).2 with
          | false =>
            rw [dep_no hnsk hok] at hfol
            repeat (first | refine a1 ?_ | refine a4 ?_ | refine a6 ?_ | refine a7 ?_)
            refine RW.buildSlice rfl rfl rfl rfl rfl rfl rfl (fun v87 h87 => ?_)
            skip
            refine RW.appendR rfl rfl (by assumption) rfl rfl rfl (by decide) (by omega) (by omega) (fun _ => inferInstance) rfl rfl (fun v88 h88 => ?_)
            repeat (first | refine a1 ?_ | refine a5 ?_)
            refine Runs.freeze (H := H) v88 hM (fun H3 hle3 hs3 hc3 => ?_)
            refine Runs.ret2 Try.func23 Try.results23 rfl rfl (fun w hm => hR _ w _ H3 _ (by simp) (hle3) ?_ hm)
            refine ⟨_, rfl, ?_⟩
            rw [hfol]
            refine SliceRep.of_row (H := H3) hs3 (by simp) (encI_rep H3 _) (Snap.le.refl _) ?_
            rw [encI_snoc]
            exact hc3
          | true =>
            rw [dep_ok hnsk hok] at hfol
            have hck := hck hok
            repeat (first | refine a1 ?_ | refine a4 ?_ | refine a5 ?_ | refine a6 ?_ | refine s_fieldB ?_ | refine s_loadB ?_ | refine a8 ?_)
            cases hwh : (carryM m t.e).1.wh with
            | true =>
              rw [hwh, if_pos rfl, List.nil_append] at hfol
              repeat (first | refine a1 ?_ | refine a4 ?_ | refine a5 ?_ | refine a6 ?_ | refine s_loadBs ?_ | refine s_fieldB ?_ | refine s_addI ?_ | refine a8 ?_ | refine a9 ?_)
              refine Runs.weak (ih (k + 1, wM (carryM m t.e).1, l, vl) ⟨by dsimp only; omega, by dsimp only; omega, hsl2, hfol, hck⟩ (by dsimp only; omega)) (by repeat (first | exact trivial | refine And.intro rfl ?_)) (fun x hx => List.mem_cons_of_mem _ (SubH.h x hx)) (by repeat (first | exact List.nil_sublist _ | exact List.Sublist.refl _ | refine List.Sublist.cons_cons _ ?_ | refine List.Sublist.cons _ ?_))
            | false =>
              rw [hwh, if_neg (by simp), ← List.append_assoc] at hfol
              repeat (first | refine a1 ?_ | refine a6 ?_ | refine a7 ?_)
              refine RW.buildSlice rfl rfl rfl rfl rfl rfl rfl (fun v94 h94 => ?_)
              skip
              refine RW.appendR rfl rfl (by assumption) rfl rfl rfl (by decide) (by omega) (by omega) (fun _ => inferInstance) rfl rfl (fun v95 h95 => ?_)
              have h95' : IsSl v95 (l ++ [(k : Int)]).length := by rw [List.length_append]; exact h95
              have ih2 := ih (k + 1, wM (carryM m t.e).1, l ++ [(k : Int)], v95) ⟨by dsimp only; omega, by dsimp only; omega, h95', hfol, hck⟩ (by dsimp only; omega)
              dsimp only at ih2
              rw [encI_snoc, List.length_append] at ih2
              repeat (first | refine a1 ?_ | refine a4 ?_ | refine a5 ?_ | refine a6 ?_ | refine s_loadBs ?_ | refine s_fieldB ?_ | refine s_addI ?_ | refine a9 ?_)
              refine Runs.weak (ih2) (by repeat (first | exact trivial | refine And.intro rfl ?_)) (fun x hx => List.mem_cons_of_mem _ (SubH.h x hx)) (by repeat (first | exact List.nil_sublist _ | exact List.Sublist.refl _ | refine List.Sublist.cons_cons _ ?_ | refine List.Sublist.cons _ ?_))
      · rw [decide_eq_true (show t.app ≠ s.app from c1)]
        have hsk : skipS s.app t := .inl c1
        repeat (first | refine a1 ?_ | refine a3 ?_ | refine a4 ?_ | refine a5 ?_ | refine a6 ?_ | refine s_addI ?_ | refine a7 ?_)
        rw [dep_skip hsk] at hfol
        rw [chOK, if_pos hsk] at hck
        skip
        refine Runs.weak (ih (k + 1, m, l, vl) ⟨by dsimp only; omega, by dsimp only; omega, hsl2, hfol, hck⟩ (by dsimp only; omega)) (by repeat (first | exact trivial | refine And.intro rfl ?_)) (fun x hx => List.mem_cons_of_mem _ (SubH.h x hx)) (by repeat (first | exact List.nil_sublist _ | exact List.Sublist.refl _ | refine List.Sublist.cons_cons _ ?_ | refine List.Sublist.cons _ ?_))
    · rw [decide_eq_false hlt]
      have hk3 : ss.drop k = [] := List.drop_eq_nil_of_le (by omega)
      rw [hk3] at hfol
      have hfol : depL s.app (k0 + 1) ⟨0, s.e.at_, s.e.at_ + s.e.tx.length, true⟩ (ss.drop (k0 + 1)) = l := by rw [hfol]; exact List.append_nil l
      repeat (first | refine a1 ?_ | refine a4 ?_ | refine a5 ?_ | refine a6 ?_ | refine a8 ?_)
      refine Runs.freeze (H := H) vl hM (fun H3 hle3 hs3 hc3 => ?_)
      refine Runs.ret2 Try.func23 Try.results23 rfl rfl (fun w hm => hR _ w _ H3 _ (by simp) (hle3) ?_ hm)
      refine ⟨_, rfl, ?_⟩
      rw [hfol]
      exact SliceRep.of_row (H := H3) hs3 rfl (encI_rep H3 _) (Snap.le.refl _) hc3
end Go.Proofs.Ytbiohkncdlhigaa
namespace Go.Proofs.Ytbiohkncdlhigaa
open Go Go.RowKit

theorem good_ch {p : Pst} (hg : GoodP p) : chP p.ss := fun i s hs h0 hu => by
  obtain ⟨d1, d2, D, r1, q1, e2, hv2, hmem, hok, r2, _⟩ := undo_run hg hs h0 hu
  have hp := (stD_ok q1).1.nums
  have hv1 := runS_valid nilD_valid r1
  have := hv1.2.1
  exact ⟨chOK_run hok hv2.2.1 r2, by unfold smallI; omega⟩
theorem good_valid {p : Pst} (hg : GoodP p) : ∀ d ∈ p.ds, validD d := fun d hd => by
  obtain ⟨a, ha⟩ := List.getElem?_of_mem hd
  have hlt := (List.getElem?_eq_some_iff.1 ha).1
  obtain ⟨d', h1, h2⟩ := hg.run a hlt
  rw [h1] at ha
  rw [← Option.some.inj ha]
  exact runS_valid nilD_valid h2
def undoP (p : Pst) (i : Int) : Pst × List Int × Int :=
  if comB p.ss i = true then (match p.ss[i.toNat]? with
    | some s => if depL s.app (i.toNat + 1) (markS s) (p.ss.drop (i.toNat + 1)) = [] then (undP p i.toNat s, [], 0) else (nilP, depL s.app (i.toNat + 1) (markS s) (p.ss.drop (i.toNat + 1)), 320)
    | none => (nilP, [], 1)) else (nilP, [], 1)
theorem fol_ev {a : Int} : ∀ {B : List Stp} {k : Nat} {m : Mk} {x : Evt}, chOK a m B → x ∈ folL a k m B → ∃ j s, B[j]? = some s ∧ x.1 = k + j ∧ ∃ n : Int, 0 ≤ n ∧ n ≤ 400 ∧ okM n x.2.1 ∧ possE s.e n
  | [], _, _, _, _, h => by simp [folL] at h
  | s :: B, k, m, x, hc, h => by
    by_cases c : skipS a s
    · rw [folL, if_pos c] at h
      rw [chOK, if_pos c] at hc
      obtain ⟨j, t, g1, g2, g3⟩ := fol_ev hc h
      exact ⟨j + 1, t, g1, by omega, g3⟩
    · rw [folL, if_neg c] at h
      rw [chOK, if_neg c] at hc
      rcases List.mem_cons.1 h with rfl | h
      · exact ⟨0, s, rfl, rfl, hc.1⟩
      · split at h
        · rename_i hok
          obtain ⟨j, t, g1, g2, g3⟩ := fol_ev (hc.2 hok) h
          exact ⟨j + 1, t, g1, by omega, g3⟩
        · simp at h
theorem stCs_split {ss : List Stp} {k : Nat} {s : Stp} (hs : ss[k]? = some s) : stCs ss = stCs (ss.take k) ++ (stpC s ++ stCs (ss.drop (k + 1))) := by
  conv => lhs; rw [ssplit hs]
  simp [stCs]
theorem stCs_at {ss : List Stp} {k : Nat} {s : Stp} (hs : ss[k]? = some s) : ∀ j u, (stpC s)[j]? = some u → (stCs ss)[k * 8 + j]? = some u := fun j u hu => by
  have hk := (List.getElem?_eq_some_iff.1 hs).1
  have hj : j < 8 := (List.getElem?_eq_some_iff.1 hu).1
  have hl : (stCs (ss.take k)).length = k * 8 := by rw [stCs_len, List.length_take]; omega
  rw [stCs_split hs, List.getElem?_append_right (by omega), hl, Nat.add_sub_cancel_left, List.getElem?_append_left (by simpa using hj)]
  exact hu
theorem set_split {ss : List Stp} {k : Nat} (hk : k < ss.length) (t : Stp) : stCs (ss.set k t) = stCs (ss.take k) ++ (stpC t ++ stCs (ss.drop (k + 1))) := by
  rw [List.set_eq_take_append_cons_drop, if_pos hk]
  simp [stCs]
theorem stCs_ed {ss : List Stp} {k : Nat} {s : Stp} (hs : ss[k]? = some s) (e : Ed) : putAll (stCs ss) (k * 8 + 2) (edC e) = some (stCs (ss.set k ⟨s.app, s.id, e, s.un⟩)) := by
  have hk := (List.getElem?_eq_some_iff.1 hs).1
  have hl : (stCs (ss.take k)).length = k * 8 := by rw [stCs_len, List.length_take]; omega
  have h := putAll_mid (edC e) (edC s.e) (stCs (ss.take k) ++ [.int .i64 s.app, .int .i64 s.id]) ([Value.bool s.un] ++ stCs (ss.drop (k + 1))) rfl
  rw [List.length_append, hl] at h
  rw [stCs_split hs, set_split hk]
  simpa using h
theorem stCs_un {ss : List Stp} {k : Nat} {s : Stp} (hs : ss[k]? = some s) (b : Bool) : setAt (stCs ss) (k * 8 + 7) (.bool b) = some (stCs (ss.set k ⟨s.app, s.id, s.e, b⟩)) := by
  have hk := (List.getElem?_eq_some_iff.1 hs).1
  have hl : (stCs (ss.take k)).length = k * 8 := by rw [stCs_len, List.length_take]; omega
  rw [setAt_set _ _ _ (by rw [stCs_len]; omega), stCs_split hs, set_split hk, List.set_append_right _ _ (by omega), hl, Nat.add_sub_cancel_left]
  rfl
theorem setE_eq {ss0 ss : List Stp} {k : Nat} {b a : Mk} {u t : Stp} (hu : ss[k]? = some u) (ht : ss0[k]? = some t) : setE ss0 ss (k, b, a) = ss.set k ⟨u.app, u.id, movE t.e b, u.un⟩ := by
  unfold setE edAt
  dsimp only
  rw [ht]
  have hk := (List.getElem?_eq_some_iff.1 hu).1
  rw [List.modify_eq_take_cons_drop hk, List.set_eq_take_append_cons_drop, if_pos hk]
  have hu2 : ss[k] = u := by rw [List.getElem?_eq_getElem hk] at hu; exact Option.some.inj hu
  rw [hu2]
  rfl
theorem setE_len (ss0 ss : List Stp) (x : Evt) : (setE ss0 ss x).length = ss.length := by unfold setE; simp
set_option maxHeartbeats 1000000 in
theorem undo1_c {H : Snap} {vd vs vd2 v : Value} {ss cur : List Stp} {k : Nat} {t : Stp} {b a : Mk} {b2 b9 : Nat} {n : Int} (hv : SliceRep H StepL vs ss) (ht : ss[k]? = some t) (hl : cur.length = ss.length) (hb : okM n b) (hp : possE t.e n) (hn : 0 ≤ n ∧ n ≤ 400) (hsl : ss.length ≤ 900) :
    Ctr Try.prog 51 ([Value.int .i64 (k : Int), mkV b, mkV a] ++ [Value.pointer (some ⟨b2, 0, none⟩), Value.pointer (some ⟨b9, 0, none⟩)]).toArray H [.blk b2 27 [vd, vs], .blk b9 27 [vd2, v], .row 33 8 v cur.length (stCs cur)]
      (fun _ O' r => r = .tuple #[] ∧ O' = [.blk b2 27 [vd, vs], .blk b9 27 [vd2, v], .row 33 8 v cur.length (stCs (setE ss cur (k, b, a)))]) := by
  show Ctr Try.prog 51 #[.int .i64 (k : Int), mkV b, mkV a, .pointer (some ⟨b2, 0, none⟩), .pointer (some ⟨b9, 0, none⟩)] H _ _
  have hk := (List.getElem?_eq_some_iff.1 ht).1
  obtain ⟨u, hu⟩ : ∃ u, cur[k]? = some u := ⟨_, List.getElem?_eq_getElem (by omega)⟩
  rw [setE_eq hu ht]
  have hiss := hv.isSl
  have htE := hv.stE ht
  refine Ctr.intro Try.func51 rfl Try.ntmps51 rfl (fun E R hM hR => ?_)
  refine Runs.rowSl v (fun hsv hov => ?_)
  repeat (first | refine a4 ?_ | refine a6 ?_)
  refine RW.box rfl rfl rfl rfl (fun b6 => ?_)
  refine RW.box rfl rfl rfl rfl (fun b7 => ?_)
  repeat (refine a5 ?_)
  refine Runs.regionD _ _ [11, 12, 13] (fun x hx => List.mem_cons_of_mem _ hx) (List.Sublist.refl _) (by kernel_rfl) ?_
  refine t_fieldB 0 ?_
  refine t_loadB 1 ?_
  refine d2 2 ?_
  refine t_fieldB 3 ?_
  refine t_loadB 4 ?_
  refine d2 5 ?_
  refine t_index 6 ?_
  refine t_fieldV 7 ?_
  refine DW.q 8 rfl (by kernel_rfl) (QV.loadHs (c := edC t.e) rfl htE) rfl rfl ?_
  refine t_loadBs 9 ?_
  refine DW.callV 10 rfl (by kernel_rfl) rfl (umoved_c (H := H) (e := t.e) (m := b) hb hp (by omega)) rfl rfl ?_
  rintro _ _ rfl
  refine DW.qL 11 rfl (by kernel_rfl) rfl (QF.index rfl rfl hsv rfl (by omega)).qv rfl rfl ?_
  refine DW.qL 12 rfl (by kernel_rfl) rfl (QF.fieldV rfl).qv rfl rfl ?_
  refine DW.storeR 13 rfl (by kernel_rfl) rfl rfl rfl (stCs_ed hu (movE t.e b)) rfl rfl rfl ?_
  refine DW.done (by kernel_rfl) ?_
  refine Runs.weak (Hs' := [H]) (O' := [.blk b2 27 [vd, vs], .blk b9 27 [vd2, v], .row 33 8 v cur.length (stCs (cur.set k ⟨u.app, u.id, movE t.e b, u.un⟩))]) (l' := []) ?_ trivial (fun x hx => List.mem_cons_of_mem _ (SubH.h x hx)) (by repeat (first | exact List.nil_sublist _ | exact List.Sublist.refl _ | refine List.Sublist.cons_cons _ ?_ | refine List.Sublist.cons _ ?_))
  refine Runs.fin0 Try.func51 Try.results51 (fun w hm => hR _ w _ H _ (List.mem_cons_self ..) (Snap.le.refl _) ?_ hm)
  exact ⟨rfl, rfl⟩
section
variable {P : Program} {f : FuncId} {n : Nat} {E : Ent} {R : Value → World → Prop} {k : List Item} {Hs : List Snap} {O : List Own} {l : Env} {dj : Nat} {T : TypeId} {cs : List Value}
theorem HVf.callC {La : List Operand} {ts : Array TypeId} {fid : FuncId} {vals : List Value} {H : Snap} {post : Snap → List Own → Value → Prop} (ha : opvL l La = some vals) [c : TCall P fid] (hc : Ctr P fid vals.toArray H [] post) [hH : InH Hs H] :
    HVf P E Hs O l dj T cs (.call ⟨.value (.func fid), La.toArray, ts⟩) (fun v Hs' O1 => ∃ H' O2, post H' O2 v ∧ H.le H' ∧ Hs' = H' :: Hs ∧ O1 = O2 ++ O) := by
  have hc' : Ctr P fid (vals ++ []).toArray H [] post := by rw [List.append_nil]; exact hc
  refine ⟨HV.callF (cap := []) (O1 := []) (F := O) rfl ha hc' (List.Perm.refl _), fun b o ho w hm a hρ next Q hn => ?_⟩
  refine (HV.callF (E := E) (Hs := Hs) (l := l ++ [(dj, .pointer (some ⟨b, 0, none⟩))]) (O := O ++ [.blk b T cs]) (cap := []) (O1 := []) (F := O ++ [.blk b T cs]) rfl (opvL_app ha) hc' (List.Perm.refl _)) o ho w hm a hρ next Q ?_
  rintro v w' Hs' O' ⟨H', O2, h1, h2, rfl, rfl⟩ hm'
  exact hn v w' _ _ ⟨O2 ++ O, by rw [List.append_assoc], H', O2, h1, h2, rfl, rfl⟩ hm'
end
end Go.Proofs.Ytbiohkncdlhigaa

/-
  Contract: undoing a commit takes exactly its text out. Conditions: bytes are bytes.
  The statement UndoTakesOut. Conditions: none.
-/
import Derived.Test.YtbiohkncdlhigaaUx
import Derived.Test.YtbiohkncdlhigaaMUw
namespace Go.Proofs.Ytbiohkncdlhigaa
open Go Go.RowKit

/-- What is known of a past that was made and a commit that was chosen in it. -/
theorem undo_find {p : Pst} {k : Nat} {s : Stp} (hg : GoodP p) (hs : p.ss[k]? = some s) {D0 : Dc} (hr : runS s.app nilD (undS p.ss k s) = some D0) : ¬ hasId D0.ms s.id := by
  rintro ⟨m, hm, hmi⟩
  rcases runS_ids hr m hm with ⟨z, hz, _⟩ | ⟨t, ht, g1, g2, g3⟩
  · simp [nilD] at hz
  · obtain ⟨j, hj⟩ := List.getElem?_of_mem ht
    obtain ⟨u, q1, _, q3, _, _, _, q7, _⟩ := undS_get hs hj
    have e1 := hg.ids j u q1
    have e2 := hg.ids k s hs
    have hjk : j = k := by omega
    rw [q7 hjk] at g3
    exact g3 (.inr rfl)
theorem mark_uniq {d : Dc} (hv : validD d) {m : Mk} (hm : m ∈ d.ms) {k : Nat} {x : Mk} (hx : d.ms[k]? = some x) (hi : x.id = m.id) : x = m := by
  obtain ⟨j, hj⟩ := List.getElem?_of_mem hm
  exact sorted_uniq hv.2.2.2.2 hx hj hi
theorem lead4 {a b c d : Value} : ∀ (j : Nat) (u : Value), [c][j]? = some u → [a, b, c, d][2 + j]? = some u
  | 0, _, h => h
  | _ + 1, _, h => by simp at h
set_option maxHeartbeats 4000000 in
theorem takesOut_c {H : Snap} {v : Value} {l : List Rq} {n : Int} (hv : SliceRep H RqL v l) (hx : ∀ x ∈ l, okRq x) (hn : isByte n) : Pure Try.prog 3 #[v, .int .u8 n] H (fun _ r => r = .bool true) := by
  obtain ⟨hg, hml⟩ := madeP_good l (min l.length 14) (by omega)
  have hl2 := madeP_len l (min l.length 14)
  have hmc := madeP_c hv hx
  generalize madeP l (min l.length 14) = p at *
  refine Pure.intro Try.func3 rfl Try.ntmps3 rfl (fun E R hM hR => ?_)
  repeat (first | refine a1 ?_ | refine a4 ?_ | refine a5 ?_ | refine a6 ?_)
  refine RW.callV rfl (usanity_c (H := H)) rfl rfl ?_
  rintro _ _ rfl
  repeat (first | refine a1 ?_ | refine a4 ?_ | refine a5 ?_ | refine a6 ?_)
  refine RW.call rfl (hmc) rfl rfl ?_
  rintro _ H1 ⟨vd, vs, rfl, hd, hs⟩ hle1
  have ho1 := hd.isSl.one1
  have ho2 := hs.isSl.one1
  have hid := hd.isSl
  have his := hs.isSl
  have hsz : p.ss.length ≤ 50 := hg.sz
  refine RW.alloc rfl rfl rfl (fun b6 => ?_)
  repeat (first | refine a1 ?_ | refine a4 ?_ | refine a5 ?_ | refine a6 ?_ | refine s_loadBs ?_ | refine a9 ?_)
  refine RW.callV rfl (chosen_c (H := H1) (n := n) hd hs (by omega) hn) rfl rfl ?_
  rintro _ _ rfl
  repeat (first | refine a1 ?_ | refine a4 ?_ | refine a5 ?_ | refine a6 ?_)
  rcases chosen_ok (ss := p.ss) (n := n) with hch | hch
  · rw [hch]
    repeat (first | refine a1 ?_ | refine a4 ?_ | refine a5 ?_ | refine a6 ?_ | refine a7 ?_)
    refine Runs.ret1 Try.func3 Try.results3 rfl (fun w hm => hR _ w _ H _ (List.mem_cons_self ..) (Snap.le.refl _) ?_ hm)
    rfl
  obtain ⟨k, s, hk, hsk, hs0, hsu⟩ := comB_some hch
  rw [hk]
  have hkl := (List.getElem?_eq_some_iff.1 hsk).1
  have hs8 := hs.st hsk
  obtain ⟨ha0, ha1⟩ := hg.app s (List.mem_of_getElem? hsk)
  obtain ⟨a, ha⟩ : ∃ a : Nat, s.app = (a : Int) := ⟨s.app.toNat, by omega⟩
  obtain ⟨D, hda⟩ : ∃ d, p.ds[a]? = some d := ⟨_, List.getElem?_eq_getElem (by omega)⟩
  have hvD := good_valid hg D (List.mem_of_getElem? hda)
  obtain ⟨vm, hvm, hcm⟩ := hd.dc hda
  have hovm := hvm.isSl.one1
  have hivm := hvm.isSl
  repeat (first | refine a1 ?_ | refine a4 ?_ | refine a6 ?_ | refine s_loadHs ?_ | refine s_fieldB ?_ | refine s_loadB ?_ | refine s_index ?_ | refine a8 ?_)
  refine RW.alloc rfl rfl rfl (fun b8 => ?_)
  repeat (first | refine a4 ?_ | refine a5 ?_ | refine a6 ?_ | refine s_fieldB ?_ | refine s_loadB ?_ | refine a9 ?_)
  rw [ha]
  repeat (first | refine s_loadHs ?_ | refine s_index ?_)
  refine RW.alloc rfl rfl rfl (fun b9 => ?_)
  repeat (first | refine a1 ?_ | refine a4 ?_ | refine a5 ?_ | refine a6 ?_ | refine s_loadBs ?_ | refine a9 ?_)
  refine RW.call rfl (undE (H := H1) (p := p) (i := (k : Int)) hd hs hg) rfl rfl ?_
  rintro _ H2 ⟨vd2, vs2, vl2, rfl, hd2, hs2, hl2'⟩ hle2
  have o1 := hd2.isSl.one1
  have o2 := hs2.isSl.one1
  have o3 := hl2'.isSl.one1
  have i2 := hd2.isSl
  have i3 := hl2'.isSl
  refine RW.alloc rfl rfl rfl (fun b10 => ?_)
  refine RW.storeB rfl rfl rfl (by simp [allOne, cellsL, one1]; exact ⟨o1, o2, o3⟩) rfl ?_
  repeat (first | refine a1 ?_ | refine a4 ?_ | refine a5 ?_ | refine a6 ?_ | refine s_fieldB ?_ | refine s_loadB ?_)
  by_cases hdn : depL s.app (k + 1) (markS s) (p.ss.drop (k + 1)) = []
  · have hun : undoP p (k : Int) = (undP p k s, [], 0) := by
      unfold undoP
      rw [comB_iff hsk, decide_eq_true hs0, hsu, Int.toNat_natCast, hsk]
      simp only [Bool.not_false, Bool.and_self, if_true]
      rw [if_pos hdn]
    have hw : allW s.app (markS s) (p.ss.drop (k + 1)) := (dep_nil rfl).1 hdn
    obtain ⟨D1, D0, hD1, hD2, hrun, hmem, hok, hcut, hpc⟩ := undo_ok hg hsk hs0 hsu hw
    have hmid := (endM_id (a := s.app) (B := p.ss.drop (k + 1)) (m := markS s) hw).1
    have hno := undo_find hg hsk hrun
    have hv0 := runS_valid nilD_valid hrun
    rw [ha, Int.toNat_natCast, hda, Option.some.injEq] at hD1
    subst hD1
    generalize endM s.app (markS s) (p.ss.drop (k + 1)) = m at *
    have hund : undP p k s = ⟨p.ds.set a D0, undS p.ss k s⟩ := by
      unfold undP
      rw [hrun, ha, Int.toNat_natCast]
      rfl
    rw [hun, hund] at hd2 hs2 hl2' i2 i3
    rw [hun]
    dsimp only at hd2 hs2 hl2' i2 i3 ⊢
    repeat (first | refine a4 ?_ | refine a6 ?_ | refine s_loadBs ?_ | refine s_fieldB ?_ | refine s_loadB ?_ | refine a8 ?_)
    refine RW.callV rfl (rfind_c (H := H1) (s := D.tx) (i := s.id) hvm) rfl rfl ?_
    rintro _ _ hfind
    rcases hfind with ⟨hf, _⟩ | ⟨q, x, hq, hqi, rfl⟩
    · exact absurd ⟨m, hmem, hmid⟩ hf
    have hxm : x = m := mark_uniq hvD hmem hq (by rw [hqi]; exact hmid.symm)
    subst hxm
    unfold okM at hok
    obtain ⟨fr, hfr⟩ : ∃ fr : Nat, x.fr = (fr : Int) := ⟨x.fr.toNat, by omega⟩
    obtain ⟨to, hto⟩ : ∃ to : Nat, x.to_ = (to : Int) := ⟨x.to_.toNat, by omega⟩
    have hxx : x = ⟨x.id, (fr : Int), (to : Int), x.wh⟩ := by rw [← hfr, ← hto]
    have hx4 := hvm.mk hq
    rw [hxx] at hx4
    have hql := (List.getElem?_eq_some_iff.1 hq).1
    have hset : (p.ds.set a D0)[a]? = some D0 := List.getElem?_set_self (by omega)
    obtain ⟨vm0, hvm0, hcm0⟩ := hd2.dc hset
    have hovm0 := hvm0.isSl.one1
    have hdsl : (p.ds.set a D0).length = p.ds.length := by simp
    repeat (first | refine a1 ?_ | refine a4 ?_ | refine a5 ?_ | refine a6 ?_ | refine s_fieldB ?_ | refine s_loadB ?_ | refine s_len ?_)
    rw [decide_eq_false (show ¬ (((p.ds.set a D0).length : Int) ≠ (p.ds.length : Int)) by omega)]
    repeat (first | refine a1 ?_ | refine a4 ?_ | refine a6 ?_ | refine s_loadHs ?_ | refine s_fieldB ?_ | refine s_loadB ?_ | refine s_index ?_ | refine a8 ?_)
    refine RW.alloc rfl rfl rfl (fun b12 => ?_)
    repeat (first | refine a4 ?_ | refine a5 ?_ | refine a6 ?_ | refine s_loadHs ?_ | refine s_fieldB ?_ | refine s_loadB ?_ | refine s_index ?_ | refine a9 ?_)
    refine RW.alloc rfl rfl rfl (fun b13 => ?_)
    repeat (first | refine a4 ?_ | refine a5 ?_ | refine a9 ?_)
    have hft : fr ≤ to ∧ to ≤ D.tx.length := by omega
    have hpc2 : (D.tx.take to).drop fr = s.e.tx := by rw [← hpc]; unfold sub; rw [hfr, hto, Int.toNat_natCast, Int.toNat_natCast]
    have hcut2 : D0.tx = D.tx.take fr ++ D.tx.drop to := by
      rw [hcut]
      unfold cutT delT
      rw [hfr, hto, Int.toNat_natCast]
      congr 2
      omega
    have hDl : D.tx.length ≤ 400 := hvD.2.1
    have hvm0l : D0.ms.length ≤ 100 := hv0.2.2.1
    have hv0' : validD ⟨D.tx.take fr ++ D.tx.drop to, D0.ms⟩ := by rw [← hcut2]; exact hv0
    refine Runs.regionD _ _ [] (fun x hx => List.mem_cons_of_mem _ hx) (List.Sublist.refl _) (by kernel_rfl) ?_
    refine t_fieldB 0 ?_
    refine t_loadB 1 ?_
    refine t_fieldB 2 ?_
    refine t_loadB 3 ?_
    refine t_fieldB 4 ?_
    refine t_loadB 5 ?_
    refine t_sliceSLH 6 ?_
    rw [hpc2]
    refine t_fieldB 7 ?_
    refine t_fieldB 8 ?_
    refine t_loadB 9 ?_
    refine t_eqlS 10 ?_
    rw [show ∀ z : List UInt8, decide (z = z) = true from fun z => by simp]
    refine d2 11 ?_
    refine t_fieldB 12 ?_
    refine t_loadB 13 ?_
    refine t_fieldB 14 ?_
    refine t_loadB 15 ?_
    refine t_fieldB 16 ?_
    refine t_loadB 17 ?_
    refine t_sliceSHi 18 ?_
    refine t_fieldB 19 ?_
    refine t_loadB 20 ?_
    refine t_fieldB 21 ?_
    refine t_loadB 22 ?_
    refine t_sliceSLo 23 ?_
    refine t_addS 24 ?_
    rw [hcut2]
    refine t_eqlS 25 ?_
    rw [show ∀ z : List UInt8, decide (z = z) = true from fun z => by simp]
    refine d1 26 2 ?_
    refine t_loadBs 28 ?_
    refine DW.callV 29 rfl (by kernel_rfl) rfl (rvalid_c hvm0 (by have := hv0'.2.1; dsimp only at this; omega) (by omega)) rfl rfl ?_
    rintro _ _ rfl
    rw [decide_eq_true hv0']
    refine d1 30 2 ?_
    refine t_loadBs 32 ?_
    refine t_fieldB 33 ?_
    refine t_loadB 34 ?_
    refine DW.callV 35 rfl (by kernel_rfl) rfl (rfind_c (i := s.id) (s := D.tx.take fr ++ D.tx.drop to) hvm0) rfl rfl ?_
    rintro v115 H9 hf9
    rcases hf9 with ⟨_, rfl⟩ | ⟨q9, m9, hq9, hi9, _⟩
    · refine d1 36 3 ?_
      refine d1 39 3 ?_
      refine DW.done (by kernel_rfl) ?_
      skip
      refine Runs.ret1 Try.func3 Try.results3 rfl (fun w hm => hR _ w _ H _ (List.mem_cons_self ..) (Snap.le.refl _) ?_ hm)
      rfl
    · exact absurd ⟨m9, List.mem_of_getElem? hq9, hi9⟩ hno
  · have hun : undoP p (k : Int) = (nilP, depL s.app (k + 1) (markS s) (p.ss.drop (k + 1)), 320) := by
      unfold undoP
      rw [comB_iff hsk, decide_eq_true hs0, hsu, Int.toNat_natCast, hsk]
      simp only [Bool.not_false, Bool.and_self, if_true]
      rw [if_neg hdn]
    rw [hun] at hl2' i3
    rw [hun]
    dsimp only at hl2' i3 ⊢
    have hl1 := List.length_pos_iff.2 hdn
    repeat (first | refine a1 ?_ | refine a4 ?_ | refine a6 ?_ | refine s_fieldB ?_ | refine s_loadB ?_ | refine s_len ?_ | refine a7 ?_)
    rw [decide_eq_true (show (0 : Int) < ((depL s.app (k + 1) (markS s) (p.ss.drop (k + 1))).length : Int) by omega)]
    repeat (first | refine a1 ?_ | refine a5 ?_)
    refine Runs.ret1 Try.func3 Try.results3 rfl (fun w hm => hR _ w _ H _ (List.mem_cons_self ..) (Snap.le.refl _) ?_ hm)
    rfl
end Go.Proofs.Ytbiohkncdlhigaa
namespace Go.Proofs.Ytbiohkncdlhigaa
open Go Go.ChangeShapes Go.WideShapes Go.ChangeAt Go.RowKit

set_option maxRecDepth 100000 in
theorem takesOut_lifted (os : Os) (started : os.Started) (H : Type) (enc : TypeId × Value → H) :
    ReturnsInHanded {} Try.checked os 3 .any (Rows.undoTakesOutSpec.pre6 enc Try.prog Try.f3 Rows.undoTakesOutRow.domain false) (Rows.undoTakesOutSpec.post enc Try.prog Try.f3 false true false false) := by
  refine returnsInHanded_of_change (C := Try.checked) Try.own started (by kernel_rfl) Try.func3
    (ChangeSpec.witness6 (enc := enc) (C := Try.checked) false ⟨#[], #[.slice none 0 0, .int .u8 0], []⟩ 8 (by kernel_rfl) (by kernel_rfl) (by kernel_rfl) (by kernel_rfl)) ?_
  intro W base args ds gs before hval0 hW hcnd _
  have hval : ∀ (j : Nat) t v, Try.f3.params[j]? = some t → args[j]? = some v → Value.okWide Try.prog W .any base t v := hval0
  have hW' := hW
  obtain ⟨p, q, hA0, hV, rfl, hfz, hnd⟩ := hW
  have hA : DataW.TrodAll enc Try.prog W 0 (fun _ => true) true Try.f3.params.toList args.toList ds p := hA0
  rw [Try.params3] at hA hval
  obtain ⟨v0, v1, d0, d1, p0, p1, rfl, rfl, rfl, h0, h1⟩ := trodAll_two hA
  obtain ⟨rfl, rfl⟩ := trodVars_none hV
  obtain ⟨l0, hc0, hb0⟩ := opens_sl Try.underlying22 (by kernel_rfl) (by decide) opens_rqL (hval 0 _ v0 rfl rfl) h0
  obtain ⟨k1, rfl, rfl, rfl, wk1⟩ := open_int Try.underlying5 (hval 1 _ v1 rfl rfl) h1
  have hm : Mem ⟨W, feet [], snap0 W⟩ W [snap0 W] [] := Mem.start rfl (fun _ _ h => h) (by simp) List.Pairwise.nil (by simp)
  refine (takesOut_c (H := snap0 W) hc0 hb0 (u8_range wk1) W hm).mono fun e W' ⟨v, H', O', he, ⟨_, hv⟩, _, hm'⟩ => ?_
  subst he; subst hv
  exact ⟨_, rfl, law_post Try.laidOut hW' rfl hm'.fr.below rfl Try.underlying4 (by decide +kernel) rfl rfl rfl⟩

theorem takesOut_holds : Rows.UndoTakesOutSaid :=
  OpenClaim.holds_of_wide 3 Try.f3 rfl rfl rfl rfl rfl rfl rfl ⟨rfl, rfl, rfl, rfl, rfl⟩ rfl rfl rfl rfl rfl (by kernel_rfl) Try.func3 (by kernel_rfl)
    (of_decide_eq_true (by kernel_rfl)) (by unfold Func.isWrapper; first | (rw [if_pos (by decide +kernel)]; kernel_rfl) | (rw [if_neg (by decide +kernel)]; exact ⟨rfl, rfl⟩))
    (fun os started H enc _ => takesOut_lifted os started H enc)
#print axioms takesOut_holds
end Go.Proofs.Ytbiohkncdlhigaa

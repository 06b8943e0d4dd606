/-
  Contract: undoing as the reference does. Conditions: bytes are bytes.
-/
import Derived.Test.YtbiohkncdlhigaaYc
namespace Go.Proofs.Ytbiohkncdlhigaa
open Go Go.RowKit

theorem rdoV {H : Snap} {vd vs : Value} {p q : Pst} {s : Stp} {k : Int} (hd : SliceRep H DocL vd p.ds) (hs : SliceRep H StepL vs p.ss) (hdv : ∀ d ∈ p.ds, validD d) (hdl : p.ds.length ≤ 100) (hsl : p.ss.length ≤ 900) (ht : s.e.tx.length ≤ 100000) (he : doP p s = (q, k)) :
    Pure Try.prog 28 #[.agg #[vd, vs], stpV s] H (fun H' r => ∃ vd' vs', r = .tuple #[.agg #[vd', vs'], .int .i64 k] ∧ SliceRep H' DocL vd' q.ds ∧ SliceRep H' StepL vs' q.ss) := by
  have h := rdoP_c (s := s) hd hs hdv hdl hsl ht
  change Pure Try.prog 28 _ H (fun H' r => ∃ v, r = .tuple #[v, .int .i64 (doP p s).2] ∧ PastR H' v (doP p s).1) at h
  rw [he] at h
  refine h.mono ?_
  rintro H' r _ ⟨v, rfl, vd', vs', rfl, h1, h2⟩
  exact ⟨vd', vs', rfl, h1, h2⟩
theorem rwutE {H : Snap} {vd vs : Value} {p q : Pst} {i k : Int} (hd : SliceRep H DocL vd p.ds) (hs : SliceRep H StepL vs p.ss) (hg : GoodP p) (he : withoutP p i = (q, k)) :
    Pure Try.prog 25 #[.agg #[vd, vs], .int .i64 i] H (fun H' r => ∃ vd' vs', r = .tuple #[.agg #[vd', vs'], .int .i64 k] ∧ SliceRep H' DocL vd' q.ds ∧ SliceRep H' StepL vs' q.ss) := by
  have h := rwithout_c (i := i) hd hs hg
  change Pure Try.prog 25 _ H (fun H' r => ∃ v, r = .tuple #[v, .int .i64 (withoutP p i).2] ∧ PastR H' v (withoutP p i).1) at h
  rw [he] at h
  refine h.mono ?_
  rintro H' r _ ⟨v, rfl, vd', vs', rfl, h1, h2⟩
  exact ⟨vd', vs', rfl, h1, h2⟩
theorem rdepE {H : Snap} {vd vs : Value} {p : Pst} {i : Int} {l : List Int} {k : Int} (hd : SliceRep H DocL vd p.ds) (hs : SliceRep H StepL vs p.ss) (hg : GoodP p) (he : depP p.ss i = (l, k)) :
    Pure Try.prog 23 #[.agg #[vd, vs], .int .i64 i] H (fun H' r => ∃ v, r = .tuple #[v, .int .i64 k] ∧ SliceRep H' I64 v l) := by
  have h := rdepends_c (i := i) hd hs (by have := hg.sz; omega) (good_ch hg) (fun s hs => Nat.le_trans (hg.tx s hs) (by omega))
  rwa [he] at h
theorem rundE {H : Snap} {vd vs : Value} {p : Pst} {i : Int} (hd : SliceRep H DocL vd p.ds) (hs : SliceRep H StepL vs p.ss) (hg : GoodP p) :
    Pure Try.prog 27 #[.agg #[vd, vs], .int .i64 i] H (fun H' r => UndR H' r (undoP p i)) := rundo_c hd hs hg
set_option maxHeartbeats 8000000 in
theorem matches32_c {H : Snap} {v : Value} {l : List Rq} {s : Stp} {wa wb : Int} (hv : SliceRep H RqL v l) (hx : ∀ x ∈ l, okRq x) (_hts : s.e.tx.length ≤ maxLen) (hwa : isI8 wa) (hwb : isI8 wb) : Pure Try.prog 8 #[v, stpV s, .agg #[.int .i8 wa, .int .i8 wb]] H (fun _ r => r = .bool true) := by
  obtain ⟨hg, hml⟩ := madeP_good l (min l.length 14) (by omega)
  have hl2 := madeP_len l (min l.length 14)
  have hmc := madeP_c hv hx
  generalize madeP l (min l.length 14) = p at *
  refine Pure.intro Try.func8 rfl Try.ntmps8 rfl (fun E R hM hR => ?_)
  repeat (first | refine a4 ?_ | refine a6 ?_)
  refine RW.box rfl rfl rfl rfl (fun b4 => ?_)
  refine RW.box rfl rfl rfl rfl (fun b5 => ?_)
  repeat (first | refine a1 ?_ | refine a4 ?_ | refine a5 ?_ | refine a6 ?_)
  refine RW.callV rfl (usanity_c (H := H)) rfl rfl ?_
  rintro _ _ rfl
  repeat (first | refine a1 ?_ | refine a4 ?_ | refine a5 ?_ | refine a6 ?_)
  refine RW.call rfl (hmc) rfl rfl ?_
  rintro _ H1 ⟨vd, vs, rfl, hd, hs⟩ hle1
  have ho1 := hd.isSl.one1
  have ho2 := hs.isSl.one1
  have hid := hd.isSl
  have his := hs.isSl
  have hsz : p.ss.length ≤ 50 := hg.sz
  refine RW.alloc rfl rfl rfl (fun b8 => ?_)
  repeat (first | refine a1 ?_ | refine a4 ?_ | refine a5 ?_ | refine a6 ?_ | refine s_fieldB ?_ | refine s_loadB ?_ | refine s_lenS ?_ | refine a9 ?_)
  by_cases h60 : (60 : Int) < (s.e.tx.length : Int)
  · rw [decide_eq_true h60]
    repeat (first | refine a1 ?_ | refine a4 ?_ | refine a5 ?_ | refine a6 ?_ | refine a7 ?_)
    refine Runs.ret1 Try.func8 Try.results8 rfl (fun w hm => hR _ w _ H _ (List.mem_cons_self ..) (Snap.le.refl _) ?_ hm)
    rfl
  rw [decide_eq_false h60]
  have hds : p.ds.length ≤ 100 := by omega
  repeat (first | refine a1 ?_ | refine a4 ?_ | refine a5 ?_ | refine a6 ?_ | refine a8 ?_)
  refine Runs.loop (fun m : Nat => m ≤ p.ss.length + 2) (fun m => p.ss.length + 2 - m) (fun _ => [H1, H]) (fun _ => [.blk b8 27 [vd, vs], .blk b5 65 [.int .i8 wa, .int .i8 wb], .blk b4 33 (stpC s)]) (fun m => [(4, .pointer (some ⟨b4, 0, none⟩)), (5, .pointer (some ⟨b5, 0, none⟩)), (7, .bool true), (8, .pointer (some ⟨b8, 0, none⟩)), (9, .int .i64 ((m : Int) - 1))]) 0 (by omega) (fun h => by
    refine Runs.weak (h) (by repeat (first | exact trivial | refine And.intro rfl ?_)) (fun x hx => List.mem_cons_of_mem _ (SubH.h x hx)) (by repeat (first | exact List.nil_sublist _ | exact List.Sublist.refl _ | refine List.Sublist.cons_cons _ ?_ | refine List.Sublist.cons _ ?_))) ?_
  intro m hm ih
  repeat (first | refine a1 ?_ | refine a4 ?_ | refine a5 ?_ | refine a6 ?_ | refine s_fieldB ?_ | refine s_loadB ?_ | refine s_len ?_)
  by_cases hmi : (m : Int) - 1 ≤ (p.ss.length : Int)
  · rw [decide_eq_true hmi]
    repeat (first | refine a1 ?_ | refine a4 ?_ | refine a6 ?_ | refine s_loadBs ?_ | refine a7 ?_)
    generalize hie : (m : Int) - 1 = i at *
    obtain ⟨dl, dk, hde0⟩ : ∃ l k, depP p.ss i = (l, k) := ⟨_, _, rfl⟩
    obtain ⟨⟨wd, ws⟩, wk, hwe0⟩ : ∃ q k, withoutP p i = (q, k) := ⟨_, _, rfl⟩
    refine RW.call rfl (depE (H := H1) (p := p) (i := i) hd hs hg hde0) rfl rfl ?_
    rintro _ H2 ⟨va, rfl, hva⟩ hle2
    repeat (first | refine a1 ?_ | refine a4 ?_ | refine a5 ?_ | refine a6 ?_ | refine s_loadBs ?_)
    refine RW.call rfl (rdepE (H := H2) (p := p) (i := i) (hd.mono hle2) (hs.mono hle2) hg hde0) rfl rfl ?_
    rintro _ H3 ⟨vb, rfl, hvb⟩ hle3
    repeat (first | refine a1 ?_ | refine a4 ?_ | refine a5 ?_ | refine a6 ?_ | refine s_loadBs ?_)
    have hle13 := hle2.trans hle3
    refine RW.call rfl (wutE (H := H3) (p := p) (i := i) (hd.mono hle13) (hs.mono hle13) hg hwe0) rfl rfl ?_
    rintro _ H4 ⟨vdc, vsc, rfl, hdc, hsc⟩ hle4
    have c1 := hdc.isSl.one1
    have c2 := hsc.isSl.one1
    repeat (refine a1 ?_)
    refine RW.alloc rfl rfl rfl (fun b14 => ?_)
    repeat (first | refine a1 ?_ | refine a4 ?_ | refine a5 ?_ | refine a6 ?_ | refine s_loadBs ?_ | refine a9 ?_)
    have hle14 := hle13.trans hle4
    refine RW.call rfl (rwutE (H := H4) (p := p) (i := i) (hd.mono hle14) (hs.mono hle14) hg hwe0) rfl rfl ?_
    rintro _ H5 ⟨vde, vse, rfl, hde, hse⟩ hle5
    have c3 := hde.isSl.one1
    have c4 := hse.isSl.one1
    repeat (refine a1 ?_)
    refine RW.alloc rfl rfl rfl (fun b16 => ?_)
    repeat (first | refine a1 ?_ | refine a4 ?_ | refine a5 ?_ | refine a9 ?_)
    have hle15 := hle14.trans hle5
    have zz : ∀ z : Int, decide (z ≠ z) = false := fun z => by simp
    refine Runs.regionD _ _ [] (fun x hx => List.mem_cons_of_mem _ hx) (List.Sublist.refl _) (by kernel_rfl) ?_
    refine d1 0 2 ?_
    refine DW.callV 2 rfl (by kernel_rfl) rfl (ints_c (H := H3) (hva.mono hle3) hvb) rfl rfl ?_
    rintro _ _ rfl
    rw [decide_eq_true (show dl = dl from rfl)]
    refine d1 3 2 ?_
    refine d2 5 ?_
    refine d2 6 ?_
    refine d2 7 ?_
    rw [zz]
    refine d1 8 2 ?_
    refine t_loadBs 10 ?_
    refine t_loadBs 11 ?_
    refine DW.callV 12 rfl (by kernel_rfl) rfl (sameP_c (H := H5) (hdc.mono hle5) (hsc.mono hle5) hde hse) rfl rfl ?_
    rintro _ _ rfl
    rw [decide_eq_true (show (⟨wd, ws⟩ : Pst) = ⟨wd, ws⟩ from rfl)]
    refine d1 13 3 ?_
    refine d2 16 ?_
    refine d2 17 ?_
    refine d2 18 ?_
    rw [zz]
    refine d1 19 2 ?_
    refine t_loadBs 21 ?_
    refine d2 22 ?_
    refine t_loadBs 24 ?_
    refine d2 25 ?_
    refine DW.call 23 rfl (by kernel_rfl) rfl (undE (H := H5) (p := p) (i := i) (hd.mono hle15) (hs.mono hle15) hg) rfl rfl ?_
    rintro _ H6 hu6 hle6
    have hle16 := hle15.trans hle6
    refine DW.call 26 rfl (by kernel_rfl) rfl (rundE (H := H6) (p := p) (i := i) (hd.mono hle16) (hs.mono hle16) hg) rfl rfl ?_
    rintro _ H7 hu7 hle7
    obtain ⟨q1, q2, q3, rfl, q4, q5, q6⟩ := hu6
    refine DW.callV 27 rfl (by kernel_rfl) rfl (usame_c (H := H7) (a := undoP p i) (b := undoP p i) ⟨q1, q2, q3, rfl, q4.mono hle7, q5.mono hle7, q6.mono hle7⟩ hu7) rfl rfl ?_
    rintro _ _ rfl
    rw [decide_eq_true (show undoP p i = undoP p i from rfl)]
    refine d1 28 2 ?_
    refine DW.done (by kernel_rfl) ?_
    repeat (first | refine a1 ?_ | refine a4 ?_ | refine a5 ?_ | refine a6 ?_ | refine s_addI ?_ | refine a8 ?_)
    rw [show i + 1 = ((m + 1 : Nat) : Int) - 1 by omega]
    refine Runs.weak (ih (m + 1) (by omega) (by omega)) (by repeat (first | exact trivial | refine And.intro rfl ?_)) (fun x hx => List.mem_cons_of_mem _ (SubH.h x hx)) (by repeat (first | exact List.nil_sublist _ | exact List.Sublist.refl _ | refine List.Sublist.cons_cons _ ?_ | refine List.Sublist.cons _ ?_))
  · rw [decide_eq_false hmi]
    repeat (first | refine a4 ?_ | refine a6 ?_ | refine s_loadB ?_ | refine s_loadBs ?_ | refine s_indexArrB ?_ | refine s_build ?_ | refine s_conv ?_ | refine a8 ?_)
    have hbw : ∀ z : Int, isByte (IntKind.u8.wrap z) := by
      intro z
      unfold isByte
      simp [IntKind.wrap, IntKind.bits, IntKind.signed]
      omega
    have hA := hbw wa
    have hB := hbw wb
    generalize IntKind.u8.wrap wa = A at *
    generalize IntKind.u8.wrap wb = B at *
    have hok : okRq ⟨A, false, ⟨B, A, 3, B, []⟩⟩ := ⟨hA, hB, hA, by show isByte 3; unfold isByte; omega, hB, by simp⟩
    refine RW.callV rfl (next_c (H := H1) (x := ⟨A, false, ⟨B, A, 3, B, []⟩⟩) (vx := .slice none 0 0) hd hs SliceRep.nil hok hg (by omega)) rfl rfl ?_
    rintro _ _ rfl
    have hnx := next_ok p ⟨A, false, ⟨B, A, 3, B, []⟩⟩
    change (nextP ⟨p.ds, p.ss⟩ ⟨A, false, ⟨B, A, 3, B, []⟩⟩).e.tx.length ≤ 40 ∧ _ at hnx
    generalize nextP ⟨p.ds, p.ss⟩ ⟨A, false, ⟨B, A, 3, B, []⟩⟩ = nx at *
    refine RW.alloc rfl rfl rfl (fun b18 => ?_)
    repeat (first | refine a4 ?_ | refine a5 ?_ | refine a6 ?_ | refine s_loadBs ?_ | refine a9 ?_)
    refine RW.buildSlice rfl rfl rfl rfl rfl rfl rfl (fun v113 h113 => ?_)
    refine RW.freeze (H := H1) v113 hM (fun HF hleF hsF hcF => ?_)
    have hr113 : SliceRep HF StepL v113 [s, nx] := SliceRep.of_row (H := HF) hsF rfl (stCs_rep HF [s, nx]) (Snap.le.refl _) hcF
    have i113 : IsSl v113 2 := hr113.isSl
    have hdF := hd.mono hleF
    have hsF2 := hs.mono hleF
    repeat (first | refine a1 ?_ | refine a4 ?_ | refine a5 ?_ | refine a6 ?_)
    refine Runs.loop (fun j : Nat => j ≤ 2) (fun j => 2 - j) (fun _ => [HF, H1, H]) (fun _ => [.blk b8 27 [vd, vs]]) (fun j => [(7, .bool true), (8, .pointer (some ⟨b8, 0, none⟩)), (19, v113), (20, .int .i64 (j : Int))]) 0 (by omega) (fun h => by
      refine Runs.weak (h) (by repeat (first | exact trivial | refine And.intro rfl ?_)) (fun x hx => List.mem_cons_of_mem _ (SubH.h x hx)) (by repeat (first | exact List.nil_sublist _ | exact List.Sublist.refl _ | refine List.Sublist.cons_cons _ ?_ | refine List.Sublist.cons _ ?_))) ?_
    intro j hj ih2
    repeat (first | refine a1 ?_ | refine a4 ?_ | refine a5 ?_ | refine a6 ?_)
    refine Runs.cond_d rfl (fun hlt => ?_) (fun hlt => ?_)
    · obtain ⟨t, ht⟩ : ∃ t, [s, nx][j]? = some t := ⟨_, List.getElem?_eq_getElem (by simp; omega)⟩
      have ht8 := hr113.st ht
      have htl : t.e.tx.length ≤ 100000 := by
        have := List.mem_of_getElem? ht
        simp at this
        rcases this with rfl | rfl <;> omega
      obtain ⟨⟨rd, rs⟩, rk, hdo⟩ : ∃ q k, doP p t = (q, k) := ⟨_, _, rfl⟩
      repeat (refine a4 ?_)
      refine Runs.regionD _ _ [10] (fun x hx => List.mem_cons_of_mem _ hx) (List.Sublist.refl _) (by kernel_rfl) ?_
      refine t_loadBs 0 ?_
      refine d1 1 2 ?_
      refine t_index 3 ?_
      refine t_loadHs 4 ?_
      refine DW.float 9 rfl rfl ?_
      refine DWf.call 5 rfl rfl rfl (by kernel_rfl) (by kernel_rfl) rfl rfl rfl rfl rfl rfl (doV (H := HF) (s := t) hdF hsF2 (good_valid hg) hds (by omega) htl hdo) ?_
      rintro _ H2 ⟨vd2, vs2, rfl, hd2, hs2⟩ hle2
      have c1 := hd2.isSl.one1
      have c2 := hs2.isSl.one1
      refine DWf.qF 6 rfl rfl (by kernel_rfl) (qev_eq rfl) (fun _ => qev_eq rfl) rfl rfl ?_
      refine DWf.qF 7 rfl rfl (by kernel_rfl) (qev_eq rfl) (fun _ => qev_eq rfl) rfl rfl ?_
      refine DWf.qF 8 rfl rfl (by kernel_rfl) (qev_eq rfl) (fun _ => qev_eq rfl) rfl rfl ?_
      refine DWf.take rfl (by kernel_rfl) rfl rfl rfl (fun b21 => ?_)
      simp only [List.cons_append, List.nil_append]
      refine DW.storeB 10 rfl (by kernel_rfl) rfl rfl rfl rfl (by first | rfl | (simp [allOne, cellsL, one1]; done) | (simp [allOne, cellsL, one1]; first | assumption | (refine ⟨?_, ?_⟩ <;> assumption) | (refine ⟨?_, ?_, ?_⟩ <;> assumption))) rfl ?_
      refine d2 11 ?_
      refine DW.done (by kernel_rfl) ?_
      repeat (refine a4 ?_)
      refine Runs.regionD _ _ [10] (fun x hx => List.mem_cons_of_mem _ hx) (List.Sublist.refl _) (by kernel_rfl) ?_
      refine t_loadBs 0 ?_
      refine d1 1 2 ?_
      refine t_index 3 ?_
      refine t_loadHs 4 ?_
      refine DW.float 9 rfl rfl ?_
      refine DWf.call 5 rfl rfl rfl (by kernel_rfl) (by kernel_rfl) rfl rfl rfl rfl rfl rfl (rdoV (H := H2) (s := t) (hdF.mono hle2) (hsF2.mono hle2) (good_valid hg) hds (by omega) htl hdo) ?_
      rintro _ H3 ⟨vd3, vs3, rfl, hd3, hs3⟩ hle3
      have c3 := hd3.isSl.one1
      have c4 := hs3.isSl.one1
      refine DWf.qF 6 rfl rfl (by kernel_rfl) (qev_eq rfl) (fun _ => qev_eq rfl) rfl rfl ?_
      refine DWf.qF 7 rfl rfl (by kernel_rfl) (qev_eq rfl) (fun _ => qev_eq rfl) rfl rfl ?_
      refine DWf.qF 8 rfl rfl (by kernel_rfl) (qev_eq rfl) (fun _ => qev_eq rfl) rfl rfl ?_
      refine DWf.take rfl (by kernel_rfl) rfl rfl rfl (fun b23 => ?_)
      simp only [List.cons_append, List.nil_append]
      refine DW.storeB 10 rfl (by kernel_rfl) rfl rfl rfl rfl (by first | rfl | (simp [allOne, cellsL, one1]; done) | (simp [allOne, cellsL, one1]; first | assumption | (refine ⟨?_, ?_⟩ <;> assumption) | (refine ⟨?_, ?_, ?_⟩ <;> assumption))) rfl ?_
      refine d2 11 ?_
      refine DW.done (by kernel_rfl) ?_
      repeat (first | refine a4 ?_ | refine a6 ?_ | refine s_loadBs ?_)
      refine RW.callV rfl (sameP_c (H := H3) (hd2.mono hle3) (hs2.mono hle3) hd3 hs3) rfl rfl ?_
      rintro _ _ rfl
      rw [decide_eq_true (show (⟨rd, rs⟩ : Pst) = ⟨rd, rs⟩ from rfl)]
      repeat (first | refine a1 ?_ | refine a5 ?_)
      rw [show ∀ z : Int, decide (z ≠ z) = false from fun z => by simp]
      repeat (first | refine a1 ?_ | refine a4 ?_ | refine a5 ?_ | refine a6 ?_ | refine s_addI ?_ | refine a8 ?_)
      refine Runs.weak (ih2 (j + 1) (by omega) (by omega)) (by repeat (first | exact trivial | refine And.intro rfl ?_)) (fun x hx => List.mem_cons_of_mem _ (SubH.h x hx)) (by repeat (first | exact List.nil_sublist _ | exact List.Sublist.refl _ | refine List.Sublist.cons_cons _ ?_ | refine List.Sublist.cons _ ?_))
    · repeat (first | refine a1 ?_ | refine a4 ?_ | refine a5 ?_ | refine a6 ?_)
      refine Runs.ret1 Try.func8 Try.results8 rfl (fun w hm => hR _ w _ H _ (List.mem_cons_self ..) (Snap.le.refl _) ?_ hm)
      rfl
end Go.Proofs.Ytbiohkncdlhigaa

/-
  The fixed examples. Conditions: none.
-/
import Derived.Test.YtonleimnjgmfeaaT13
namespace Go.Proofs.Ytonleimnjgmfeaa
open Go Go.RowKit

def gS : List Lnk := [⟨0, 1, 0, 1⟩, ⟨0, 2, 0, 1⟩, ⟨1, 3, 0, 2⟩, ⟨2, 3, 0, 2⟩, ⟨1, 2, 0, 0⟩]
def wantS : List Cand := [⟨[0, 2], 3⟩, ⟨[0, 4, 3], 3⟩, ⟨[1, 3], 3⟩]
theorem gS_list : listR 4 gS 3 = wantS := by decide
theorem gS_valid : validG 4 gS := by decide
theorem gS_tree : treeT gS 4 0 ≤ 2000000000000 := by decide
theorem g1_list : listR 1 [] 5 = [⟨[], 0⟩] := by decide
theorem g2_list : listR 2 [] 5 = [] := by decide
theorem g0_list : listR 0 [] 5 = [] := by decide
theorem gS_c3 : costOf 4 gS [0, 4, 3] = some 3 := by decide
theorem gS_c2 : costOf 4 gS [0, 3] = none := by decide
theorem gS_E : listE 4 gS 3 = 0 := by decide
theorem gS_E51 : listE 4 gS 51 = 1 := by decide
theorem g1_E : listE 1 [] 5 = 0 := by decide
theorem g2_E : listE 2 [] 5 = 0 := by decide
theorem g0_E : listE 0 [] 5 = 150 := by decide

theorem gS_num {t : List Int} (h : IsNum 4 gS 0 t) : tv t 0 = 3 := by
  obtain ⟨_, _, h3, h4, _⟩ := h
  have h4 : tv t 3 = 1 := h4
  have a2 : tv t 2 = 1 := by
    have := h3 2 (by omega) (by omega)
    simp [numT, gS, stepN, h4] at this
    exact this
  have a1 : tv t 1 = 2 := by
    have := h3 1 (by omega) (by omega)
    simp [numT, gS, stepN, h4, a2] at this
    exact this
  have := h3 0 (by omega) (by omega)
  simp [numT, gS, stepN, a1, a2] at this
  exact this

set_option maxHeartbeats 4000000 in
theorem sanity_c {H : Snap} : Pure Try.prog 11 #[] H (fun _ r => r = .bool true) := by
  have hn1 : ∀ H, Pure Try.prog 13 #[.agg #[.int .i64 1, .slice none 0 0], .int .i64 5] H (fun H' r => ∃ vr, r = .tuple #[vr, .int .i64 0] ∧ SliceRep H' CandL vr [⟨[], 0⟩]) := fun H => by
    have := blist_c (H := H) (N := 1) (gl := []) (k := 5) SliceRep.nil (fun _ => by decide)
    rw [g1_list, g1_E] at this; exact this
  have hn2 : ∀ H, Pure Try.prog 13 #[.agg #[.int .i64 2, .slice none 0 0], .int .i64 5] H (fun H' r => ∃ vr, r = .tuple #[vr, .int .i64 0] ∧ SliceRep H' CandL vr []) := fun H => by
    have := blist_c (H := H) (N := 2) (gl := []) (k := 5) SliceRep.nil (fun _ => by decide)
    rw [g2_list, g2_E] at this; exact this
  have hn0 : ∀ H, Pure Try.prog 13 #[.agg #[.int .i64 0, .slice none 0 0], .int .i64 5] H (fun H' r => ∃ vr, r = .tuple #[vr, .int .i64 150] ∧ SliceRep H' CandL vr []) := fun H => by
    have := blist_c (H := H) (N := 0) (gl := []) (k := 5) SliceRep.nil (fun _ => by decide)
    rw [g0_list, g0_E] at this; exact this
  refine Pure.intro Try.func11 rfl Try.ntmps11 rfl (fun E R hM hR => ?_)
  repeat (first | refine a1 ?_ | refine a3 ?_ | refine a4 ?_ | refine a5 ?_ | refine a6 ?_ | refine s_loadB ?_ | refine s_fieldB ?_ | refine s_loadH ?_ | refine s_fieldV ?_ | refine s_indexT ?_ | refine s_indexRT ?_ | refine s_indexArrT ?_ | refine s_len ?_ | refine s_lenR ?_ | refine s_loadBs ?_ | refine s_loadR ?_ | refine s_build ?_ | refine s_eql ?_ | refine a7 ?_ | refine a8 ?_ | refine a9 ?_ | refine RW.storeR rfl rfl rfl rfl (by first | rfl | (simp [allOne, cellsL, one1]; done) | (simp [allOne, cellsL, one1]; first | assumption | (refine ⟨?_, ?_⟩ <;> assumption))) rfl ?_ | refine a10 ?_ | refine RW.storeR1 rfl rfl (by first | rfl | exact IsSl.one1 (by assumption) | exact IsSl.one1 (SliceRep.isSl (by assumption))) rfl rfl ?_)
  refine RW.buildSlice rfl rfl rfl rfl rfl rfl rfl (fun v23 hv23 => ?_)
  obtain ⟨A23, cap23, rfl, _, _⟩ := hv23
  repeat (first | refine a1 ?_ | refine a3 ?_ | refine a4 ?_ | refine a5 ?_ | refine a6 ?_ | refine s_loadB ?_ | refine s_fieldB ?_ | refine s_loadH ?_ | refine s_fieldV ?_ | refine s_indexT ?_ | refine s_indexRT ?_ | refine s_indexArrT ?_ | refine s_len ?_ | refine s_lenR ?_ | refine s_loadBs ?_ | refine s_loadR ?_ | refine s_build ?_ | refine s_eql ?_ | refine a7 ?_ | refine a8 ?_ | refine a9 ?_ | refine RW.storeR rfl rfl rfl rfl (by first | rfl | (simp [allOne, cellsL, one1]; done) | (simp [allOne, cellsL, one1]; first | assumption | (refine ⟨?_, ?_⟩ <;> assumption))) rfl ?_ | refine a10 ?_ | refine RW.storeR1 rfl rfl (by first | rfl | exact IsSl.one1 (by assumption) | exact IsSl.one1 (SliceRep.isSl (by assumption))) rfl rfl ?_)
  refine RW.alloc rfl rfl rfl (fun b1 => ?_)
  repeat (first | refine a1 ?_ | refine a3 ?_ | refine a4 ?_ | refine a5 ?_ | refine a6 ?_ | refine s_loadB ?_ | refine s_fieldB ?_ | refine s_loadH ?_ | refine s_fieldV ?_ | refine s_indexT ?_ | refine s_indexRT ?_ | refine s_indexArrT ?_ | refine s_len ?_ | refine s_lenR ?_ | refine s_loadBs ?_ | refine s_loadR ?_ | refine s_build ?_ | refine s_eql ?_ | refine a7 ?_ | refine a8 ?_ | refine a9 ?_ | refine RW.storeR rfl rfl rfl rfl (by first | rfl | (simp [allOne, cellsL, one1]; done) | (simp [allOne, cellsL, one1]; first | assumption | (refine ⟨?_, ?_⟩ <;> assumption))) rfl ?_ | refine a10 ?_ | refine RW.storeR1 rfl rfl (by first | rfl | exact IsSl.one1 (by assumption) | exact IsSl.one1 (SliceRep.isSl (by assumption))) rfl rfl ?_)
  refine RW.freeze (H := H) (.slice A23 5 cap23) hM (fun H1 hle1 hs1 hc1 => ?_)
  have hl : SliceRep H1 LinkL (.slice A23 5 cap23) gS := SliceRep.of_row hs1 rfl (flat_rep gS) (Snap.le.refl _) hc1
  have hL : Pure Try.prog 13 #[.agg #[.int .i64 4, .slice A23 5 cap23], .int .i64 3] H1 (fun H' r => ∃ vr, r = .tuple #[vr, .int .i64 0] ∧ SliceRep H' CandL vr wantS) := by
    have := blist_c (N := 4) (k := 3) hl (fun _ => gS_tree)
    rw [gS_list, gS_E] at this; exact this
  refine RW.call rfl (hL) rfl rfl ?_
  rintro _ H2 ⟨vr2, rfl, hvr2⟩ hle2
  repeat (first | refine a1 ?_ | refine a3 ?_ | refine a4 ?_ | refine a5 ?_ | refine a6 ?_ | refine s_loadB ?_ | refine s_fieldB ?_ | refine s_loadH ?_ | refine s_fieldV ?_ | refine s_indexT ?_ | refine s_indexRT ?_ | refine s_indexArrT ?_ | refine s_len ?_ | refine s_lenR ?_ | refine s_loadBs ?_ | refine s_loadR ?_ | refine s_build ?_ | refine s_eql ?_ | refine a7 ?_ | refine a8 ?_ | refine a9 ?_ | refine RW.storeR rfl rfl rfl rfl (by first | rfl | (simp [allOne, cellsL, one1]; done) | (simp [allOne, cellsL, one1]; first | assumption | (refine ⟨?_, ?_⟩ <;> assumption))) rfl ?_ | refine a10 ?_ | refine RW.storeR1 rfl rfl (by first | rfl | exact IsSl.one1 (by assumption) | exact IsSl.one1 (SliceRep.isSl (by assumption))) rfl rfl ?_)
  refine RW.call rfl (hn1 H2) rfl rfl ?_
  rintro _ H3 ⟨vr3, rfl, hvr3⟩ hle3
  repeat (first | refine a1 ?_ | refine a3 ?_ | refine a4 ?_ | refine a5 ?_ | refine a6 ?_ | refine s_loadB ?_ | refine s_fieldB ?_ | refine s_loadH ?_ | refine s_fieldV ?_ | refine s_indexT ?_ | refine s_indexRT ?_ | refine s_indexArrT ?_ | refine s_len ?_ | refine s_lenR ?_ | refine s_loadBs ?_ | refine s_loadR ?_ | refine s_build ?_ | refine s_eql ?_ | refine a7 ?_ | refine a8 ?_ | refine a9 ?_ | refine RW.storeR rfl rfl rfl rfl (by first | rfl | (simp [allOne, cellsL, one1]; done) | (simp [allOne, cellsL, one1]; first | assumption | (refine ⟨?_, ?_⟩ <;> assumption))) rfl ?_ | refine a10 ?_ | refine RW.storeR1 rfl rfl (by first | rfl | exact IsSl.one1 (by assumption) | exact IsSl.one1 (SliceRep.isSl (by assumption))) rfl rfl ?_)
  refine RW.call rfl (hn2 H3) rfl rfl ?_
  rintro _ H4 ⟨vr4, rfl, hvr4⟩ hle4
  repeat (first | refine a1 ?_ | refine a3 ?_ | refine a4 ?_ | refine a5 ?_ | refine a6 ?_ | refine s_loadB ?_ | refine s_fieldB ?_ | refine s_loadH ?_ | refine s_fieldV ?_ | refine s_indexT ?_ | refine s_indexRT ?_ | refine s_indexArrT ?_ | refine s_len ?_ | refine s_lenR ?_ | refine s_loadBs ?_ | refine s_loadR ?_ | refine s_build ?_ | refine s_eql ?_ | refine a7 ?_ | refine a8 ?_ | refine a9 ?_ | refine RW.storeR rfl rfl rfl rfl (by first | rfl | (simp [allOne, cellsL, one1]; done) | (simp [allOne, cellsL, one1]; first | assumption | (refine ⟨?_, ?_⟩ <;> assumption))) rfl ?_ | refine a10 ?_ | refine RW.storeR1 rfl rfl (by first | rfl | exact IsSl.one1 (by assumption) | exact IsSl.one1 (SliceRep.isSl (by assumption))) rfl rfl ?_)
  refine RW.call rfl (hn0 H4) rfl rfl ?_
  rintro _ H5 ⟨vr5, rfl, hvr5⟩ hle5
  repeat (first | refine a1 ?_ | refine a3 ?_ | refine a4 ?_ | refine a5 ?_ | refine a6 ?_ | refine s_loadB ?_ | refine s_fieldB ?_ | refine s_loadH ?_ | refine s_fieldV ?_ | refine s_indexT ?_ | refine s_indexRT ?_ | refine s_indexArrT ?_ | refine s_len ?_ | refine s_lenR ?_ | refine s_loadBs ?_ | refine s_loadR ?_ | refine s_build ?_ | refine s_eql ?_ | refine a7 ?_ | refine a8 ?_ | refine a9 ?_ | refine RW.storeR rfl rfl rfl rfl (by first | rfl | (simp [allOne, cellsL, one1]; done) | (simp [allOne, cellsL, one1]; first | assumption | (refine ⟨?_, ?_⟩ <;> assumption))) rfl ?_ | refine a10 ?_ | refine RW.storeR1 rfl rfl (by first | rfl | exact IsSl.one1 (by assumption) | exact IsSl.one1 (SliceRep.isSl (by assumption))) rfl rfl ?_)
  have hl5 := (((hl.mono hle2).mono hle3).mono hle4).mono hle5
  have hL2 : Pure Try.prog 13 #[.agg #[.int .i64 4, .slice A23 5 cap23], .int .i64 51] H5 (fun H' r => ∃ vr, r = .tuple #[vr, .int .i64 1] ∧ True) := by
    have := blist_c (N := 4) (k := 51) hl5 (fun _ => gS_tree)
    rw [gS_E51] at this
    exact this.mono fun _ _ _ ⟨vr, h, _⟩ => ⟨vr, h, trivial⟩
  refine RW.call rfl (hL2) rfl rfl ?_
  rintro _ H6 ⟨vr6, rfl, _⟩ hle6
  repeat (first | refine a1 ?_ | refine a3 ?_ | refine a4 ?_ | refine a5 ?_ | refine a6 ?_ | refine s_loadB ?_ | refine s_fieldB ?_ | refine s_loadH ?_ | refine s_fieldV ?_ | refine s_indexT ?_ | refine s_indexRT ?_ | refine s_indexArrT ?_ | refine s_len ?_ | refine s_lenR ?_ | refine s_loadBs ?_ | refine s_loadR ?_ | refine s_build ?_ | refine s_eql ?_ | refine a7 ?_ | refine a8 ?_ | refine a9 ?_ | refine RW.storeR rfl rfl rfl rfl (by first | rfl | (simp [allOne, cellsL, one1]; done) | (simp [allOne, cellsL, one1]; first | assumption | (refine ⟨?_, ?_⟩ <;> assumption))) rfl ?_ | refine a10 ?_ | refine RW.storeR1 rfl rfl (by first | rfl | exact IsSl.one1 (by assumption) | exact IsSl.one1 (SliceRep.isSl (by assumption))) rfl rfl ?_)
  have hl6 := hl5.mono hle6
  refine RW.buildSlice rfl rfl rfl rfl rfl rfl rfl (fun v52 hv52 => ?_)
  refine RW.freeze (H := H6) v52 hM (fun H7 hle7 hs7 hc7 => ?_)
  have hw7 : SliceRep H7 I64 v52 [0, 4, 3] := SliceRep.of_row hs7 rfl (ints_rep H7 [0, 4, 3]) (Snap.le.refl _) hc7
  have hC7 : Pure Try.prog 15 #[.agg #[.int .i64 4, .slice A23 5 cap23], v52] H7 (fun _ r => r = .tuple #[.int .i64 3, .bool true]) := by
    have := bcost_c (N := 4) (hl6.mono hle7) hw7 (by decide) (by decide) (by decide)
    rw [gS_c3] at this; exact this
  refine RW.callV rfl (hC7) rfl rfl ?_
  rintro _ _ rfl
  repeat (first | refine a1 ?_ | refine a3 ?_ | refine a4 ?_ | refine a5 ?_ | refine a6 ?_ | refine s_loadB ?_ | refine s_fieldB ?_ | refine s_loadH ?_ | refine s_fieldV ?_ | refine s_indexT ?_ | refine s_indexRT ?_ | refine s_indexArrT ?_ | refine s_len ?_ | refine s_lenR ?_ | refine s_loadBs ?_ | refine s_loadR ?_ | refine s_build ?_ | refine s_eql ?_ | refine a7 ?_ | refine a8 ?_ | refine a9 ?_ | refine RW.storeR rfl rfl rfl rfl (by first | rfl | (simp [allOne, cellsL, one1]; done) | (simp [allOne, cellsL, one1]; first | assumption | (refine ⟨?_, ?_⟩ <;> assumption))) rfl ?_ | refine a10 ?_ | refine RW.storeR1 rfl rfl (by first | rfl | exact IsSl.one1 (by assumption) | exact IsSl.one1 (SliceRep.isSl (by assumption))) rfl rfl ?_)
  refine RW.buildSlice rfl rfl rfl rfl rfl rfl rfl (fun v58 hv58 => ?_)
  refine RW.freeze (H := H7) v58 hM (fun H8 hle8 hs8 hc8 => ?_)
  have hw8 : SliceRep H8 I64 v58 [0, 3] := SliceRep.of_row hs8 rfl (ints_rep H8 [0, 3]) (Snap.le.refl _) hc8
  have hC8 : Pure Try.prog 15 #[.agg #[.int .i64 4, .slice A23 5 cap23], v58] H8 (fun _ r => r = .tuple #[.int .i64 0, .bool false]) := by
    have := bcost_c (N := 4) ((hl6.mono hle7).mono hle8) hw8 (by decide) (by decide) (by decide)
    rw [gS_c2] at this; exact this
  refine RW.callV rfl (hC8) rfl rfl ?_
  rintro _ _ rfl
  repeat (first | refine a1 ?_ | refine a3 ?_ | refine a4 ?_ | refine a5 ?_ | refine a6 ?_ | refine s_loadB ?_ | refine s_fieldB ?_ | refine s_loadH ?_ | refine s_fieldV ?_ | refine s_indexT ?_ | refine s_indexRT ?_ | refine s_indexArrT ?_ | refine s_len ?_ | refine s_lenR ?_ | refine s_loadBs ?_ | refine s_loadR ?_ | refine s_build ?_ | refine s_eql ?_ | refine a7 ?_ | refine a8 ?_ | refine a9 ?_ | refine RW.storeR rfl rfl rfl rfl (by first | rfl | (simp [allOne, cellsL, one1]; done) | (simp [allOne, cellsL, one1]; first | assumption | (refine ⟨?_, ?_⟩ <;> assumption))) rfl ?_ | refine a10 ?_ | refine RW.storeR1 rfl rfl (by first | rfl | exact IsSl.one1 (by assumption) | exact IsSl.one1 (SliceRep.isSl (by assumption))) rfl rfl ?_)
  have hl8 := (hl6.mono hle7).mono hle8
  refine RW.buildSlice rfl rfl rfl rfl rfl rfl rfl (fun v62 hv62 => ?_)
  obtain ⟨A62, c62, rfl, _, _⟩ := hv62
  repeat (first | refine a1 ?_ | refine a3 ?_ | refine a4 ?_ | refine a5 ?_ | refine a6 ?_ | refine s_loadB ?_ | refine s_fieldB ?_ | refine s_loadH ?_ | refine s_fieldV ?_ | refine s_indexT ?_ | refine s_indexRT ?_ | refine s_indexArrT ?_ | refine s_len ?_ | refine s_lenR ?_ | refine s_loadBs ?_ | refine s_loadR ?_ | refine s_build ?_ | refine s_eql ?_ | refine a7 ?_ | refine a8 ?_ | refine a9 ?_ | refine RW.storeR rfl rfl rfl rfl (by first | rfl | (simp [allOne, cellsL, one1]; done) | (simp [allOne, cellsL, one1]; first | assumption | (refine ⟨?_, ?_⟩ <;> assumption))) rfl ?_ | refine a10 ?_ | refine RW.storeR1 rfl rfl (by first | rfl | exact IsSl.one1 (by assumption) | exact IsSl.one1 (SliceRep.isSl (by assumption))) rfl rfl ?_)
  refine RW.buildSlice rfl rfl rfl rfl rfl rfl rfl (fun v64 hv64 => ?_)
  obtain ⟨A64, c64, rfl, _, _⟩ := hv64
  repeat (first | refine a1 ?_ | refine a3 ?_ | refine a4 ?_ | refine a5 ?_ | refine a6 ?_ | refine s_loadB ?_ | refine s_fieldB ?_ | refine s_loadH ?_ | refine s_fieldV ?_ | refine s_indexT ?_ | refine s_indexRT ?_ | refine s_indexArrT ?_ | refine s_len ?_ | refine s_lenR ?_ | refine s_loadBs ?_ | refine s_loadR ?_ | refine s_build ?_ | refine s_eql ?_ | refine a7 ?_ | refine a8 ?_ | refine a9 ?_ | refine RW.storeR rfl rfl rfl rfl (by first | rfl | (simp [allOne, cellsL, one1]; done) | (simp [allOne, cellsL, one1]; first | assumption | (refine ⟨?_, ?_⟩ <;> assumption))) rfl ?_ | refine a10 ?_ | refine RW.storeR1 rfl rfl (by first | rfl | exact IsSl.one1 (by assumption) | exact IsSl.one1 (SliceRep.isSl (by assumption))) rfl rfl ?_)
  refine RW.buildSlice rfl rfl rfl rfl rfl rfl rfl (fun v66 hv66 => ?_)
  obtain ⟨A66, c66, rfl, _, _⟩ := hv66
  repeat (first | refine a1 ?_ | refine a3 ?_ | refine a4 ?_ | refine a5 ?_ | refine a6 ?_ | refine s_loadB ?_ | refine s_fieldB ?_ | refine s_loadH ?_ | refine s_fieldV ?_ | refine s_indexT ?_ | refine s_indexRT ?_ | refine s_indexArrT ?_ | refine s_len ?_ | refine s_lenR ?_ | refine s_loadBs ?_ | refine s_loadR ?_ | refine s_build ?_ | refine s_eql ?_ | refine a7 ?_ | refine a8 ?_ | refine a9 ?_ | refine RW.storeR rfl rfl rfl rfl (by first | rfl | (simp [allOne, cellsL, one1]; done) | (simp [allOne, cellsL, one1]; first | assumption | (refine ⟨?_, ?_⟩ <;> assumption))) rfl ?_ | refine a10 ?_ | refine RW.storeR1 rfl rfl (by first | rfl | exact IsSl.one1 (by assumption) | exact IsSl.one1 (SliceRep.isSl (by assumption))) rfl rfl ?_)
  refine RW.buildSlice rfl rfl rfl rfl rfl rfl rfl (fun v68 hv68 => ?_)
  refine RW.freeze (H := H8) (.slice A62 2 c62) hM (fun H9 hle9 hs9 hc9 => ?_)
  have hw9 : SliceRep H9 I64 (.slice A62 2 c62) [0, 2] := SliceRep.of_row hs9 rfl (ints_rep H9 [0, 2]) (Snap.le.refl _) hc9
  refine RW.freeze (H := H9) (.slice A64 3 c64) hM (fun H10 hle10 hs10 hc10 => ?_)
  have hw10 : SliceRep H10 I64 (.slice A64 3 c64) [0, 4, 3] := SliceRep.of_row hs10 rfl (ints_rep H10 [0, 4, 3]) (Snap.le.refl _) hc10
  refine RW.freeze (H := H10) (.slice A66 2 c66) hM (fun H11 hle11 hs11 hc11 => ?_)
  have hw11 : SliceRep H11 I64 (.slice A66 2 c66) [1, 3] := SliceRep.of_row hs11 rfl (ints_rep H11 [1, 3]) (Snap.le.refl _) hc11
  refine RW.freeze (H := H11) v68 hM (fun H12 hle12 hs12 hc12 => ?_)
  have hx0 := ((hw9.mono hle10).mono hle11).mono hle12
  have hx1 := (hw10.mono hle11).mono hle12
  have hx2 := hw11.mono hle12
  have hw : SliceRep H12 CandL v68 wantS := SliceRep.of_row (ys := wantS) hs12 rfl ⟨_, _, rfl, ⟨_, rfl, hx0⟩, ⟨_, _, rfl, ⟨_, rfl, hx1⟩, ⟨_, _, rfl, ⟨_, rfl, hx2⟩, rfl⟩⟩⟩ (Snap.le.refl _) hc12
  have hgot := (((((((((hvr2.mono hle3).mono hle4).mono hle5).mono hle6).mono hle7).mono hle8).mono hle9).mono hle10).mono hle11).mono hle12
  have hl12 := (((hl8.mono hle9).mono hle10).mono hle11).mono hle12
  have hSame : Pure Try.prog 17 #[vr2, v68] H12 (fun _ r => r = .bool true) := (same_c hgot hw).mono fun _ _ _ h => by rw [h]; simp
  have hs3 : IsSl vr3 1 := hvr3.isSl
  have hs4 : IsSl vr4 0 := hvr4.isSl
  obtain ⟨vl3, hvl3, h30, h31, _⟩ := hvr3.cand (k := 0) (x := ⟨[], 0⟩) rfl
  have hsl3 : IsSl vl3 0 := hvl3.isSl
  repeat (first | refine a1 ?_ | refine a3 ?_ | refine a4 ?_ | refine a5 ?_ | refine a6 ?_ | refine s_loadB ?_ | refine s_fieldB ?_ | refine s_loadH ?_ | refine s_fieldV ?_ | refine s_indexT ?_ | refine s_indexRT ?_ | refine s_indexArrT ?_ | refine s_len ?_ | refine s_lenR ?_ | refine s_loadBs ?_ | refine s_loadR ?_ | refine s_build ?_ | refine s_eql ?_ | refine a7 ?_ | refine a8 ?_ | refine a9 ?_ | refine RW.storeR rfl rfl rfl rfl (by first | rfl | (simp [allOne, cellsL, one1]; done) | (simp [allOne, cellsL, one1]; first | assumption | (refine ⟨?_, ?_⟩ <;> assumption))) rfl ?_ | refine a10 ?_ | refine RW.storeR1 rfl rfl (by first | rfl | exact IsSl.one1 (by assumption) | exact IsSl.one1 (SliceRep.isSl (by assumption))) rfl rfl ?_)
  refine RW.callV rfl (hSame) rfl rfl ?_
  rintro _ _ rfl
  repeat (first | refine a1 ?_ | refine a3 ?_ | refine a4 ?_ | refine a5 ?_ | refine a6 ?_ | refine s_loadB ?_ | refine s_fieldB ?_ | refine s_loadH ?_ | refine s_fieldV ?_ | refine s_indexT ?_ | refine s_indexRT ?_ | refine s_indexArrT ?_ | refine s_len ?_ | refine s_lenR ?_ | refine s_loadBs ?_ | refine s_loadR ?_ | refine s_build ?_ | refine s_eql ?_ | refine a7 ?_ | refine a8 ?_ | refine a9 ?_ | refine RW.storeR rfl rfl rfl rfl (by first | rfl | (simp [allOne, cellsL, one1]; done) | (simp [allOne, cellsL, one1]; first | assumption | (refine ⟨?_, ?_⟩ <;> assumption))) rfl ?_ | refine a10 ?_ | refine RW.storeR1 rfl rfl (by first | rfl | exact IsSl.one1 (by assumption) | exact IsSl.one1 (SliceRep.isSl (by assumption))) rfl rfl ?_)
  have hw0 := hw.cand (k := 0) (x := ⟨[0, 2], 3⟩) rfl
  have hw1 := hw.cand (k := 1) (x := ⟨[0, 4, 3], 3⟩) rfl
  obtain ⟨v0, hv0, _, _, h0⟩ := hw0
  obtain ⟨v1, hv1, _, _, h1⟩ := hw1
  have hNum : Pure Try.prog 18 #[.agg #[.int .i64 4, .slice A23 5 cap23]] H12 (fun _ r => r = .int .i64 3) := (bnum_c (N := 4) hl12 gS_valid).mono fun _ _ _ ⟨t, h, e⟩ => by rw [e, gS_num h]
  have hLess : Pure Try.prog 20 #[.agg #[.int .i64 4, .slice A23 5 cap23], .agg #[v0, .int .i64 3], .agg #[v1, .int .i64 3]] H12 (fun _ r => r = .bool true) := (bless_c (a := ⟨[0, 2], 3⟩) (b := ⟨[0, 4, 3], 3⟩) hv0 hv1).mono fun _ _ _ h => by rw [h]; rfl
  have hLess2 : Pure Try.prog 20 #[.agg #[.int .i64 4, .slice A23 5 cap23], .agg #[v1, .int .i64 3], .agg #[v1, .int .i64 3]] H12 (fun _ r => r = .bool false) := (bless_c (a := ⟨[0, 4, 3], 3⟩) (b := ⟨[0, 4, 3], 3⟩) hv1 hv1).mono fun _ _ _ h => by rw [h]; rfl
  have hVal : Pure Try.prog 25 #[.agg #[.int .i64 4, .slice A23 5 cap23]] H12 (fun _ r => r = .bool true) := (bvalid_c (N := 4) hl12).mono fun _ _ _ h => by rw [h, decide_eq_true gS_valid]
  have hs68 : IsSl v68 3 := hw.isSl
  refine Runs.regionD _ _ [] (fun x hx => List.mem_cons_of_mem _ hx) (List.Sublist.refl _) (by kernel_rfl) ?_
  refine d1 0 2 ?_
  refine d1 2 3 ?_
  refine d1 5 4 ?_
  refine d1 9 4 ?_
  (first | refine t_loadB 13 ?_ | refine t_loadH 13 ?_ | refine t_loadBs 13 ?_ | refine t_loadR 13 ?_)
  refine DW.callV 14 rfl (by kernel_rfl) rfl (hNum) rfl rfl ?_
  rintro _ _ rfl
  refine d1 15 3 ?_
  (first | refine t_loadB 18 ?_ | refine t_loadH 18 ?_ | refine t_loadBs 18 ?_ | refine t_loadR 18 ?_)
  refine d2 19 ?_
  (first | refine t_indexT 20 ?_ | refine t_indexRT 20 ?_ | refine t_indexArrT 20 ?_ | refine t_indexArrB 20 ?_)
  refine DW.q 21 rfl (by kernel_rfl) (QV.loadHs rfl (h0)) rfl rfl ?_
  refine d2 22 ?_
  (first | refine t_indexT 23 ?_ | refine t_indexRT 23 ?_ | refine t_indexArrT 23 ?_ | refine t_indexArrB 23 ?_)
  refine DW.q 24 rfl (by kernel_rfl) (QV.loadHs rfl (h1)) rfl rfl ?_
  refine DW.callV 25 rfl (by kernel_rfl) rfl (hLess) rfl rfl ?_
  rintro _ _ rfl
  refine d1 26 2 ?_
  (first | refine t_loadB 28 ?_ | refine t_loadH 28 ?_ | refine t_loadBs 28 ?_ | refine t_loadR 28 ?_)
  refine d2 29 ?_
  (first | refine t_indexT 30 ?_ | refine t_indexRT 30 ?_ | refine t_indexArrT 30 ?_ | refine t_indexArrB 30 ?_)
  refine DW.q 31 rfl (by kernel_rfl) (QV.loadHs rfl (h1)) rfl rfl ?_
  refine d2 32 ?_
  (first | refine t_indexT 33 ?_ | refine t_indexRT 33 ?_ | refine t_indexArrT 33 ?_ | refine t_indexArrB 33 ?_)
  refine DW.q 34 rfl (by kernel_rfl) (QV.loadHs rfl (h1)) rfl rfl ?_
  refine DW.callV 35 rfl (by kernel_rfl) rfl (hLess2) rfl rfl ?_
  rintro _ _ rfl
  refine d1 36 3 ?_
  (first | refine t_loadB 39 ?_ | refine t_loadH 39 ?_ | refine t_loadBs 39 ?_ | refine t_loadR 39 ?_)
  refine DW.callV 40 rfl (by kernel_rfl) rfl (hVal) rfl rfl ?_
  rintro _ _ rfl
  refine d1 41 2 ?_
  refine t_build 43 ?_
  refine DW.buildSlice 44 rfl (by kernel_rfl) rfl rfl rfl rfl rfl rfl rfl (fun v161 hv161 => ?_)
  obtain ⟨A161, c161, rfl, _, _⟩ := hv161
  refine DW.freeze (H := H12) (.slice A161 1 c161) hM inferInstance inferInstance (fun H13 hle13 hs13 hc13 => ?_)
  have hl13 : SliceRep H13 LinkL (.slice A161 1 c161) [⟨1, 1, 0, 0⟩] := SliceRep.of_row hs13 rfl (flat_rep ([⟨1, 1, 0, 0⟩] : List Lnk)) (Snap.le.refl _) hc13
  have hVal2 : Pure Try.prog 25 #[.agg #[.int .i64 2, .slice A161 1 c161]] H13 (fun _ r => r = .bool false) := (bvalid_c (N := 2) hl13).mono fun _ _ _ h => by rw [h, decide_eq_false (by decide)]
  refine t_build 45 ?_
  refine DW.callV 46 rfl (by kernel_rfl) rfl (hVal2) rfl rfl ?_
  rintro _ _ rfl
  refine d1 47 3 ?_
  refine DW.done (by kernel_rfl) ?_
  repeat (first | refine a1 ?_ | refine a3 ?_ | refine a4 ?_ | refine a5 ?_ | refine a6 ?_ | refine s_loadB ?_ | refine s_fieldB ?_ | refine s_loadH ?_ | refine s_fieldV ?_ | refine s_indexT ?_ | refine s_indexRT ?_ | refine s_indexArrT ?_ | refine s_len ?_ | refine s_lenR ?_ | refine s_loadBs ?_ | refine s_loadR ?_ | refine s_build ?_ | refine s_eql ?_ | refine a7 ?_ | refine a8 ?_ | refine a9 ?_ | refine RW.storeR rfl rfl rfl rfl (by first | rfl | (simp [allOne, cellsL, one1]; done) | (simp [allOne, cellsL, one1]; first | assumption | (refine ⟨?_, ?_⟩ <;> assumption))) rfl ?_ | refine a10 ?_ | refine RW.storeR1 rfl rfl (by first | rfl | exact IsSl.one1 (by assumption) | exact IsSl.one1 (SliceRep.isSl (by assumption))) rfl rfl ?_)
  refine Runs.ret1 Try.func11 Try.results11 rfl (fun w hm => hR _ w _ H _ (List.mem_cons_self ..) (Snap.le.refl _) ?_ hm)
  rfl
end Go.Proofs.Ytonleimnjgmfeaa

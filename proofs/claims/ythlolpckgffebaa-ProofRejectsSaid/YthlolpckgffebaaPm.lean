/-
  The fixed examples of the layer of proofs, and the reference's First. Conditions: for First, at most 2000 ways.
-/
import Derived.Test.YthlolpckgffebaaPl
namespace Go.Proofs.Ythlolpckgffebaa
open Go Go.RowKit

def g3 : List Lnk := [⟨0, 1, 0, 1⟩, ⟨1, 2, 0, 1⟩, ⟨0, 2, 0, 5⟩]
def cA : Cand := ⟨[0, 1], 2⟩
def cB : Cand := ⟨[2], 5⟩
theorem g3_valid : validG 3 g3 := by decide
theorem g3_pot : potL 3 g3 = [2, 1, 0] := by decide
theorem g3_potE : potE 3 g3 = 0 := by decide
theorem g0_pot : potL 0 [] = [] := by decide
theorem g0_potE : potE 0 [] = 150 := by decide
theorem k3a : checkR 3 g3 [2, 1, 0] [cA] false = (1, 0) := by rw [check_eq]; decide
theorem k3b : checkR 3 g3 [2, 1, 0] [cB] false = (0, 160) := by rw [check_eq]; decide
theorem k3c : checkR 3 g3 [2, 1, 0] [cA, cB] false = (2, 160) := by rw [check_eq]; decide
theorem k3d : checkR 3 g3 [2, 1, 1] [] false = (-1, 160) := by rw [check_eq]; decide
theorem k0e : checkR 0 [] [] [] false = (0, 150) := by rw [check_eq]; decide
theorem k3f : checkR 3 g3 [2, 1, 0] [cA, cB] true = (2, 0) := by rw [check_eq]; decide
theorem r3a : rightP 3 g3 [2, 1, 0] := by decide
theorem r3b : ¬ rightP 3 g3 [2, 1] := by decide
theorem r0c : ¬ rightP 0 [] [] := by decide

theorem three_c {H : Snap} : Pure Try.prog 24 #[] H (fun H' r => ∃ v, r = .agg #[.int .i64 3, v] ∧ SliceRep H' LinkL v g3) := by
  refine Pure.intro Try.func24 rfl Try.ntmps24 rfl (fun E R hM hR => ?_)
  repeat (first | refine a1 ?_ | refine a3 ?_ | refine a4 ?_ | refine a5 ?_ | refine a6 ?_ | refine s_build ?_ | refine a7 ?_ | refine a8 ?_ | refine a9 ?_ | refine RW.storeR rfl rfl rfl rfl (by first | rfl | (simp [allOne, cellsL, one1]; done) | (simp [allOne, cellsL, one1]; first | assumption | (refine ⟨?_, ?_⟩ <;> assumption))) rfl ?_ | refine a10 ?_ | refine RW.storeR1 rfl rfl (by first | rfl | exact IsSl.one1 (by assumption) | exact IsSl.one1 (SliceRep.isSl (by assumption))) rfl rfl ?_)
  refine RW.alloc rfl rfl rfl (fun b0 => ?_)
  repeat (first | refine a1 ?_ | refine a3 ?_ | refine a4 ?_ | refine a5 ?_ | refine a6 ?_ | refine s_build ?_ | refine a7 ?_ | refine a8 ?_ | refine a9 ?_ | refine RW.storeR rfl rfl rfl rfl (by first | rfl | (simp [allOne, cellsL, one1]; done) | (simp [allOne, cellsL, one1]; first | assumption | (refine ⟨?_, ?_⟩ <;> assumption))) rfl ?_ | refine a10 ?_ | refine RW.storeR1 rfl rfl (by first | rfl | exact IsSl.one1 (by assumption) | exact IsSl.one1 (SliceRep.isSl (by assumption))) rfl rfl ?_)
  refine RW.buildSlice rfl rfl rfl rfl rfl rfl rfl (fun v4 hv4 => ?_)
  obtain ⟨A4, c4, rfl, _, _⟩ := hv4
  repeat (first | refine a1 ?_ | refine a3 ?_ | refine a4 ?_ | refine a5 ?_ | refine a6 ?_ | refine s_build ?_ | refine a7 ?_ | refine a8 ?_ | refine a9 ?_ | refine RW.storeR rfl rfl rfl rfl (by first | rfl | (simp [allOne, cellsL, one1]; done) | (simp [allOne, cellsL, one1]; first | assumption | (refine ⟨?_, ?_⟩ <;> assumption))) rfl ?_ | refine a10 ?_ | refine RW.storeR1 rfl rfl (by first | rfl | exact IsSl.one1 (by assumption) | exact IsSl.one1 (SliceRep.isSl (by assumption))) rfl rfl ?_)
  refine Runs.freeze (H := H) (.slice A4 3 c4) hM (fun H1 hle1 hs1 hc1 => ?_)
  refine Runs.retC Try.func24 Try.results24 rfl (fun w hm => hR _ w _ H1 _ (by simp) (hle1) ?_ hm)
  exact ⟨_, rfl, SliceRep.of_row hs1 rfl (flat_rep g3) (Snap.le.refl _) hc1⟩

set_option maxHeartbeats 1000000 in
theorem first_c {H : Snap} {vl : Value} {N n : Nat} {gl : List Lnk} (hl : SliceRep H LinkL vl gl) (hg : validG N gl) (hfew : (waysG gl N N 0).length ≤ 2000) (hn : n ≤ 1000000) :
    Pure Try.prog 17 #[.agg #[.int .i64 (N : Int), vl], .int .i64 (n : Int)] H (fun H' r => ∃ v, r = .agg #[v, .bool (decide (min n (allW gl N).length = (allW gl N).length))] ∧ SliceRep H' CandL v ((allW gl N).take n)) := by
  have hao : (allW gl N).length = (waysG gl N N 0).length := ordered_length _
  have hN1 := hg.1
  refine Pure.intro Try.func17 rfl Try.ntmps17 rfl (fun E R hM hR => ?_)
  repeat (first | refine a1 ?_ | refine a3 ?_ | refine a4 ?_ | refine a5 ?_ | refine a6 ?_ | refine s_loadBs ?_ | refine s_loadHs ?_ | refine s_len ?_ | refine s_lenR ?_ | refine s_min ?_ | refine s_sliceHi ?_ | refine s_build ?_ | refine a7 ?_ | refine a8 ?_ | refine a9 ?_ | refine RW.storeR rfl rfl rfl rfl (by first | rfl | (simp [allOne, cellsL, one1]; done) | (simp [allOne, cellsL, one1]; first | assumption | (refine ⟨?_, ?_⟩ <;> assumption))) rfl ?_ | refine a10 ?_ | refine RW.storeR1 rfl rfl (by first | rfl | exact IsSl.one1 (by assumption) | exact IsSl.one1 (SliceRep.isSl (by assumption))) rfl rfl ?_)
  refine RW.box rfl rfl rfl rfl (fun b2 => ?_)
  refine RW.alloc rfl rfl rfl (fun b4 => ?_)
  repeat (first | refine a1 ?_ | refine a3 ?_ | refine a4 ?_ | refine a5 ?_ | refine a6 ?_ | refine s_loadBs ?_ | refine s_loadHs ?_ | refine s_len ?_ | refine s_lenR ?_ | refine s_min ?_ | refine s_sliceHi ?_ | refine s_build ?_ | refine a7 ?_ | refine a8 ?_ | refine a9 ?_ | refine RW.storeR rfl rfl rfl rfl (by first | rfl | (simp [allOne, cellsL, one1]; done) | (simp [allOne, cellsL, one1]; first | assumption | (refine ⟨?_, ?_⟩ <;> assumption))) rfl ?_ | refine a10 ?_ | refine RW.storeR1 rfl rfl (by first | rfl | exact IsSl.one1 (by assumption) | exact IsSl.one1 (SliceRep.isSl (by assumption))) rfl rfl ?_)
  refine RW.call rfl (ways_c (most := 2000) (by omega) hg N 0 H hl (by have := hg.2.1; omega) (by omega) (by omega) (by omega) hfew) rfl rfl ?_
  rintro va Ha hva hlea
  repeat (first | refine a1 ?_ | refine a3 ?_ | refine a4 ?_ | refine a5 ?_ | refine a6 ?_ | refine s_loadBs ?_ | refine s_loadHs ?_ | refine s_len ?_ | refine s_lenR ?_ | refine s_min ?_ | refine s_sliceHi ?_ | refine s_build ?_ | refine a7 ?_ | refine a8 ?_ | refine a9 ?_ | refine RW.storeR rfl rfl rfl rfl (by first | rfl | (simp [allOne, cellsL, one1]; done) | (simp [allOne, cellsL, one1]; first | assumption | (refine ⟨?_, ?_⟩ <;> assumption))) rfl ?_ | refine a10 ?_ | refine RW.storeR1 rfl rfl (by first | rfl | exact IsSl.one1 (by assumption) | exact IsSl.one1 (SliceRep.isSl (by assumption))) rfl rfl ?_)
  refine RW.call rfl (ordered_c hva (by omega)) rfl rfl ?_
  rintro vo Ho hvo hleo
  have hvo' : SliceRep Ho CandL vo (allW gl N) := hvo
  have hbo := hvo'.isSl
  repeat (first | refine a1 ?_ | refine a3 ?_ | refine a4 ?_ | refine a5 ?_ | refine a6 ?_ | refine s_loadBs ?_ | refine s_loadHs ?_ | refine s_len ?_ | refine s_lenR ?_ | refine s_min ?_ | refine s_sliceHi ?_ | refine s_build ?_ | refine a7 ?_ | refine a8 ?_ | refine a9 ?_ | refine RW.storeR rfl rfl rfl rfl (by first | rfl | (simp [allOne, cellsL, one1]; done) | (simp [allOne, cellsL, one1]; first | assumption | (refine ⟨?_, ?_⟩ <;> assumption))) rfl ?_ | refine a10 ?_ | refine RW.storeR1 rfl rfl (by first | rfl | exact IsSl.one1 (by assumption) | exact IsSl.one1 (SliceRep.isSl (by assumption))) rfl rfl ?_)
  rw [min_ite]
  have hm1 : min n (allW gl N).length ≤ (allW gl N).length := Nat.min_le_right ..
  have htk : (allW gl N).take n = (allW gl N).take (min n (allW gl N).length) := by
    rw [List.take_eq_take_iff]; omega
  rw [htk] at hR
  generalize min n (allW gl N).length = m at hm1 hR ⊢
  repeat (first | refine a1 ?_ | refine a3 ?_ | refine a4 ?_ | refine a5 ?_ | refine a6 ?_ | refine s_loadBs ?_ | refine s_loadHs ?_ | refine s_len ?_ | refine s_lenR ?_ | refine s_min ?_ | refine s_sliceHi ?_ | refine s_build ?_ | refine a7 ?_ | refine a8 ?_ | refine a9 ?_ | refine RW.storeR rfl rfl rfl rfl (by first | rfl | (simp [allOne, cellsL, one1]; done) | (simp [allOne, cellsL, one1]; first | assumption | (refine ⟨?_, ?_⟩ <;> assumption))) rfl ?_ | refine a10 ?_ | refine RW.storeR1 rfl rfl (by first | rfl | exact IsSl.one1 (by assumption) | exact IsSl.one1 (SliceRep.isSl (by assumption))) rfl rfl ?_)
  refine RW.buildSlice rfl rfl rfl rfl rfl rfl rfl (fun v14 hv14 => ?_)
  repeat (first | refine a1 ?_ | refine a3 ?_ | refine a4 ?_ | refine a5 ?_ | refine a6 ?_ | refine s_loadBs ?_ | refine s_loadHs ?_ | refine s_len ?_ | refine s_lenR ?_ | refine s_min ?_ | refine s_sliceHi ?_ | refine s_build ?_ | refine a7 ?_ | refine a8 ?_ | refine a9 ?_ | refine RW.storeR rfl rfl rfl rfl (by first | rfl | (simp [allOne, cellsL, one1]; done) | (simp [allOne, cellsL, one1]; first | assumption | (refine ⟨?_, ?_⟩ <;> assumption))) rfl ?_ | refine a10 ?_ | refine RW.storeR1 rfl rfl (by first | rfl | exact IsSl.one1 (by assumption) | exact IsSl.one1 (SliceRep.isSl (by assumption))) rfl rfl ?_)
  have hslo : SliceRep Ho CandL (slv vo 2 0 m (capOf vo)) (((allW gl N).drop 0).take (m - 0)) := hvo'.slv rfl (Nat.zero_le _) hm1 (Nat.le_trans hm1 hvo'.capOf_le) (Nat.le_refl _)
  have hl1 : (((allW gl N).drop 0).take (m - 0)).length = m := by simp only [List.drop_zero, Nat.sub_zero, List.length_take]; omega
  refine RW.appendH rfl rfl (hslo) (by rfl) rfl (by decide) (by omega) (by omega) (fun _ _ => inferInstance) rfl rfl (fun d1 v18 hd1 hv18 => ?_)
  obtain ⟨A18, c18, rfl, _, _⟩ := hv18
  have hdd : decide ((m : Int) = ((allW gl N).length : Int)) = decide (m = (allW gl N).length) := by rw [decide_eq_decide]; omega
  repeat (first | refine a1 ?_ | refine a3 ?_ | refine a4 ?_ | refine a5 ?_ | refine a6 ?_ | refine s_loadBs ?_ | refine s_loadHs ?_ | refine s_len ?_ | refine s_lenR ?_ | refine s_min ?_ | refine s_sliceHi ?_ | refine s_build ?_ | refine a7 ?_ | refine a8 ?_ | refine a9 ?_ | refine RW.storeR rfl rfl rfl rfl (by first | rfl | (simp [allOne, cellsL, one1]; done) | (simp [allOne, cellsL, one1]; first | assumption | (refine ⟨?_, ?_⟩ <;> assumption))) rfl ?_ | refine a10 ?_ | refine RW.storeR1 rfl rfl (by first | rfl | exact IsSl.one1 (by assumption) | exact IsSl.one1 (SliceRep.isSl (by assumption))) rfl rfl ?_)
  refine Runs.freeze (H := Ho) (.slice A18 (0 + (((allW gl N).drop 0).take (m - 0)).length) c18) hM (fun H1 hle1 hs1 hc1 => ?_)
  rw [hdd]
  refine Runs.retC Try.func17 Try.results17 rfl (fun w hm => hR _ w _ H1 _ (by simp) ((hlea.trans hleo).trans hle1) ?_ hm)
  refine ⟨_, rfl, SliceRep.of_row hs1 (by simp) ?_ (Snap.le.refl _) hc1⟩
  have := hd1.mono hle1
  rwa [List.drop_zero, Nat.sub_zero] at this

set_option maxHeartbeats 8000000 in
theorem sanity16_c {H : Snap} : Pure Try.prog 10 #[] H (fun _ r => r = .bool true) := by
  have hP0 : ∀ H, Pure Try.prog 12 #[.agg #[.int .i64 0, .slice none 0 0]] H (fun H' r => ∃ v, r = .tuple #[v, .int .i64 150] ∧ SliceRep H' I64 v []) := fun H => by
    have := bpot_c (H := H) (N := 0) (gl := []) SliceRep.nil
    rw [g0_pot, g0_potE] at this; exact this
  have hC0 : ∀ H, Pure Try.prog 18 #[.agg #[.int .i64 0, .slice none 0 0], .slice none 0 0, .agg #[.slice none 0 0, .bool false]] H (fun _ r => r = .tuple #[.int .i64 0, .int .i64 150]) := fun H => by
    have := bcheck_c (H := H) (N := 0) (gl := []) (h := []) (L := []) (w := false) SliceRep.nil SliceRep.nil SliceRep.nil (by simp) (by simp)
    rw [k0e] at this; exact this
  have hR0 : ∀ H, Pure Try.prog 15 #[.agg #[.int .i64 0, .slice none 0 0], .slice none 0 0] H (fun _ r => r = .bool false) := fun H => by
    have := bright_c (H := H) (N := 0) (gl := []) (h := []) SliceRep.nil SliceRep.nil
    rw [decide_eq_false r0c] at this; exact this
  refine Pure.intro Try.func10 rfl Try.ntmps10 rfl (fun E R hM hR => ?_)
  repeat (first | refine a1 ?_ | refine a3 ?_ | refine a4 ?_ | refine a5 ?_ | refine a6 ?_ | refine s_build ?_ | refine s_loadBs ?_ | refine s_loadHs ?_ | refine a7 ?_ | refine a8 ?_ | refine a9 ?_ | refine RW.storeR rfl rfl rfl rfl (by first | rfl | (simp [allOne, cellsL, one1]; done) | (simp [allOne, cellsL, one1]; first | assumption | (refine ⟨?_, ?_⟩ <;> assumption))) rfl ?_ | refine a10 ?_ | refine RW.storeR1 rfl rfl (by first | rfl | exact IsSl.one1 (by assumption) | exact IsSl.one1 (SliceRep.isSl (by assumption))) rfl rfl ?_)
  refine RW.call rfl (three_c (H := H)) rfl rfl ?_
  rintro _ H1 ⟨vg, rfl, hg⟩ hle1
  have hg1 := hg.isSl.one1
  have hP : Pure Try.prog 12 #[.agg #[.int .i64 3, vg]] H1 (fun H' r => ∃ v, r = .tuple #[v, .int .i64 0] ∧ SliceRep H' I64 v [2, 1, 0]) := by
    have := bpot_c (N := 3) hg
    rw [g3_pot, g3_potE] at this; exact this
  repeat (first | refine a1 ?_ | refine a3 ?_ | refine a4 ?_ | refine a5 ?_ | refine a6 ?_ | refine s_build ?_ | refine s_loadBs ?_ | refine s_loadHs ?_ | refine a7 ?_ | refine a8 ?_ | refine a9 ?_ | refine RW.storeR rfl rfl rfl rfl (by first | rfl | (simp [allOne, cellsL, one1]; done) | (simp [allOne, cellsL, one1]; first | assumption | (refine ⟨?_, ?_⟩ <;> assumption))) rfl ?_ | refine a10 ?_ | refine RW.storeR1 rfl rfl (by first | rfl | exact IsSl.one1 (by assumption) | exact IsSl.one1 (SliceRep.isSl (by assumption))) rfl rfl ?_)
  refine RW.alloc rfl rfl rfl (fun b1 => ?_)
  repeat (first | refine a1 ?_ | refine a3 ?_ | refine a4 ?_ | refine a5 ?_ | refine a6 ?_ | refine s_build ?_ | refine s_loadBs ?_ | refine s_loadHs ?_ | refine a7 ?_ | refine a8 ?_ | refine a9 ?_ | refine RW.storeR rfl rfl rfl rfl (by first | rfl | (simp [allOne, cellsL, one1]; done) | (simp [allOne, cellsL, one1]; first | assumption | (refine ⟨?_, ?_⟩ <;> assumption))) rfl ?_ | refine a10 ?_ | refine RW.storeR1 rfl rfl (by first | rfl | exact IsSl.one1 (by assumption) | exact IsSl.one1 (SliceRep.isSl (by assumption))) rfl rfl ?_)
  refine RW.buildSlice rfl rfl rfl rfl rfl rfl rfl (fun v22 hv22 => ?_)
  obtain ⟨A22, c22, rfl, _, _⟩ := hv22
  repeat (first | refine a1 ?_ | refine a3 ?_ | refine a4 ?_ | refine a5 ?_ | refine a6 ?_ | refine s_build ?_ | refine s_loadBs ?_ | refine s_loadHs ?_ | refine a7 ?_ | refine a8 ?_ | refine a9 ?_ | refine RW.storeR rfl rfl rfl rfl (by first | rfl | (simp [allOne, cellsL, one1]; done) | (simp [allOne, cellsL, one1]; first | assumption | (refine ⟨?_, ?_⟩ <;> assumption))) rfl ?_ | refine a10 ?_ | refine RW.storeR1 rfl rfl (by first | rfl | exact IsSl.one1 (by assumption) | exact IsSl.one1 (SliceRep.isSl (by assumption))) rfl rfl ?_)
  refine RW.alloc rfl rfl rfl (fun b2 => ?_)
  repeat (first | refine a1 ?_ | refine a3 ?_ | refine a4 ?_ | refine a5 ?_ | refine a6 ?_ | refine s_build ?_ | refine s_loadBs ?_ | refine s_loadHs ?_ | refine a7 ?_ | refine a8 ?_ | refine a9 ?_ | refine RW.storeR rfl rfl rfl rfl (by first | rfl | (simp [allOne, cellsL, one1]; done) | (simp [allOne, cellsL, one1]; first | assumption | (refine ⟨?_, ?_⟩ <;> assumption))) rfl ?_ | refine a10 ?_ | refine RW.storeR1 rfl rfl (by first | rfl | exact IsSl.one1 (by assumption) | exact IsSl.one1 (SliceRep.isSl (by assumption))) rfl rfl ?_)
  refine RW.buildSlice rfl rfl rfl rfl rfl rfl rfl (fun v24 hv24 => ?_)
  obtain ⟨A24, c24, rfl, _, _⟩ := hv24
  repeat (first | refine a1 ?_ | refine a3 ?_ | refine a4 ?_ | refine a5 ?_ | refine a6 ?_ | refine s_build ?_ | refine s_loadBs ?_ | refine s_loadHs ?_ | refine a7 ?_ | refine a8 ?_ | refine a9 ?_ | refine RW.storeR rfl rfl rfl rfl (by first | rfl | (simp [allOne, cellsL, one1]; done) | (simp [allOne, cellsL, one1]; first | assumption | (refine ⟨?_, ?_⟩ <;> assumption))) rfl ?_ | refine a10 ?_ | refine RW.storeR1 rfl rfl (by first | rfl | exact IsSl.one1 (by assumption) | exact IsSl.one1 (SliceRep.isSl (by assumption))) rfl rfl ?_)
  refine RW.alloc rfl rfl rfl (fun b3 => ?_)
  repeat (first | refine a1 ?_ | refine a3 ?_ | refine a4 ?_ | refine a5 ?_ | refine a6 ?_ | refine s_build ?_ | refine s_loadBs ?_ | refine s_loadHs ?_ | refine a7 ?_ | refine a8 ?_ | refine a9 ?_ | refine RW.storeR rfl rfl rfl rfl (by first | rfl | (simp [allOne, cellsL, one1]; done) | (simp [allOne, cellsL, one1]; first | assumption | (refine ⟨?_, ?_⟩ <;> assumption))) rfl ?_ | refine a10 ?_ | refine RW.storeR1 rfl rfl (by first | rfl | exact IsSl.one1 (by assumption) | exact IsSl.one1 (SliceRep.isSl (by assumption))) rfl rfl ?_)
  refine RW.freeze (H := H1) (.slice A22 2 c22) hM (fun H2 hle2 hs2 hc2 => ?_)
  refine RW.freeze (H := H2) (.slice A24 1 c24) hM (fun H3 hle3 hs3 hc3 => ?_)
  have hgA : SliceRep H3 I64 (.slice A22 2 c22) cA.links := (SliceRep.of_row hs2 rfl (ints_rep H2 [0, 1]) (Snap.le.refl _) hc2).mono hle3
  have hgB : SliceRep H3 I64 (.slice A24 1 c24) cB.links := SliceRep.of_row hs3 rfl (ints_rep H3 [2]) (Snap.le.refl _) hc3
  have hg3 := (hg.mono hle2).mono hle3
  generalize Value.slice A22 2 c22 = vA at hgA ⊢
  generalize Value.slice A24 1 c24 = vB at hgB ⊢
  refine RW.call rfl (hP) rfl rfl ?_
  rintro _ H4 ⟨vp, rfl, hvp⟩ hle4
  repeat (first | refine a1 ?_ | refine a3 ?_ | refine a4 ?_ | refine a5 ?_ | refine a6 ?_ | refine s_build ?_ | refine s_loadBs ?_ | refine s_loadHs ?_ | refine a7 ?_ | refine a8 ?_ | refine a9 ?_ | refine RW.storeR rfl rfl rfl rfl (by first | rfl | (simp [allOne, cellsL, one1]; done) | (simp [allOne, cellsL, one1]; first | assumption | (refine ⟨?_, ?_⟩ <;> assumption))) rfl ?_ | refine a10 ?_ | refine RW.storeR1 rfl rfl (by first | rfl | exact IsSl.one1 (by assumption) | exact IsSl.one1 (SliceRep.isSl (by assumption))) rfl rfl ?_)
  refine RW.call rfl (hP0 H4) rfl rfl ?_
  rintro _ H5 ⟨vp0, rfl, hvp0⟩ hle5
  repeat (first | refine a1 ?_ | refine a3 ?_ | refine a4 ?_ | refine a5 ?_ | refine a6 ?_ | refine s_build ?_ | refine s_loadBs ?_ | refine s_loadHs ?_ | refine a7 ?_ | refine a8 ?_ | refine a9 ?_ | refine RW.storeR rfl rfl rfl rfl (by first | rfl | (simp [allOne, cellsL, one1]; done) | (simp [allOne, cellsL, one1]; first | assumption | (refine ⟨?_, ?_⟩ <;> assumption))) rfl ?_ | refine a10 ?_ | refine RW.storeR1 rfl rfl (by first | rfl | exact IsSl.one1 (by assumption) | exact IsSl.one1 (SliceRep.isSl (by assumption))) rfl rfl ?_)
  refine RW.buildSlice rfl rfl rfl rfl rfl rfl rfl (fun v38 hv38 => ?_)
  repeat (first | refine a1 ?_ | refine a3 ?_ | refine a4 ?_ | refine a5 ?_ | refine a6 ?_ | refine s_build ?_ | refine s_loadBs ?_ | refine s_loadHs ?_ | refine a7 ?_ | refine a8 ?_ | refine a9 ?_ | refine RW.storeR rfl rfl rfl rfl (by first | rfl | (simp [allOne, cellsL, one1]; done) | (simp [allOne, cellsL, one1]; first | assumption | (refine ⟨?_, ?_⟩ <;> assumption))) rfl ?_ | refine a10 ?_ | refine RW.storeR1 rfl rfl (by first | rfl | exact IsSl.one1 (by assumption) | exact IsSl.one1 (SliceRep.isSl (by assumption))) rfl rfl ?_)
  refine RW.buildSlice rfl rfl rfl rfl rfl rfl rfl (fun v40 hv40 => ?_)
  obtain ⟨A40, c40, rfl, _, _⟩ := hv40
  repeat (first | refine a1 ?_ | refine a3 ?_ | refine a4 ?_ | refine a5 ?_ | refine a6 ?_ | refine s_build ?_ | refine s_loadBs ?_ | refine s_loadHs ?_ | refine a7 ?_ | refine a8 ?_ | refine a9 ?_ | refine RW.storeR rfl rfl rfl rfl (by first | rfl | (simp [allOne, cellsL, one1]; done) | (simp [allOne, cellsL, one1]; first | assumption | (refine ⟨?_, ?_⟩ <;> assumption))) rfl ?_ | refine a10 ?_ | refine RW.storeR1 rfl rfl (by first | rfl | exact IsSl.one1 (by assumption) | exact IsSl.one1 (SliceRep.isSl (by assumption))) rfl rfl ?_)
  refine RW.freeze (H := H3) v38 hM (fun Ha38 hlea hsa hca => ?_)
  refine RW.freeze (H := Ha38) (.slice A40 1 c40) hM (fun Hb38 hleb hsb hcb => ?_)
  have hh38 : SliceRep Hb38 I64 v38 [2, 1, 0] := (SliceRep.of_row hsa rfl (ints_rep Ha38 [2, 1, 0]) (Snap.le.refl _) hca).mono hleb
  have hp38 : SliceRep Hb38 CandL (.slice A40 1 c40) [cA] := SliceRep.of_row (ys := [cA]) hsb rfl ⟨_, _, rfl, ⟨_, rfl, (hgA.mono hlea).mono hleb⟩, rfl⟩ (Snap.le.refl _) hcb
  have hC38 : Pure Try.prog 18 #[.agg #[.int .i64 3, vg], v38, .agg #[.slice A40 1 c40, .bool false]] Hb38 (fun _ r => r = .tuple #[.int .i64 1, .int .i64 0]) := by
    have := bcheck_c (N := 3) (w := false) ((hg3.mono hlea).mono hleb) hh38 hp38 (by decide) (by decide)
    rw [k3a] at this; exact this
  refine RW.callV rfl (hC38) rfl rfl ?_
  rintro _ _ rfl
  clear hC38 hp38 hca hcb hsa hsb hlea hleb
  repeat (first | refine a1 ?_ | refine a3 ?_ | refine a4 ?_ | refine a5 ?_ | refine a6 ?_ | refine s_build ?_ | refine s_loadBs ?_ | refine s_loadHs ?_ | refine a7 ?_ | refine a8 ?_ | refine a9 ?_ | refine RW.storeR rfl rfl rfl rfl (by first | rfl | (simp [allOne, cellsL, one1]; done) | (simp [allOne, cellsL, one1]; first | assumption | (refine ⟨?_, ?_⟩ <;> assumption))) rfl ?_ | refine a10 ?_ | refine RW.storeR1 rfl rfl (by first | rfl | exact IsSl.one1 (by assumption) | exact IsSl.one1 (SliceRep.isSl (by assumption))) rfl rfl ?_)
  refine RW.buildSlice rfl rfl rfl rfl rfl rfl rfl (fun v47 hv47 => ?_)
  repeat (first | refine a1 ?_ | refine a3 ?_ | refine a4 ?_ | refine a5 ?_ | refine a6 ?_ | refine s_build ?_ | refine s_loadBs ?_ | refine s_loadHs ?_ | refine a7 ?_ | refine a8 ?_ | refine a9 ?_ | refine RW.storeR rfl rfl rfl rfl (by first | rfl | (simp [allOne, cellsL, one1]; done) | (simp [allOne, cellsL, one1]; first | assumption | (refine ⟨?_, ?_⟩ <;> assumption))) rfl ?_ | refine a10 ?_ | refine RW.storeR1 rfl rfl (by first | rfl | exact IsSl.one1 (by assumption) | exact IsSl.one1 (SliceRep.isSl (by assumption))) rfl rfl ?_)
  refine RW.buildSlice rfl rfl rfl rfl rfl rfl rfl (fun v49 hv49 => ?_)
  obtain ⟨A49, c49, rfl, _, _⟩ := hv49
  repeat (first | refine a1 ?_ | refine a3 ?_ | refine a4 ?_ | refine a5 ?_ | refine a6 ?_ | refine s_build ?_ | refine s_loadBs ?_ | refine s_loadHs ?_ | refine a7 ?_ | refine a8 ?_ | refine a9 ?_ | refine RW.storeR rfl rfl rfl rfl (by first | rfl | (simp [allOne, cellsL, one1]; done) | (simp [allOne, cellsL, one1]; first | assumption | (refine ⟨?_, ?_⟩ <;> assumption))) rfl ?_ | refine a10 ?_ | refine RW.storeR1 rfl rfl (by first | rfl | exact IsSl.one1 (by assumption) | exact IsSl.one1 (SliceRep.isSl (by assumption))) rfl rfl ?_)
  refine RW.freeze (H := H3) v47 hM (fun Ha47 hlea hsa hca => ?_)
  refine RW.freeze (H := Ha47) (.slice A49 1 c49) hM (fun Hb47 hleb hsb hcb => ?_)
  have hh47 : SliceRep Hb47 I64 v47 [2, 1, 0] := (SliceRep.of_row hsa rfl (ints_rep Ha47 [2, 1, 0]) (Snap.le.refl _) hca).mono hleb
  have hp47 : SliceRep Hb47 CandL (.slice A49 1 c49) [cB] := SliceRep.of_row (ys := [cB]) hsb rfl ⟨_, _, rfl, ⟨_, rfl, (hgB.mono hlea).mono hleb⟩, rfl⟩ (Snap.le.refl _) hcb
  have hC47 : Pure Try.prog 18 #[.agg #[.int .i64 3, vg], v47, .agg #[.slice A49 1 c49, .bool false]] Hb47 (fun _ r => r = .tuple #[.int .i64 0, .int .i64 160]) := by
    have := bcheck_c (N := 3) (w := false) ((hg3.mono hlea).mono hleb) hh47 hp47 (by decide) (by decide)
    rw [k3b] at this; exact this
  refine RW.callV rfl (hC47) rfl rfl ?_
  rintro _ _ rfl
  clear hC47 hp47 hca hcb hsa hsb hlea hleb
  repeat (first | refine a1 ?_ | refine a3 ?_ | refine a4 ?_ | refine a5 ?_ | refine a6 ?_ | refine s_build ?_ | refine s_loadBs ?_ | refine s_loadHs ?_ | refine a7 ?_ | refine a8 ?_ | refine a9 ?_ | refine RW.storeR rfl rfl rfl rfl (by first | rfl | (simp [allOne, cellsL, one1]; done) | (simp [allOne, cellsL, one1]; first | assumption | (refine ⟨?_, ?_⟩ <;> assumption))) rfl ?_ | refine a10 ?_ | refine RW.storeR1 rfl rfl (by first | rfl | exact IsSl.one1 (by assumption) | exact IsSl.one1 (SliceRep.isSl (by assumption))) rfl rfl ?_)
  refine RW.buildSlice rfl rfl rfl rfl rfl rfl rfl (fun v56 hv56 => ?_)
  repeat (first | refine a1 ?_ | refine a3 ?_ | refine a4 ?_ | refine a5 ?_ | refine a6 ?_ | refine s_build ?_ | refine s_loadBs ?_ | refine s_loadHs ?_ | refine a7 ?_ | refine a8 ?_ | refine a9 ?_ | refine RW.storeR rfl rfl rfl rfl (by first | rfl | (simp [allOne, cellsL, one1]; done) | (simp [allOne, cellsL, one1]; first | assumption | (refine ⟨?_, ?_⟩ <;> assumption))) rfl ?_ | refine a10 ?_ | refine RW.storeR1 rfl rfl (by first | rfl | exact IsSl.one1 (by assumption) | exact IsSl.one1 (SliceRep.isSl (by assumption))) rfl rfl ?_)
  refine RW.buildSlice rfl rfl rfl rfl rfl rfl rfl (fun v59 hv59 => ?_)
  obtain ⟨A59, c59, rfl, _, _⟩ := hv59
  repeat (first | refine a1 ?_ | refine a3 ?_ | refine a4 ?_ | refine a5 ?_ | refine a6 ?_ | refine s_build ?_ | refine s_loadBs ?_ | refine s_loadHs ?_ | refine a7 ?_ | refine a8 ?_ | refine a9 ?_ | refine RW.storeR rfl rfl rfl rfl (by first | rfl | (simp [allOne, cellsL, one1]; done) | (simp [allOne, cellsL, one1]; first | assumption | (refine ⟨?_, ?_⟩ <;> assumption))) rfl ?_ | refine a10 ?_ | refine RW.storeR1 rfl rfl (by first | rfl | exact IsSl.one1 (by assumption) | exact IsSl.one1 (SliceRep.isSl (by assumption))) rfl rfl ?_)
  refine RW.freeze (H := H3) v56 hM (fun Ha56 hlea hsa hca => ?_)
  refine RW.freeze (H := Ha56) (.slice A59 2 c59) hM (fun Hb56 hleb hsb hcb => ?_)
  have hh56 : SliceRep Hb56 I64 v56 [2, 1, 0] := (SliceRep.of_row hsa rfl (ints_rep Ha56 [2, 1, 0]) (Snap.le.refl _) hca).mono hleb
  have hp56 : SliceRep Hb56 CandL (.slice A59 2 c59) [cA, cB] := SliceRep.of_row (ys := [cA, cB]) hsb rfl ⟨_, _, rfl, ⟨_, rfl, (hgA.mono hlea).mono hleb⟩, ⟨_, _, rfl, ⟨_, rfl, (hgB.mono hlea).mono hleb⟩, rfl⟩⟩ (Snap.le.refl _) hcb
  have hC56 : Pure Try.prog 18 #[.agg #[.int .i64 3, vg], v56, .agg #[.slice A59 2 c59, .bool false]] Hb56 (fun _ r => r = .tuple #[.int .i64 2, .int .i64 160]) := by
    have := bcheck_c (N := 3) (w := false) ((hg3.mono hlea).mono hleb) hh56 hp56 (by decide) (by decide)
    rw [k3c] at this; exact this
  refine RW.callV rfl (hC56) rfl rfl ?_
  rintro _ _ rfl
  clear hC56 hp56 hca hcb hsa hsb hlea hleb
  repeat (first | refine a1 ?_ | refine a3 ?_ | refine a4 ?_ | refine a5 ?_ | refine a6 ?_ | refine s_build ?_ | refine s_loadBs ?_ | refine s_loadHs ?_ | refine a7 ?_ | refine a8 ?_ | refine a9 ?_ | refine RW.storeR rfl rfl rfl rfl (by first | rfl | (simp [allOne, cellsL, one1]; done) | (simp [allOne, cellsL, one1]; first | assumption | (refine ⟨?_, ?_⟩ <;> assumption))) rfl ?_ | refine a10 ?_ | refine RW.storeR1 rfl rfl (by first | rfl | exact IsSl.one1 (by assumption) | exact IsSl.one1 (SliceRep.isSl (by assumption))) rfl rfl ?_)
  refine RW.buildSlice rfl rfl rfl rfl rfl rfl rfl (fun v66 hv66 => ?_)
  repeat (first | refine a1 ?_ | refine a3 ?_ | refine a4 ?_ | refine a5 ?_ | refine a6 ?_ | refine s_build ?_ | refine s_loadBs ?_ | refine s_loadHs ?_ | refine a7 ?_ | refine a8 ?_ | refine a9 ?_ | refine RW.storeR rfl rfl rfl rfl (by first | rfl | (simp [allOne, cellsL, one1]; done) | (simp [allOne, cellsL, one1]; first | assumption | (refine ⟨?_, ?_⟩ <;> assumption))) rfl ?_ | refine a10 ?_ | refine RW.storeR1 rfl rfl (by first | rfl | exact IsSl.one1 (by assumption) | exact IsSl.one1 (SliceRep.isSl (by assumption))) rfl rfl ?_)
  refine RW.freeze (H := H3) v66 hM (fun Ha66 hlea hsa hca => ?_)
  have hh66 : SliceRep Ha66 I64 v66 [2, 1, 1] := SliceRep.of_row hsa rfl (ints_rep Ha66 [2, 1, 1]) (Snap.le.refl _) hca
  have hC66 : Pure Try.prog 18 #[.agg #[.int .i64 3, vg], v66, .agg #[.slice none 0 0, .bool false]] Ha66 (fun _ r => r = .tuple #[.int .i64 (-1), .int .i64 160]) := by
    have := bcheck_c (N := 3) (w := false) (L := []) (hg3.mono hlea) hh66 SliceRep.nil (by decide) (by simp)
    rw [k3d] at this; exact this
  refine RW.callV rfl (hC66) rfl rfl ?_
  rintro _ _ rfl
  clear hC66 hca hsa hlea
  repeat (first | refine a1 ?_ | refine a3 ?_ | refine a4 ?_ | refine a5 ?_ | refine a6 ?_ | refine s_build ?_ | refine s_loadBs ?_ | refine s_loadHs ?_ | refine a7 ?_ | refine a8 ?_ | refine a9 ?_ | refine RW.storeR rfl rfl rfl rfl (by first | rfl | (simp [allOne, cellsL, one1]; done) | (simp [allOne, cellsL, one1]; first | assumption | (refine ⟨?_, ?_⟩ <;> assumption))) rfl ?_ | refine a10 ?_ | refine RW.storeR1 rfl rfl (by first | rfl | exact IsSl.one1 (by assumption) | exact IsSl.one1 (SliceRep.isSl (by assumption))) rfl rfl ?_)
  refine RW.callV rfl (hC0 H3) rfl rfl ?_
  rintro _ _ rfl
  repeat (first | refine a1 ?_ | refine a3 ?_ | refine a4 ?_ | refine a5 ?_ | refine a6 ?_ | refine s_build ?_ | refine s_loadBs ?_ | refine s_loadHs ?_ | refine a7 ?_ | refine a8 ?_ | refine a9 ?_ | refine RW.storeR rfl rfl rfl rfl (by first | rfl | (simp [allOne, cellsL, one1]; done) | (simp [allOne, cellsL, one1]; first | assumption | (refine ⟨?_, ?_⟩ <;> assumption))) rfl ?_ | refine a10 ?_ | refine RW.storeR1 rfl rfl (by first | rfl | exact IsSl.one1 (by assumption) | exact IsSl.one1 (SliceRep.isSl (by assumption))) rfl rfl ?_)
  refine RW.buildSlice rfl rfl rfl rfl rfl rfl rfl (fun v79 hv79 => ?_)
  repeat (first | refine a1 ?_ | refine a3 ?_ | refine a4 ?_ | refine a5 ?_ | refine a6 ?_ | refine s_build ?_ | refine s_loadBs ?_ | refine s_loadHs ?_ | refine a7 ?_ | refine a8 ?_ | refine a9 ?_ | refine RW.storeR rfl rfl rfl rfl (by first | rfl | (simp [allOne, cellsL, one1]; done) | (simp [allOne, cellsL, one1]; first | assumption | (refine ⟨?_, ?_⟩ <;> assumption))) rfl ?_ | refine a10 ?_ | refine RW.storeR1 rfl rfl (by first | rfl | exact IsSl.one1 (by assumption) | exact IsSl.one1 (SliceRep.isSl (by assumption))) rfl rfl ?_)
  refine RW.buildSlice rfl rfl rfl rfl rfl rfl rfl (fun v82 hv82 => ?_)
  obtain ⟨A82, c82, rfl, _, _⟩ := hv82
  repeat (first | refine a1 ?_ | refine a3 ?_ | refine a4 ?_ | refine a5 ?_ | refine a6 ?_ | refine s_build ?_ | refine s_loadBs ?_ | refine s_loadHs ?_ | refine a7 ?_ | refine a8 ?_ | refine a9 ?_ | refine RW.storeR rfl rfl rfl rfl (by first | rfl | (simp [allOne, cellsL, one1]; done) | (simp [allOne, cellsL, one1]; first | assumption | (refine ⟨?_, ?_⟩ <;> assumption))) rfl ?_ | refine a10 ?_ | refine RW.storeR1 rfl rfl (by first | rfl | exact IsSl.one1 (by assumption) | exact IsSl.one1 (SliceRep.isSl (by assumption))) rfl rfl ?_)
  refine RW.freeze (H := H3) v79 hM (fun Ha79 hlea hsa hca => ?_)
  refine RW.freeze (H := Ha79) (.slice A82 2 c82) hM (fun Hb79 hleb hsb hcb => ?_)
  have hh79 : SliceRep Hb79 I64 v79 [2, 1, 0] := (SliceRep.of_row hsa rfl (ints_rep Ha79 [2, 1, 0]) (Snap.le.refl _) hca).mono hleb
  have hp79 : SliceRep Hb79 CandL (.slice A82 2 c82) [cA, cB] := SliceRep.of_row (ys := [cA, cB]) hsb rfl ⟨_, _, rfl, ⟨_, rfl, (hgA.mono hlea).mono hleb⟩, ⟨_, _, rfl, ⟨_, rfl, (hgB.mono hlea).mono hleb⟩, rfl⟩⟩ (Snap.le.refl _) hcb
  have hC79 : Pure Try.prog 18 #[.agg #[.int .i64 3, vg], v79, .agg #[.slice A82 2 c82, .bool true]] Hb79 (fun _ r => r = .tuple #[.int .i64 2, .int .i64 0]) := by
    have := bcheck_c (N := 3) (w := true) ((hg3.mono hlea).mono hleb) hh79 hp79 (by decide) (by decide)
    rw [k3f] at this; exact this
  refine RW.callV rfl (hC79) rfl rfl ?_
  rintro _ _ rfl
  clear hC79 hp79 hca hcb hsa hsb hlea hleb
  repeat (first | refine a1 ?_ | refine a3 ?_ | refine a4 ?_ | refine a5 ?_ | refine a6 ?_ | refine s_build ?_ | refine s_loadBs ?_ | refine s_loadHs ?_ | refine a7 ?_ | refine a8 ?_ | refine a9 ?_ | refine RW.storeR rfl rfl rfl rfl (by first | rfl | (simp [allOne, cellsL, one1]; done) | (simp [allOne, cellsL, one1]; first | assumption | (refine ⟨?_, ?_⟩ <;> assumption))) rfl ?_ | refine a10 ?_ | refine RW.storeR1 rfl rfl (by first | rfl | exact IsSl.one1 (by assumption) | exact IsSl.one1 (SliceRep.isSl (by assumption))) rfl rfl ?_)
  refine RW.buildSlice rfl rfl rfl rfl rfl rfl rfl (fun v120 hv120 => ?_)
  refine RW.freeze (H := H4) v120 hM (fun Ha120 hlea hsa hca => ?_)
  have hh120 : SliceRep Ha120 I64 v120 [2, 1, 0] := SliceRep.of_row hsa rfl (ints_rep Ha120 [2, 1, 0]) (Snap.le.refl _) hca
  have hI : Pure Try.prog 14 #[vp, v120] Ha120 (fun _ r => r = .bool true) := (ints_c (hvp.mono hlea) hh120).mono fun _ _ _ h => by rw [h]; rfl
  refine RW.callV rfl (hI) rfl rfl ?_
  rintro _ _ rfl
  clear hca hsa hlea
  repeat (first | refine a1 ?_ | refine a3 ?_ | refine a4 ?_ | refine a5 ?_ | refine a6 ?_ | refine s_build ?_ | refine s_loadBs ?_ | refine s_loadHs ?_ | refine a7 ?_ | refine a8 ?_ | refine a9 ?_ | refine RW.storeR rfl rfl rfl rfl (by first | rfl | (simp [allOne, cellsL, one1]; done) | (simp [allOne, cellsL, one1]; first | assumption | (refine ⟨?_, ?_⟩ <;> assumption))) rfl ?_ | refine a10 ?_ | refine RW.storeR1 rfl rfl (by first | rfl | exact IsSl.one1 (by assumption) | exact IsSl.one1 (SliceRep.isSl (by assumption))) rfl rfl ?_)
  refine RW.buildSlice rfl rfl rfl rfl rfl rfl rfl (fun v149 hv149 => ?_)
  refine RW.freeze (H := H3) v149 hM (fun Ha149 hlea hsa hca => ?_)
  have hh149 : SliceRep Ha149 I64 v149 [2, 1, 0] := SliceRep.of_row hsa rfl (ints_rep Ha149 [2, 1, 0]) (Snap.le.refl _) hca
  have hR149 : Pure Try.prog 15 #[.agg #[.int .i64 3, vg], v149] Ha149 (fun _ r => r = .bool true) := (bright_c (N := 3) (hg3.mono hlea) hh149).mono fun _ _ _ h => by rw [h, decide_eq_true r3a]
  refine RW.callV rfl (hR149) rfl rfl ?_
  rintro _ _ rfl
  clear hca hsa hlea
  repeat (first | refine a1 ?_ | refine a3 ?_ | refine a4 ?_ | refine a5 ?_ | refine a6 ?_ | refine s_build ?_ | refine s_loadBs ?_ | refine s_loadHs ?_ | refine a7 ?_ | refine a8 ?_ | refine a9 ?_ | refine RW.storeR rfl rfl rfl rfl (by first | rfl | (simp [allOne, cellsL, one1]; done) | (simp [allOne, cellsL, one1]; first | assumption | (refine ⟨?_, ?_⟩ <;> assumption))) rfl ?_ | refine a10 ?_ | refine RW.storeR1 rfl rfl (by first | rfl | exact IsSl.one1 (by assumption) | exact IsSl.one1 (SliceRep.isSl (by assumption))) rfl rfl ?_)
  refine RW.buildSlice rfl rfl rfl rfl rfl rfl rfl (fun v154 hv154 => ?_)
  refine RW.freeze (H := H3) v154 hM (fun Ha154 hlea hsa hca => ?_)
  have hh154 : SliceRep Ha154 I64 v154 [2, 1] := SliceRep.of_row hsa rfl (ints_rep Ha154 [2, 1]) (Snap.le.refl _) hca
  have hR154 : Pure Try.prog 15 #[.agg #[.int .i64 3, vg], v154] Ha154 (fun _ r => r = .bool false) := (bright_c (N := 3) (hg3.mono hlea) hh154).mono fun _ _ _ h => by rw [h, decide_eq_false r3b]
  refine RW.callV rfl (hR154) rfl rfl ?_
  rintro _ _ rfl
  clear hca hsa hlea
  repeat (first | refine a1 ?_ | refine a3 ?_ | refine a4 ?_ | refine a5 ?_ | refine a6 ?_ | refine s_build ?_ | refine s_loadBs ?_ | refine s_loadHs ?_ | refine a7 ?_ | refine a8 ?_ | refine a9 ?_ | refine RW.storeR rfl rfl rfl rfl (by first | rfl | (simp [allOne, cellsL, one1]; done) | (simp [allOne, cellsL, one1]; first | assumption | (refine ⟨?_, ?_⟩ <;> assumption))) rfl ?_ | refine a10 ?_ | refine RW.storeR1 rfl rfl (by first | rfl | exact IsSl.one1 (by assumption) | exact IsSl.one1 (SliceRep.isSl (by assumption))) rfl rfl ?_)
  refine RW.callV rfl (hR0 H3) rfl rfl ?_
  rintro _ _ rfl
  repeat (first | refine a1 ?_ | refine a3 ?_ | refine a4 ?_ | refine a5 ?_ | refine a6 ?_ | refine s_build ?_ | refine s_loadBs ?_ | refine s_loadHs ?_ | refine a7 ?_ | refine a8 ?_ | refine a9 ?_ | refine RW.storeR rfl rfl rfl rfl (by first | rfl | (simp [allOne, cellsL, one1]; done) | (simp [allOne, cellsL, one1]; first | assumption | (refine ⟨?_, ?_⟩ <;> assumption))) rfl ?_ | refine a10 ?_ | refine RW.storeR1 rfl rfl (by first | rfl | exact IsSl.one1 (by assumption) | exact IsSl.one1 (SliceRep.isSl (by assumption))) rfl rfl ?_)
  refine Runs.ret1 Try.func10 Try.results10 rfl (fun w hm => hR _ w _ H _ (List.mem_cons_self ..) (Snap.le.refl _) ?_ hm)
  rfl
end Go.Proofs.Ythlolpckgffebaa

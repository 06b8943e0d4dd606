/-
  The fixed examples hold. Conditions: none.
-/
import Derived.Test.YtcikciefaggckaaD12
namespace Go.Proofs.Ytcikciefaggckaa
open Go Go.RowKit

def d3T : List UInt8 := [97, 98, 99, 100, 101, 102, 103, 104]
def d3M : List Mk := [⟨3, 6, 8, true⟩, ⟨7, 2, 5, true⟩]
theorem d3_sorted : d3M.Pairwise (fun a b => a.id < b.id) := by decide
theorem d3_ok : ∀ m ∈ d3M, okM d3T.length m := by decide
set_option maxHeartbeats 4000000 in
theorem sanity_c {H : Snap} : Pure Try.prog 10 #[] H (fun _ r => r = .bool true) := by
  obtain ⟨w1, w2, w3, w4, w5⟩ := smpD_valid
  refine Pure.intro Try.func10 rfl Try.ntmps10 rfl (fun E R hM hR => ?_)
  repeat (first | refine a1 ?_ | refine a3 ?_ | refine a4 ?_ | refine a5 ?_ | refine a6 ?_ | refine s_build ?_ | refine s_loadBs ?_ | refine s_loadHs ?_ | refine s_eqlS ?_ | refine a7 ?_ | refine a8 ?_ | refine a9 ?_ | refine RW.storeR rfl rfl rfl rfl (by first | rfl | (simp [allOne, cellsL, one1]; done) | (simp [allOne, cellsL, one1]; first | assumption | (refine ⟨?_, ?_⟩ <;> assumption))) rfl ?_ | refine a10 ?_ | refine RW.storeR1 rfl rfl (by first | rfl | exact IsSl.one1 (by assumption) | exact IsSl.one1 (SliceRep.isSl (by assumption))) rfl rfl ?_)
  refine RW.callV rfl (leads_c (H := H) (e := ⟨1, 2, 0, 0, [88]⟩) (t := [97, 98, 88, 99, 100, 101, 102]) (m := ⟨0, 3, 6, true⟩) (by decide)) rfl rfl ?_
  rintro _ _ rfl
  rw [l1]
  repeat (first | refine a1 ?_ | refine a3 ?_ | refine a4 ?_ | refine a5 ?_ | refine a6 ?_ | refine s_build ?_ | refine s_loadBs ?_ | refine s_loadHs ?_ | refine s_eqlS ?_ | refine a7 ?_ | refine a8 ?_ | refine a9 ?_ | refine RW.storeR rfl rfl rfl rfl (by first | rfl | (simp [allOne, cellsL, one1]; done) | (simp [allOne, cellsL, one1]; first | assumption | (refine ⟨?_, ?_⟩ <;> assumption))) rfl ?_ | refine a10 ?_ | refine RW.storeR1 rfl rfl (by first | rfl | exact IsSl.one1 (by assumption) | exact IsSl.one1 (SliceRep.isSl (by assumption))) rfl rfl ?_)
  refine RW.callV rfl (leads_c (H := H) (e := ⟨1, 3, 0, 0, [88]⟩) (t := [97, 98, 99, 88, 100, 101, 102]) (m := ⟨0, 2, 6, false⟩) (by decide)) rfl rfl ?_
  rintro _ _ rfl
  rw [l2]
  repeat (first | refine a1 ?_ | refine a3 ?_ | refine a4 ?_ | refine a5 ?_ | refine a6 ?_ | refine s_build ?_ | refine s_loadBs ?_ | refine s_loadHs ?_ | refine s_eqlS ?_ | refine a7 ?_ | refine a8 ?_ | refine a9 ?_ | refine RW.storeR rfl rfl rfl rfl (by first | rfl | (simp [allOne, cellsL, one1]; done) | (simp [allOne, cellsL, one1]; first | assumption | (refine ⟨?_, ?_⟩ <;> assumption))) rfl ?_ | refine a10 ?_ | refine RW.storeR1 rfl rfl (by first | rfl | exact IsSl.one1 (by assumption) | exact IsSl.one1 (SliceRep.isSl (by assumption))) rfl rfl ?_)
  refine RW.callV rfl (leads_c (H := H) (e := ⟨2, 0, 2, 0, []⟩) (t := [99, 100, 101, 102]) (m := ⟨0, 0, 3, true⟩) (by decide)) rfl rfl ?_
  rintro _ _ rfl
  rw [l3]
  repeat (first | refine a1 ?_ | refine a3 ?_ | refine a4 ?_ | refine a5 ?_ | refine a6 ?_ | refine s_build ?_ | refine s_loadBs ?_ | refine s_loadHs ?_ | refine s_eqlS ?_ | refine a7 ?_ | refine a8 ?_ | refine a9 ?_ | refine RW.storeR rfl rfl rfl rfl (by first | rfl | (simp [allOne, cellsL, one1]; done) | (simp [allOne, cellsL, one1]; first | assumption | (refine ⟨?_, ?_⟩ <;> assumption))) rfl ?_ | refine a10 ?_ | refine RW.storeR1 rfl rfl (by first | rfl | exact IsSl.one1 (by assumption) | exact IsSl.one1 (SliceRep.isSl (by assumption))) rfl rfl ?_)
  refine RW.callV rfl (leads_c (H := H) (e := ⟨2, 1, 2, 0, []⟩) (t := [97, 100, 101, 102]) (m := ⟨0, 1, 3, false⟩) (by decide)) rfl rfl ?_
  rintro _ _ rfl
  rw [l4]
  repeat (first | refine a1 ?_ | refine a3 ?_ | refine a4 ?_ | refine a5 ?_ | refine a6 ?_ | refine s_build ?_ | refine s_loadBs ?_ | refine s_loadHs ?_ | refine s_eqlS ?_ | refine a7 ?_ | refine a8 ?_ | refine a9 ?_ | refine RW.storeR rfl rfl rfl rfl (by first | rfl | (simp [allOne, cellsL, one1]; done) | (simp [allOne, cellsL, one1]; first | assumption | (refine ⟨?_, ?_⟩ <;> assumption))) rfl ?_ | refine a10 ?_ | refine RW.storeR1 rfl rfl (by first | rfl | exact IsSl.one1 (by assumption) | exact IsSl.one1 (SliceRep.isSl (by assumption))) rfl rfl ?_)
  refine RW.callV rfl (leads_c (H := H) (e := ⟨2, 1, 4, 0, []⟩) (t := [97, 102]) (m := ⟨0, 0, 0, false⟩) (by decide)) rfl rfl ?_
  rintro _ _ rfl
  rw [l5]
  repeat (first | refine a1 ?_ | refine a3 ?_ | refine a4 ?_ | refine a5 ?_ | refine a6 ?_ | refine s_build ?_ | refine s_loadBs ?_ | refine s_loadHs ?_ | refine s_eqlS ?_ | refine a7 ?_ | refine a8 ?_ | refine a9 ?_ | refine RW.storeR rfl rfl rfl rfl (by first | rfl | (simp [allOne, cellsL, one1]; done) | (simp [allOne, cellsL, one1]; first | assumption | (refine ⟨?_, ?_⟩ <;> assumption))) rfl ?_ | refine a10 ?_ | refine RW.storeR1 rfl rfl (by first | rfl | exact IsSl.one1 (by assumption) | exact IsSl.one1 (SliceRep.isSl (by assumption))) rfl rfl ?_)
  refine RW.callV rfl (leads_c (H := H) (e := ⟨3, 2, 3, 0, []⟩) (t := [99, 100, 101, 97, 98, 102]) (m := ⟨0, 0, 3, true⟩) (by decide)) rfl rfl ?_
  rintro _ _ rfl
  rw [l6]
  repeat (first | refine a1 ?_ | refine a3 ?_ | refine a4 ?_ | refine a5 ?_ | refine a6 ?_ | refine s_build ?_ | refine s_loadBs ?_ | refine s_loadHs ?_ | refine s_eqlS ?_ | refine a7 ?_ | refine a8 ?_ | refine a9 ?_ | refine RW.storeR rfl rfl rfl rfl (by first | rfl | (simp [allOne, cellsL, one1]; done) | (simp [allOne, cellsL, one1]; first | assumption | (refine ⟨?_, ?_⟩ <;> assumption))) rfl ?_ | refine a10 ?_ | refine RW.storeR1 rfl rfl (by first | rfl | exact IsSl.one1 (by assumption) | exact IsSl.one1 (SliceRep.isSl (by assumption))) rfl rfl ?_)
  refine RW.callV rfl (leads_c (H := H) (e := ⟨3, 4, 2, 0, []⟩) (t := [101, 102, 97, 98, 99, 100]) (m := ⟨0, 4, 6, false⟩) (by decide)) rfl rfl ?_
  rintro _ _ rfl
  rw [l7]
  repeat (first | refine a1 ?_ | refine a3 ?_ | refine a4 ?_ | refine a5 ?_ | refine a6 ?_ | refine s_build ?_ | refine s_loadBs ?_ | refine s_loadHs ?_ | refine s_eqlS ?_ | refine a7 ?_ | refine a8 ?_ | refine a9 ?_ | refine RW.storeR rfl rfl rfl rfl (by first | rfl | (simp [allOne, cellsL, one1]; done) | (simp [allOne, cellsL, one1]; first | assumption | (refine ⟨?_, ?_⟩ <;> assumption))) rfl ?_ | refine a10 ?_ | refine RW.storeR1 rfl rfl (by first | rfl | exact IsSl.one1 (by assumption) | exact IsSl.one1 (SliceRep.isSl (by assumption))) rfl rfl ?_)
  refine RW.callV rfl (leads_c (H := H) (e := ⟨3, 0, 1, 2, []⟩) (t := [98, 99, 97, 100, 101, 102]) (m := ⟨0, 1, 5, false⟩) (by decide)) rfl rfl ?_
  rintro _ _ rfl
  rw [l8]
  repeat (first | refine a1 ?_ | refine a3 ?_ | refine a4 ?_ | refine a5 ?_ | refine a6 ?_ | refine s_build ?_ | refine s_loadBs ?_ | refine s_loadHs ?_ | refine s_eqlS ?_ | refine a7 ?_ | refine a8 ?_ | refine a9 ?_ | refine RW.storeR rfl rfl rfl rfl (by first | rfl | (simp [allOne, cellsL, one1]; done) | (simp [allOne, cellsL, one1]; first | assumption | (refine ⟨?_, ?_⟩ <;> assumption))) rfl ?_ | refine a10 ?_ | refine RW.storeR1 rfl rfl (by first | rfl | exact IsSl.one1 (by assumption) | exact IsSl.one1 (SliceRep.isSl (by assumption))) rfl rfl ?_)
  refine RW.call rfl (sample_c (H := H)) rfl rfl ?_
  rintro v50 H1 ⟨vm1, hv1, hr1⟩ hle1
  subst hv1
  repeat (first | refine a1 ?_ | refine a3 ?_ | refine a4 ?_ | refine a5 ?_ | refine a6 ?_ | refine s_build ?_ | refine s_loadBs ?_ | refine s_loadHs ?_ | refine s_eqlS ?_ | refine a7 ?_ | refine a8 ?_ | refine a9 ?_ | refine RW.storeR rfl rfl rfl rfl (by first | rfl | (simp [allOne, cellsL, one1]; done) | (simp [allOne, cellsL, one1]; first | assumption | (refine ⟨?_, ?_⟩ <;> assumption))) rfl ?_ | refine a10 ?_ | refine RW.storeR1 rfl rfl (by first | rfl | exact IsSl.one1 (by assumption) | exact IsSl.one1 (SliceRep.isSl (by assumption))) rfl rfl ?_)
  refine RW.call rfl (put_c (i := 3) (a := 6) (t := [103, 104]) hr1 (by decide) (by decide) w4 (by decide) w5) rfl rfl ?_
  rintro v51 H2 ⟨vd2, hv2, hd2⟩ hle2
  subst hv2
  rw [show putD ⟨smpD.tx, smpD.ms⟩ 3 6 [103, 104] = (⟨d3T, d3M⟩, 0) from put3] at hd2 ⊢
  obtain ⟨vm2, rfl, hr2⟩ := hd2
  have hr2 : SliceRep H2 MarkL vm2 d3M := hr2
  have ho2 := hr2.isSl.one1
  dsimp only
  repeat (first | refine a1 ?_ | refine a3 ?_ | refine a4 ?_ | refine a5 ?_ | refine a6 ?_ | refine s_build ?_ | refine s_loadBs ?_ | refine s_loadHs ?_ | refine s_eqlS ?_ | refine a7 ?_ | refine a8 ?_ | refine a9 ?_ | refine RW.storeR rfl rfl rfl rfl (by first | rfl | (simp [allOne, cellsL, one1]; done) | (simp [allOne, cellsL, one1]; first | assumption | (refine ⟨?_, ?_⟩ <;> assumption))) rfl ?_ | refine a10 ?_ | refine RW.storeR1 rfl rfl (by first | rfl | exact IsSl.one1 (by assumption) | exact IsSl.one1 (SliceRep.isSl (by assumption))) rfl rfl ?_)
  refine RW.alloc rfl rfl rfl (fun b4 => ?_)
  repeat (first | refine a1 ?_ | refine a3 ?_ | refine a4 ?_ | refine a5 ?_ | refine a6 ?_ | refine s_build ?_ | refine s_loadBs ?_ | refine s_loadHs ?_ | refine s_eqlS ?_ | refine a7 ?_ | refine a8 ?_ | refine a9 ?_ | refine RW.storeR rfl rfl rfl rfl (by first | rfl | (simp [allOne, cellsL, one1]; done) | (simp [allOne, cellsL, one1]; first | assumption | (refine ⟨?_, ?_⟩ <;> assumption))) rfl ?_ | refine a10 ?_ | refine RW.storeR1 rfl rfl (by first | rfl | exact IsSl.one1 (by assumption) | exact IsSl.one1 (SliceRep.isSl (by assumption))) rfl rfl ?_)
  refine RW.call rfl (sample_c (H := H)) rfl rfl ?_
  rintro v55 H3 ⟨vm3, hv3, hr3⟩ hle3
  subst hv3
  repeat (first | refine a1 ?_ | refine a3 ?_ | refine a4 ?_ | refine a5 ?_ | refine a6 ?_ | refine s_build ?_ | refine s_loadBs ?_ | refine s_loadHs ?_ | refine s_eqlS ?_ | refine a7 ?_ | refine a8 ?_ | refine a9 ?_ | refine RW.storeR rfl rfl rfl rfl (by first | rfl | (simp [allOne, cellsL, one1]; done) | (simp [allOne, cellsL, one1]; first | assumption | (refine ⟨?_, ?_⟩ <;> assumption))) rfl ?_ | refine a10 ?_ | refine RW.storeR1 rfl rfl (by first | rfl | exact IsSl.one1 (by assumption) | exact IsSl.one1 (SliceRep.isSl (by assumption))) rfl rfl ?_)
  refine RW.call rfl (put_c (i := 7) (a := 0) (t := [103, 104]) hr3 (by decide) (by decide) w4 (by decide) w5) rfl rfl ?_
  rintro v56 H4 ⟨vd4, hv4, hd4⟩ hle4
  subst hv4
  rw [show putD ⟨smpD.tx, smpD.ms⟩ 7 0 [103, 104] = (⟨[], []⟩, 290) from put7] at hd4 ⊢
  obtain ⟨vm4, rfl, hr4⟩ := hd4
  have ho4 := hr4.isSl.one1
  dsimp only
  repeat (first | refine a1 ?_ | refine a3 ?_ | refine a4 ?_ | refine a5 ?_ | refine a6 ?_ | refine s_build ?_ | refine s_loadBs ?_ | refine s_loadHs ?_ | refine s_eqlS ?_ | refine a7 ?_ | refine a8 ?_ | refine a9 ?_ | refine RW.storeR rfl rfl rfl rfl (by first | rfl | (simp [allOne, cellsL, one1]; done) | (simp [allOne, cellsL, one1]; first | assumption | (refine ⟨?_, ?_⟩ <;> assumption))) rfl ?_ | refine a10 ?_ | refine RW.storeR1 rfl rfl (by first | rfl | exact IsSl.one1 (by assumption) | exact IsSl.one1 (SliceRep.isSl (by assumption))) rfl rfl ?_)
  refine RW.alloc rfl rfl rfl (fun b6 => ?_)
  repeat (first | refine a1 ?_ | refine a3 ?_ | refine a4 ?_ | refine a5 ?_ | refine a6 ?_ | refine s_build ?_ | refine s_loadBs ?_ | refine s_loadHs ?_ | refine s_eqlS ?_ | refine a7 ?_ | refine a8 ?_ | refine a9 ?_ | refine RW.storeR rfl rfl rfl rfl (by first | rfl | (simp [allOne, cellsL, one1]; done) | (simp [allOne, cellsL, one1]; first | assumption | (refine ⟨?_, ?_⟩ <;> assumption))) rfl ?_ | refine a10 ?_ | refine RW.storeR1 rfl rfl (by first | rfl | exact IsSl.one1 (by assumption) | exact IsSl.one1 (SliceRep.isSl (by assumption))) rfl rfl ?_)
  refine RW.callV rfl (text_c (i := 3) hr2 d3_sorted (by decide) (by decide) d3_ok) rfl rfl ?_
  rintro _ _ rfl
  rw [show textD ⟨d3T, d3M⟩ 3 = ([103, 104], 0) from txt3]
  dsimp only
  repeat (first | refine a1 ?_ | refine a3 ?_ | refine a4 ?_ | refine a5 ?_ | refine a6 ?_ | refine s_build ?_ | refine s_loadBs ?_ | refine s_loadHs ?_ | refine s_eqlS ?_ | refine a7 ?_ | refine a8 ?_ | refine a9 ?_ | refine RW.storeR rfl rfl rfl rfl (by first | rfl | (simp [allOne, cellsL, one1]; done) | (simp [allOne, cellsL, one1]; first | assumption | (refine ⟨?_, ?_⟩ <;> assumption))) rfl ?_ | refine a10 ?_ | refine RW.storeR1 rfl rfl (by first | rfl | exact IsSl.one1 (by assumption) | exact IsSl.one1 (SliceRep.isSl (by assumption))) rfl rfl ?_)
  refine RW.callV rfl (text_c (i := 4) hr2 d3_sorted (by decide) (by decide) d3_ok) rfl rfl ?_
  rintro _ _ rfl
  rw [show textD ⟨d3T, d3M⟩ 4 = ([], 330) from txt4]
  dsimp only
  repeat (first | refine a1 ?_ | refine a3 ?_ | refine a4 ?_ | refine a5 ?_ | refine a6 ?_ | refine s_build ?_ | refine s_loadBs ?_ | refine s_loadHs ?_ | refine s_eqlS ?_ | refine a7 ?_ | refine a8 ?_ | refine a9 ?_ | refine RW.storeR rfl rfl rfl rfl (by first | rfl | (simp [allOne, cellsL, one1]; done) | (simp [allOne, cellsL, one1]; first | assumption | (refine ⟨?_, ?_⟩ <;> assumption))) rfl ?_ | refine a10 ?_ | refine RW.storeR1 rfl rfl (by first | rfl | exact IsSl.one1 (by assumption) | exact IsSl.one1 (SliceRep.isSl (by assumption))) rfl rfl ?_)
  refine RW.call rfl (sample_c (H := H)) rfl rfl ?_
  rintro v70 H5 ⟨vm5, hv5, hr5⟩ hle5
  subst hv5
  repeat (first | refine a1 ?_ | refine a3 ?_ | refine a4 ?_ | refine a5 ?_ | refine a6 ?_ | refine s_build ?_ | refine s_loadBs ?_ | refine s_loadHs ?_ | refine s_eqlS ?_ | refine a7 ?_ | refine a8 ?_ | refine a9 ?_ | refine RW.storeR rfl rfl rfl rfl (by first | rfl | (simp [allOne, cellsL, one1]; done) | (simp [allOne, cellsL, one1]; first | assumption | (refine ⟨?_, ?_⟩ <;> assumption))) rfl ?_ | refine a10 ?_ | refine RW.storeR1 rfl rfl (by first | rfl | exact IsSl.one1 (by assumption) | exact IsSl.one1 (SliceRep.isSl (by assumption))) rfl rfl ?_)
  refine RW.call rfl (do_c (e := ⟨2, 5, 2, 0, []⟩) hr5 (by decide) (by decide) w4 (by decide)) rfl rfl ?_
  rintro v72 H6 ⟨vd6, hv6, hd6⟩ hle6
  subst hv6
  rw [show doD ⟨smpD.tx, smpD.ms⟩ ⟨2, 5, 2, 0, []⟩ = (⟨[], []⟩, 290) from do5] at hd6 ⊢
  obtain ⟨vm6, rfl, hr6⟩ := hd6
  have ho6 := hr6.isSl.one1
  dsimp only
  repeat (first | refine a1 ?_ | refine a3 ?_ | refine a4 ?_ | refine a5 ?_ | refine a6 ?_ | refine s_build ?_ | refine s_loadBs ?_ | refine s_loadHs ?_ | refine s_eqlS ?_ | refine a7 ?_ | refine a8 ?_ | refine a9 ?_ | refine RW.storeR rfl rfl rfl rfl (by first | rfl | (simp [allOne, cellsL, one1]; done) | (simp [allOne, cellsL, one1]; first | assumption | (refine ⟨?_, ?_⟩ <;> assumption))) rfl ?_ | refine a10 ?_ | refine RW.storeR1 rfl rfl (by first | rfl | exact IsSl.one1 (by assumption) | exact IsSl.one1 (SliceRep.isSl (by assumption))) rfl rfl ?_)
  refine RW.alloc rfl rfl rfl (fun b12 => ?_)
  repeat (first | refine a1 ?_ | refine a3 ?_ | refine a4 ?_ | refine a5 ?_ | refine a6 ?_ | refine s_build ?_ | refine s_loadBs ?_ | refine s_loadHs ?_ | refine s_eqlS ?_ | refine a7 ?_ | refine a8 ?_ | refine a9 ?_ | refine RW.storeR rfl rfl rfl rfl (by first | rfl | (simp [allOne, cellsL, one1]; done) | (simp [allOne, cellsL, one1]; first | assumption | (refine ⟨?_, ?_⟩ <;> assumption))) rfl ?_ | refine a10 ?_ | refine RW.storeR1 rfl rfl (by first | rfl | exact IsSl.one1 (by assumption) | exact IsSl.one1 (SliceRep.isSl (by assumption))) rfl rfl ?_)
  refine RW.buildSlice rfl rfl rfl rfl rfl rfl rfl (fun v81 hv81 => ?_)
  obtain ⟨A81, c81, rfl, _, _⟩ := hv81
  repeat (first | refine a1 ?_ | refine a3 ?_ | refine a4 ?_ | refine a5 ?_ | refine a6 ?_ | refine s_build ?_ | refine s_loadBs ?_ | refine s_loadHs ?_ | refine s_eqlS ?_ | refine a7 ?_ | refine a8 ?_ | refine a9 ?_ | refine RW.storeR rfl rfl rfl rfl (by first | rfl | (simp [allOne, cellsL, one1]; done) | (simp [allOne, cellsL, one1]; first | assumption | (refine ⟨?_, ?_⟩ <;> assumption))) rfl ?_ | refine a10 ?_ | refine RW.storeR1 rfl rfl (by first | rfl | exact IsSl.one1 (by assumption) | exact IsSl.one1 (SliceRep.isSl (by assumption))) rfl rfl ?_)
  refine RW.freeze (H := H2) (.slice A81 2 c81) hM (fun H7 hle7 hs7 hc7 => ?_)
  have hr7 : SliceRep H7 MarkL (.slice A81 2 c81) d3M := rowRep hs7 rfl hc7
  refine RW.callV rfl (same_c (H := H7) ⟨_, rfl, hr2.mono hle7⟩ ⟨_, rfl, hr7⟩ (a := ⟨d3T, d3M⟩) (b := ⟨d3T, d3M⟩)) rfl rfl ?_
  rintro _ _ rfl
  rw [show decide ((⟨d3T, d3M⟩ : Dc) = ⟨d3T, d3M⟩) = true by simp]
  repeat (first | refine a1 ?_ | refine a3 ?_ | refine a4 ?_ | refine a5 ?_ | refine a6 ?_ | refine s_build ?_ | refine s_loadBs ?_ | refine s_loadHs ?_ | refine s_eqlS ?_ | refine a7 ?_ | refine a8 ?_ | refine a9 ?_ | refine RW.storeR rfl rfl rfl rfl (by first | rfl | (simp [allOne, cellsL, one1]; done) | (simp [allOne, cellsL, one1]; first | assumption | (refine ⟨?_, ?_⟩ <;> assumption))) rfl ?_ | refine a10 ?_ | refine RW.storeR1 rfl rfl (by first | rfl | exact IsSl.one1 (by assumption) | exact IsSl.one1 (SliceRep.isSl (by assumption))) rfl rfl ?_)
  refine RW.call rfl (sample_c (H := H)) rfl rfl ?_
  rintro v116 H8 ⟨vm8, hv8, hr8⟩ hle8
  subst hv8
  repeat (first | refine a1 ?_ | refine a3 ?_ | refine a4 ?_ | refine a5 ?_ | refine a6 ?_ | refine s_build ?_ | refine s_loadBs ?_ | refine s_loadHs ?_ | refine s_eqlS ?_ | refine a7 ?_ | refine a8 ?_ | refine a9 ?_ | refine RW.storeR rfl rfl rfl rfl (by first | rfl | (simp [allOne, cellsL, one1]; done) | (simp [allOne, cellsL, one1]; first | assumption | (refine ⟨?_, ?_⟩ <;> assumption))) rfl ?_ | refine a10 ?_ | refine RW.storeR1 rfl rfl (by first | rfl | exact IsSl.one1 (by assumption) | exact IsSl.one1 (SliceRep.isSl (by assumption))) rfl rfl ?_)
  refine RW.callV rfl (valid_c hr8 (by decide) (by decide) (by unfold smallI; decide)) rfl rfl ?_
  rintro _ _ rfl
  rw [show decide (validD ⟨smpD.tx, smpD.ms⟩) = true from decide_eq_true smpD_valid]
  repeat (first | refine a1 ?_ | refine a3 ?_ | refine a4 ?_ | refine a5 ?_ | refine a6 ?_ | refine s_build ?_ | refine s_loadBs ?_ | refine s_loadHs ?_ | refine s_eqlS ?_ | refine a7 ?_ | refine a8 ?_ | refine a9 ?_ | refine RW.storeR rfl rfl rfl rfl (by first | rfl | (simp [allOne, cellsL, one1]; done) | (simp [allOne, cellsL, one1]; first | assumption | (refine ⟨?_, ?_⟩ <;> assumption))) rfl ?_ | refine a10 ?_ | refine RW.storeR1 rfl rfl (by first | rfl | exact IsSl.one1 (by assumption) | exact IsSl.one1 (SliceRep.isSl (by assumption))) rfl rfl ?_)
  refine RW.buildSlice rfl rfl rfl rfl rfl rfl rfl (fun v121 hv121 => ?_)
  obtain ⟨A121, c121, rfl, _, _⟩ := hv121
  repeat (first | refine a1 ?_ | refine a3 ?_ | refine a4 ?_ | refine a5 ?_ | refine a6 ?_ | refine s_build ?_ | refine s_loadBs ?_ | refine s_loadHs ?_ | refine s_eqlS ?_ | refine a7 ?_ | refine a8 ?_ | refine a9 ?_ | refine RW.storeR rfl rfl rfl rfl (by first | rfl | (simp [allOne, cellsL, one1]; done) | (simp [allOne, cellsL, one1]; first | assumption | (refine ⟨?_, ?_⟩ <;> assumption))) rfl ?_ | refine a10 ?_ | refine RW.storeR1 rfl rfl (by first | rfl | exact IsSl.one1 (by assumption) | exact IsSl.one1 (SliceRep.isSl (by assumption))) rfl rfl ?_)
  refine RW.freeze (H := H8) (.slice A121 1 c121) hM (fun H9 hle9 hs9 hc9 => ?_)
  have hr9 : SliceRep H9 MarkL (.slice A121 1 c121) [⟨0, 0, 1, false⟩] := rowRep hs9 rfl hc9
  refine RW.callV rfl (valid_c (s := []) hr9 (by decide) (by decide) (by unfold smallI; decide)) rfl rfl ?_
  rintro _ _ rfl
  rw [show decide (validD ⟨[], [⟨0, 0, 1, false⟩]⟩) = false from decide_eq_false val1]
  repeat (first | refine a1 ?_ | refine a3 ?_ | refine a4 ?_ | refine a5 ?_ | refine a6 ?_ | refine s_build ?_ | refine s_loadBs ?_ | refine s_loadHs ?_ | refine s_eqlS ?_ | refine a7 ?_ | refine a8 ?_ | refine a9 ?_ | refine RW.storeR rfl rfl rfl rfl (by first | rfl | (simp [allOne, cellsL, one1]; done) | (simp [allOne, cellsL, one1]; first | assumption | (refine ⟨?_, ?_⟩ <;> assumption))) rfl ?_ | refine a10 ?_ | refine RW.storeR1 rfl rfl (by first | rfl | exact IsSl.one1 (by assumption) | exact IsSl.one1 (SliceRep.isSl (by assumption))) rfl rfl ?_)
  refine Runs.ret1 Try.func10 Try.results10 rfl (fun w hm => hR _ w _ H _ (List.mem_cons_self ..) (Snap.le.refl _) ?_ hm)
  rfl
end Go.Proofs.Ytcikciefaggckaa

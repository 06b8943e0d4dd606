/-
  The law PageGoesOn. Conditions: the arguments' form.
-/
import Derived.Test.YtjdhcblofkkibaaVe
namespace Go.Proofs.Ytjdhcblofkkibaa
open Go Go.RowKit

theorem pref_takes' {A : List Cand} {n m : Nat} (h : min n A.length ≤ m) : prefR (A.take n) (wholeB A n) (A.take m) (wholeB A m) = true := by
  have e := takes_eq (A := A) (n := n) (m := min n A.length) (by omega)
  rw [e.1, e.2]
  exact pref_takes h
theorem check_ok {N : Nat} {gl : List Lnk} (hg : validG N gl) (n : Nat) : (checkR N gl (pot gl N) ((allW gl N).take n) (wholeB (allW gl N) n)).2 = 0 := by
  have := check_first hg n
  unfold wholeB; rw [this]
theorem div_big {N k : Nat} (hN : 1 ≤ (N : Int)) (hN7 : (N : Int) ≤ 7) (hk : k ≤ 50) : min k (1000 / N) = k := by
  have : 142 ≤ 1000 / N := (Nat.le_div_iff_mul_le (by omega)).2 (by omega)
  omega
set_option maxHeartbeats 8000000 in
theorem goesOn19_c {H : Snap} {n : Int} {w : Int × Int × Int} {vL : Value} {xs : List (Int × Int × Int)} (hl : SliceRep H TriL vL xs) (hn : isByte n) (hx : ∀ x ∈ xs, triOk x) (hw : triOk w) :
    Pure Try.prog 4 #[.agg #[.int .u8 n, vL], .agg #[.int .u8 w.1, .int .u8 w.2.1, .int .u8 w.2.2]] H (fun _ r => r = .bool true) := by
  have hg := made_valid n hx
  have hgl14 := madeL_length n xs
  have hT := made_tree n xs
  have hN7 := (madeN_range n).2
  obtain ⟨w0, w1, w2⟩ := w
  obtain ⟨h0, h1, h2⟩ := hw
  unfold isByte at h0 h1 h2
  dsimp only at h0 h1 h2 ⊢
  refine Pure.intro Try.func4 rfl Try.ntmps4 rfl (fun E R hM hR => ?_)
  repeat (first | refine a1 ?_ | refine a3 ?_ | refine a4 ?_ | refine a5 ?_ | refine a6 ?_ | refine s_loadBs ?_ | refine s_loadHs ?_ | refine s_indexArrT ?_ | refine s_indexArrB ?_ | refine s_loadB ?_ | refine s_loadH ?_ | refine s_loadR ?_ | refine s_rem ?_ | refine s_convI ?_ | refine s_build ?_ | refine s_fieldB ?_ | refine s_fieldV ?_ | refine s_addI ?_ | refine s_min ?_ | refine a7 ?_ | refine a8 ?_ | refine a9 ?_ | refine RW.storeR rfl rfl rfl rfl (by first | rfl | (simp [allOne, cellsL, one1]; done) | (simp [allOne, cellsL, one1]; first | assumption | (refine ⟨?_, ?_⟩ <;> assumption))) rfl ?_ | refine a10 ?_ | refine RW.storeR1 rfl rfl (by first | rfl | exact IsSl.one1 (by assumption) | exact IsSl.one1 (SliceRep.isSl (by assumption))) rfl rfl ?_)
  refine RW.box rfl rfl rfl rfl (fun b2 => ?_)
  refine RW.box rfl rfl rfl rfl (fun b3 => ?_)
  repeat (first | refine a1 ?_ | refine a3 ?_ | refine a4 ?_ | refine a5 ?_ | refine a6 ?_ | refine s_loadBs ?_ | refine s_loadHs ?_ | refine s_indexArrT ?_ | refine s_indexArrB ?_ | refine s_loadB ?_ | refine s_loadH ?_ | refine s_loadR ?_ | refine s_rem ?_ | refine s_convI ?_ | refine s_build ?_ | refine s_fieldB ?_ | refine s_fieldV ?_ | refine s_addI ?_ | refine s_min ?_ | refine a7 ?_ | refine a8 ?_ | refine a9 ?_ | refine RW.storeR rfl rfl rfl rfl (by first | rfl | (simp [allOne, cellsL, one1]; done) | (simp [allOne, cellsL, one1]; first | assumption | (refine ⟨?_, ?_⟩ <;> assumption))) rfl ?_ | refine a10 ?_ | refine RW.storeR1 rfl rfl (by first | rfl | exact IsSl.one1 (by assumption) | exact IsSl.one1 (SliceRep.isSl (by assumption))) rfl rfl ?_)
  refine RW.callV rfl (sanity19_c (H := H)) rfl rfl ?_
  rintro _ _ rfl
  repeat (first | refine a1 ?_ | refine a3 ?_ | refine a4 ?_ | refine a5 ?_ | refine a6 ?_ | refine s_loadBs ?_ | refine s_loadHs ?_ | refine s_indexArrT ?_ | refine s_indexArrB ?_ | refine s_loadB ?_ | refine s_loadH ?_ | refine s_loadR ?_ | refine s_rem ?_ | refine s_convI ?_ | refine s_build ?_ | refine s_fieldB ?_ | refine s_fieldV ?_ | refine s_addI ?_ | refine s_min ?_ | refine a7 ?_ | refine a8 ?_ | refine a9 ?_ | refine RW.storeR rfl rfl rfl rfl (by first | rfl | (simp [allOne, cellsL, one1]; done) | (simp [allOne, cellsL, one1]; first | assumption | (refine ⟨?_, ?_⟩ <;> assumption))) rfl ?_ | refine a10 ?_ | refine RW.storeR1 rfl rfl (by first | rfl | exact IsSl.one1 (by assumption) | exact IsSl.one1 (SliceRep.isSl (by assumption))) rfl rfl ?_)
  refine RW.call rfl (made_c hl hn hx) rfl rfl ?_
  rintro _ Hg ⟨vg, rfl, hgl⟩ hleg
  generalize hGe : madeL n xs = gl at hgl hg hgl14 hT
  generalize hNe : madeN n = N at hg hT hN7 ⊢
  obtain ⟨N, rfl⟩ : ∃ M : Nat, N = (M : Int) := ⟨N.toNat, by have := hg.1; omega⟩
  rw [Int.toNat_natCast] at hT
  have hN1 := hg.1
  have hall := hg.2.2.2
  have hN2 := hg.2.1
  have hvg1 := hgl.isSl.one1
  refine RW.alloc rfl rfl rfl (fun b6 => ?_)
  repeat (first | refine a1 ?_ | refine a3 ?_ | refine a4 ?_ | refine a5 ?_ | refine a6 ?_ | refine s_loadBs ?_ | refine s_loadHs ?_ | refine s_indexArrT ?_ | refine s_indexArrB ?_ | refine s_loadB ?_ | refine s_loadH ?_ | refine s_loadR ?_ | refine s_rem ?_ | refine s_convI ?_ | refine s_build ?_ | refine s_fieldB ?_ | refine s_fieldV ?_ | refine s_addI ?_ | refine s_min ?_ | refine a7 ?_ | refine a8 ?_ | refine a9 ?_ | refine RW.storeR rfl rfl rfl rfl (by first | rfl | (simp [allOne, cellsL, one1]; done) | (simp [allOne, cellsL, one1]; first | assumption | (refine ⟨?_, ?_⟩ <;> assumption))) rfl ?_ | refine a10 ?_ | refine RW.storeR1 rfl rfl (by first | rfl | exact IsSl.one1 (by assumption) | exact IsSl.one1 (SliceRep.isSl (by assumption))) rfl rfl ?_)
  obtain ⟨n0, hn0⟩ : ∃ k : Nat, w0 % 20 = (k : Int) := ⟨(w0 % 20).toNat, by omega⟩
  obtain ⟨n1, hn1⟩ : ∃ k : Nat, w1 % 20 = (k : Int) := ⟨(w1 % 20).toNat, by omega⟩
  obtain ⟨n2, hn2⟩ : ∃ k : Nat, w2 % 20 = (k : Int) := ⟨(w2 % 20).toNat, by omega⟩
  have k0 : n0 ≤ 19 := by omega
  have k1 : n1 ≤ 19 := by omega
  have k2 : n2 ≤ 19 := by omega
  rw [hn0]
  repeat (first | refine a1 ?_ | refine a3 ?_ | refine a4 ?_ | refine a5 ?_ | refine a6 ?_ | refine s_loadBs ?_ | refine s_loadHs ?_ | refine s_indexArrT ?_ | refine s_indexArrB ?_ | refine s_loadB ?_ | refine s_loadH ?_ | refine s_loadR ?_ | refine s_rem ?_ | refine s_convI ?_ | refine s_build ?_ | refine s_fieldB ?_ | refine s_fieldV ?_ | refine s_addI ?_ | refine s_min ?_ | refine a7 ?_ | refine a8 ?_ | refine a9 ?_ | refine RW.storeR rfl rfl rfl rfl (by first | rfl | (simp [allOne, cellsL, one1]; done) | (simp [allOne, cellsL, one1]; first | assumption | (refine ⟨?_, ?_⟩ <;> assumption))) rfl ?_ | refine a10 ?_ | refine RW.storeR1 rfl rfl (by first | rfl | exact IsSl.one1 (by assumption) | exact IsSl.one1 (SliceRep.isSl (by assumption))) rfl rfl ?_)
  rw [hn1]
  repeat (first | refine a1 ?_ | refine a3 ?_ | refine a4 ?_ | refine a5 ?_ | refine a6 ?_ | refine s_loadBs ?_ | refine s_loadHs ?_ | refine s_indexArrT ?_ | refine s_indexArrB ?_ | refine s_loadB ?_ | refine s_loadH ?_ | refine s_loadR ?_ | refine s_rem ?_ | refine s_convI ?_ | refine s_build ?_ | refine s_fieldB ?_ | refine s_fieldV ?_ | refine s_addI ?_ | refine s_min ?_ | refine a7 ?_ | refine a8 ?_ | refine a9 ?_ | refine RW.storeR rfl rfl rfl rfl (by first | rfl | (simp [allOne, cellsL, one1]; done) | (simp [allOne, cellsL, one1]; first | assumption | (refine ⟨?_, ?_⟩ <;> assumption))) rfl ?_ | refine a10 ?_ | refine RW.storeR1 rfl rfl (by first | rfl | exact IsSl.one1 (by assumption) | exact IsSl.one1 (SliceRep.isSl (by assumption))) rfl rfl ?_)
  rw [hn2]
  repeat (first | refine a1 ?_ | refine a3 ?_ | refine a4 ?_ | refine a5 ?_ | refine a6 ?_ | refine s_loadBs ?_ | refine s_loadHs ?_ | refine s_indexArrT ?_ | refine s_indexArrB ?_ | refine s_loadB ?_ | refine s_loadH ?_ | refine s_loadR ?_ | refine s_rem ?_ | refine s_convI ?_ | refine s_build ?_ | refine s_fieldB ?_ | refine s_fieldV ?_ | refine s_addI ?_ | refine s_min ?_ | refine a7 ?_ | refine a8 ?_ | refine a9 ?_ | refine RW.storeR rfl rfl rfl rfl (by first | rfl | (simp [allOne, cellsL, one1]; done) | (simp [allOne, cellsL, one1]; first | assumption | (refine ⟨?_, ?_⟩ <;> assumption))) rfl ?_ | refine a10 ?_ | refine RW.storeR1 rfl rfl (by first | rfl | exact IsSl.one1 (by assumption) | exact IsSl.one1 (SliceRep.isSl (by assumption))) rfl rfl ?_)
  refine RW.q (QF.buildA rfl rfl).qv rfl rfl ?_
  refine RW.alloc rfl rfl rfl (fun b7 => ?_)
  repeat (first | refine a1 ?_ | refine a3 ?_ | refine a4 ?_ | refine a5 ?_ | refine a6 ?_ | refine s_loadBs ?_ | refine s_loadHs ?_ | refine s_indexArrT ?_ | refine s_indexArrB ?_ | refine s_loadB ?_ | refine s_loadH ?_ | refine s_loadR ?_ | refine s_rem ?_ | refine s_convI ?_ | refine s_build ?_ | refine s_fieldB ?_ | refine s_fieldV ?_ | refine s_addI ?_ | refine s_min ?_ | refine a7 ?_ | refine a8 ?_ | refine a9 ?_ | refine RW.storeR rfl rfl rfl rfl (by first | rfl | (simp [allOne, cellsL, one1]; done) | (simp [allOne, cellsL, one1]; first | assumption | (refine ⟨?_, ?_⟩ <;> assumption))) rfl ?_ | refine a10 ?_ | refine RW.storeR1 rfl rfl (by first | rfl | exact IsSl.one1 (by assumption) | exact IsSl.one1 (SliceRep.isSl (by assumption))) rfl rfl ?_)
  have hLt : ∀ m, m ≤ 50 → ((allW gl N).take m).length ≤ 1000000 := fun m hm => by rw [List.length_take]; omega
  have hLx : ∀ m, ∀ x ∈ (allW gl N).take m, x.links.length ≤ 1000000 := fun m x hx => by have := allW_links hall (List.mem_of_mem_take hx); omega
  have hM0 := made19_c (N := N) (k := n0) (s := 1000) hgl hg hT (by omega) (by omega)
  rw [div_big hN1 hN7 (by omega)] at hM0
  refine RW.call rfl (hM0) rfl rfl ?_
  rintro _ Ha ⟨va, vha, rfl, hva, hvha⟩ hlea
  have hva1 := hva.isSl.one1
  have hvha1 := hvha.isSl.one1
  have hO1 := pmore_c (N := N) (k := n1) (s := 1000) (w := wholeB (allW gl N) n0) (hgl.mono hlea) hg hT hva (hLt _ (by omega)) (hLx _) (by omega) (by omega) (check_ok hg n0)
  rw [div_big hN1 hN7 (by omega)] at hO1
  obtain ⟨m1, hm1⟩ : ∃ m, m = min (((allW gl N).take n0).length + n1) 50 := ⟨_, rfl⟩
  rw [← hm1] at hO1
  repeat (first | refine a1 ?_ | refine a3 ?_ | refine a4 ?_ | refine a5 ?_ | refine a6 ?_ | refine s_loadBs ?_ | refine s_loadHs ?_ | refine s_indexArrT ?_ | refine s_indexArrB ?_ | refine s_loadB ?_ | refine s_loadH ?_ | refine s_loadR ?_ | refine s_rem ?_ | refine s_convI ?_ | refine s_build ?_ | refine s_fieldB ?_ | refine s_fieldV ?_ | refine s_addI ?_ | refine s_min ?_ | refine a7 ?_ | refine a8 ?_ | refine a9 ?_ | refine RW.storeR rfl rfl rfl rfl (by first | rfl | (simp [allOne, cellsL, one1]; done) | (simp [allOne, cellsL, one1]; first | assumption | (refine ⟨?_, ?_⟩ <;> assumption))) rfl ?_ | refine a10 ?_ | refine RW.storeR1 rfl rfl (by first | rfl | exact IsSl.one1 (by assumption) | exact IsSl.one1 (SliceRep.isSl (by assumption))) rfl rfl ?_)
  refine RW.alloc rfl rfl rfl (fun b8 => ?_)
  repeat (first | refine a1 ?_ | refine a3 ?_ | refine a4 ?_ | refine a5 ?_ | refine a6 ?_ | refine s_loadBs ?_ | refine s_loadHs ?_ | refine s_indexArrT ?_ | refine s_indexArrB ?_ | refine s_loadB ?_ | refine s_loadH ?_ | refine s_loadR ?_ | refine s_rem ?_ | refine s_convI ?_ | refine s_build ?_ | refine s_fieldB ?_ | refine s_fieldV ?_ | refine s_addI ?_ | refine s_min ?_ | refine a7 ?_ | refine a8 ?_ | refine a9 ?_ | refine RW.storeR rfl rfl rfl rfl (by first | rfl | (simp [allOne, cellsL, one1]; done) | (simp [allOne, cellsL, one1]; first | assumption | (refine ⟨?_, ?_⟩ <;> assumption))) rfl ?_ | refine a10 ?_ | refine RW.storeR1 rfl rfl (by first | rfl | exact IsSl.one1 (by assumption) | exact IsSl.one1 (SliceRep.isSl (by assumption))) rfl rfl ?_)
  refine RW.q (QV.loadBp (c := [va, .bool (wholeB (allW gl N) n0)]) rfl pre4) rfl rfl ?_
  repeat (first | refine a1 ?_ | refine a3 ?_ | refine a4 ?_ | refine a5 ?_ | refine a6 ?_ | refine s_loadBs ?_ | refine s_loadHs ?_ | refine s_indexArrT ?_ | refine s_indexArrB ?_ | refine s_loadB ?_ | refine s_loadH ?_ | refine s_loadR ?_ | refine s_rem ?_ | refine s_convI ?_ | refine s_build ?_ | refine s_fieldB ?_ | refine s_fieldV ?_ | refine s_addI ?_ | refine s_min ?_ | refine a7 ?_ | refine a8 ?_ | refine a9 ?_ | refine RW.storeR rfl rfl rfl rfl (by first | rfl | (simp [allOne, cellsL, one1]; done) | (simp [allOne, cellsL, one1]; first | assumption | (refine ⟨?_, ?_⟩ <;> assumption))) rfl ?_ | refine a10 ?_ | refine RW.storeR1 rfl rfl (by first | rfl | exact IsSl.one1 (by assumption) | exact IsSl.one1 (SliceRep.isSl (by assumption))) rfl rfl ?_)
  refine RW.call rfl (hO1) rfl rfl ?_
  rintro _ Hb ⟨vb, rfl, hvb⟩ hleb
  have hvb1 := hvb.isSl.one1
  have hO2 := pmore_c (N := N) (k := n2) (s := 1000) (w := wholeB (allW gl N) m1) ((hgl.mono hlea).mono hleb) hg hT hvb (hLt _ (by omega)) (hLx _) (by omega) (by omega) (check_ok hg m1)
  rw [div_big hN1 hN7 (by omega)] at hO2
  obtain ⟨m2, hm2⟩ : ∃ m, m = min (((allW gl N).take m1).length + n2) 50 := ⟨_, rfl⟩
  rw [← hm2] at hO2
  repeat (first | refine a1 ?_ | refine a3 ?_ | refine a4 ?_ | refine a5 ?_ | refine a6 ?_ | refine s_loadBs ?_ | refine s_loadHs ?_ | refine s_indexArrT ?_ | refine s_indexArrB ?_ | refine s_loadB ?_ | refine s_loadH ?_ | refine s_loadR ?_ | refine s_rem ?_ | refine s_convI ?_ | refine s_build ?_ | refine s_fieldB ?_ | refine s_fieldV ?_ | refine s_addI ?_ | refine s_min ?_ | refine a7 ?_ | refine a8 ?_ | refine a9 ?_ | refine RW.storeR rfl rfl rfl rfl (by first | rfl | (simp [allOne, cellsL, one1]; done) | (simp [allOne, cellsL, one1]; first | assumption | (refine ⟨?_, ?_⟩ <;> assumption))) rfl ?_ | refine a10 ?_ | refine RW.storeR1 rfl rfl (by first | rfl | exact IsSl.one1 (by assumption) | exact IsSl.one1 (SliceRep.isSl (by assumption))) rfl rfl ?_)
  refine RW.alloc rfl rfl rfl (fun b9 => ?_)
  repeat (first | refine a1 ?_ | refine a3 ?_ | refine a4 ?_ | refine a5 ?_ | refine a6 ?_ | refine s_loadBs ?_ | refine s_loadHs ?_ | refine s_indexArrT ?_ | refine s_indexArrB ?_ | refine s_loadB ?_ | refine s_loadH ?_ | refine s_loadR ?_ | refine s_rem ?_ | refine s_convI ?_ | refine s_build ?_ | refine s_fieldB ?_ | refine s_fieldV ?_ | refine s_addI ?_ | refine s_min ?_ | refine a7 ?_ | refine a8 ?_ | refine a9 ?_ | refine RW.storeR rfl rfl rfl rfl (by first | rfl | (simp [allOne, cellsL, one1]; done) | (simp [allOne, cellsL, one1]; first | assumption | (refine ⟨?_, ?_⟩ <;> assumption))) rfl ?_ | refine a10 ?_ | refine RW.storeR1 rfl rfl (by first | rfl | exact IsSl.one1 (by assumption) | exact IsSl.one1 (SliceRep.isSl (by assumption))) rfl rfl ?_)
  refine RW.call rfl (hO2) rfl rfl ?_
  rintro _ Hc ⟨vc, rfl, hvc⟩ hlec
  have hvc1 := hvc.isSl.one1
  have hO3 := pmore_c (N := N) (k := n1 + n2) (s := 1000) (w := wholeB (allW gl N) n0) (((hgl.mono hlea).mono hleb).mono hlec) hg hT ((hva.mono hleb).mono hlec) (hLt _ (by omega)) (hLx _) (by omega) (by omega) (check_ok hg n0)
  rw [div_big hN1 hN7 (by omega)] at hO3
  obtain ⟨m3, hm3⟩ : ∃ m, m = min (((allW gl N).take n0).length + (n1 + n2)) 50 := ⟨_, rfl⟩
  rw [← hm3] at hO3
  repeat (first | refine a1 ?_ | refine a3 ?_ | refine a4 ?_ | refine a5 ?_ | refine a6 ?_ | refine s_loadBs ?_ | refine s_loadHs ?_ | refine s_indexArrT ?_ | refine s_indexArrB ?_ | refine s_loadB ?_ | refine s_loadH ?_ | refine s_loadR ?_ | refine s_rem ?_ | refine s_convI ?_ | refine s_build ?_ | refine s_fieldB ?_ | refine s_fieldV ?_ | refine s_addI ?_ | refine s_min ?_ | refine a7 ?_ | refine a8 ?_ | refine a9 ?_ | refine RW.storeR rfl rfl rfl rfl (by first | rfl | (simp [allOne, cellsL, one1]; done) | (simp [allOne, cellsL, one1]; first | assumption | (refine ⟨?_, ?_⟩ <;> assumption))) rfl ?_ | refine a10 ?_ | refine RW.storeR1 rfl rfl (by first | rfl | exact IsSl.one1 (by assumption) | exact IsSl.one1 (SliceRep.isSl (by assumption))) rfl rfl ?_)
  refine RW.alloc rfl rfl rfl (fun b11 => ?_)
  repeat (first | refine a1 ?_ | refine a3 ?_ | refine a4 ?_ | refine a5 ?_ | refine a6 ?_ | refine s_loadBs ?_ | refine s_loadHs ?_ | refine s_indexArrT ?_ | refine s_indexArrB ?_ | refine s_loadB ?_ | refine s_loadH ?_ | refine s_loadR ?_ | refine s_rem ?_ | refine s_convI ?_ | refine s_build ?_ | refine s_fieldB ?_ | refine s_fieldV ?_ | refine s_addI ?_ | refine s_min ?_ | refine a7 ?_ | refine a8 ?_ | refine a9 ?_ | refine RW.storeR rfl rfl rfl rfl (by first | rfl | (simp [allOne, cellsL, one1]; done) | (simp [allOne, cellsL, one1]; first | assumption | (refine ⟨?_, ?_⟩ <;> assumption))) rfl ?_ | refine a10 ?_ | refine RW.storeR1 rfl rfl (by first | rfl | exact IsSl.one1 (by assumption) | exact IsSl.one1 (SliceRep.isSl (by assumption))) rfl rfl ?_)
  refine RW.q (QV.loadBp (c := [va, .bool (wholeB (allW gl N) n0)]) rfl pre4) rfl rfl ?_
  repeat (first | refine a1 ?_ | refine a3 ?_ | refine a4 ?_ | refine a5 ?_ | refine a6 ?_ | refine s_loadBs ?_ | refine s_loadHs ?_ | refine s_indexArrT ?_ | refine s_indexArrB ?_ | refine s_loadB ?_ | refine s_loadH ?_ | refine s_loadR ?_ | refine s_rem ?_ | refine s_convI ?_ | refine s_build ?_ | refine s_fieldB ?_ | refine s_fieldV ?_ | refine s_addI ?_ | refine s_min ?_ | refine a7 ?_ | refine a8 ?_ | refine a9 ?_ | refine RW.storeR rfl rfl rfl rfl (by first | rfl | (simp [allOne, cellsL, one1]; done) | (simp [allOne, cellsL, one1]; first | assumption | (refine ⟨?_, ?_⟩ <;> assumption))) rfl ?_ | refine a10 ?_ | refine RW.storeR1 rfl rfl (by first | rfl | exact IsSl.one1 (by assumption) | exact IsSl.one1 (SliceRep.isSl (by assumption))) rfl rfl ?_)
  rw [show ((n1 : Int) + (n2 : Int)) = ((n1 + n2 : Nat) : Int) from by omega]
  refine RW.call rfl (hO3) rfl rfl ?_
  rintro _ Hd ⟨vd, rfl, hvd⟩ hled
  have hvd1 := hvd.isSl.one1
  repeat (first | refine a1 ?_ | refine a3 ?_ | refine a4 ?_ | refine a5 ?_ | refine a6 ?_ | refine s_loadBs ?_ | refine s_loadHs ?_ | refine s_indexArrT ?_ | refine s_indexArrB ?_ | refine s_loadB ?_ | refine s_loadH ?_ | refine s_loadR ?_ | refine s_rem ?_ | refine s_convI ?_ | refine s_build ?_ | refine s_fieldB ?_ | refine s_fieldV ?_ | refine s_addI ?_ | refine s_min ?_ | refine a7 ?_ | refine a8 ?_ | refine a9 ?_ | refine RW.storeR rfl rfl rfl rfl (by first | rfl | (simp [allOne, cellsL, one1]; done) | (simp [allOne, cellsL, one1]; first | assumption | (refine ⟨?_, ?_⟩ <;> assumption))) rfl ?_ | refine a10 ?_ | refine RW.storeR1 rfl rfl (by first | rfl | exact IsSl.one1 (by assumption) | exact IsSl.one1 (SliceRep.isSl (by assumption))) rfl rfl ?_)
  refine RW.alloc rfl rfl rfl (fun b13 => ?_)
  repeat (first | refine a1 ?_ | refine a3 ?_ | refine a4 ?_ | refine a5 ?_ | refine a6 ?_ | refine s_loadBs ?_ | refine s_loadHs ?_ | refine s_indexArrT ?_ | refine s_indexArrB ?_ | refine s_loadB ?_ | refine s_loadH ?_ | refine s_loadR ?_ | refine s_rem ?_ | refine s_convI ?_ | refine s_build ?_ | refine s_fieldB ?_ | refine s_fieldV ?_ | refine s_addI ?_ | refine s_min ?_ | refine a7 ?_ | refine a8 ?_ | refine a9 ?_ | refine RW.storeR rfl rfl rfl rfl (by first | rfl | (simp [allOne, cellsL, one1]; done) | (simp [allOne, cellsL, one1]; first | assumption | (refine ⟨?_, ?_⟩ <;> assumption))) rfl ?_ | refine a10 ?_ | refine RW.storeR1 rfl rfl (by first | rfl | exact IsSl.one1 (by assumption) | exact IsSl.one1 (SliceRep.isSl (by assumption))) rfl rfl ?_)
  obtain ⟨m4, hm4⟩ : ∃ m, m = min (n0 + n1 + n2) 50 := ⟨_, rfl⟩
  have hmin : (if (50 : Int) < (n0 : Int) + (n1 : Int) + (n2 : Int) then (50 : Int) else (n0 : Int) + (n1 : Int) + (n2 : Int)) = (m4 : Int) := by split <;> omega
  rw [hmin]
  have hM4 := made19_c (N := N) (k := m4) (s := 1000) ((((hgl.mono hlea).mono hleb).mono hlec).mono hled) hg hT (by omega) (by omega)
  rw [div_big hN1 hN7 (by omega)] at hM4
  refine RW.call rfl (hM4) rfl rfl ?_
  rintro _ He ⟨ve, vhe, rfl, hve, hvhe⟩ hlee
  have hve1 := hve.isSl.one1
  have hvhe1 := hvhe.isSl.one1
  rw [List.length_take] at hm1 hm2 hm3
  have e24 := takes_eq (A := allW gl N) (n := m2) (m := m4) (by omega)
  have e34 := takes_eq (A := allW gl N) (n := m3) (m := m4) (by omega)
  have p01 := pref_takes' (A := allW gl N) (n := n0) (m := m1) (by omega)
  have p12 := pref_takes' (A := allW gl N) (n := m1) (m := m2) (by omega)
  rw [e24.1] at hvc
  rw [e34.1] at hvd
  rw [e24.1, e24.2] at p12
  rw [e24.2, e34.2]
  have hS1 : Pure Try.prog 16 #[.agg #[vc, .bool (wholeB (allW gl N) m4)], .agg #[ve, .bool (wholeB (allW gl N) m4)]] He (fun _ r => r = .bool true) := (rsame_c ((hvc.mono hled).mono hlee) hve).mono fun _ _ _ h => by rw [h, decide_eq_true ⟨rfl, rfl⟩]
  have hS2 : Pure Try.prog 16 #[.agg #[vd, .bool (wholeB (allW gl N) m4)], .agg #[ve, .bool (wholeB (allW gl N) m4)]] He (fun _ r => r = .bool true) := (rsame_c (hvd.mono hlee) hve).mono fun _ _ _ h => by rw [h, decide_eq_true ⟨rfl, rfl⟩]
  have hP1 : Pure Try.prog 12 #[.agg #[va, .bool (wholeB (allW gl N) n0)], .agg #[vb, .bool (wholeB (allW gl N) m1)]] He (fun _ r => r = .bool true) := (prefix_c ((((hva.mono hleb).mono hlec).mono hled).mono hlee) (((hvb.mono hlec).mono hled).mono hlee)).mono fun _ _ _ h => by rw [h, p01]
  have hP2 : Pure Try.prog 12 #[.agg #[vb, .bool (wholeB (allW gl N) m1)], .agg #[vc, .bool (wholeB (allW gl N) m4)]] He (fun _ r => r = .bool true) := (prefix_c (((hvb.mono hlec).mono hled).mono hlee) ((hvc.mono hled).mono hlee)).mono fun _ _ _ h => by rw [h, p12]
  generalize wholeB (allW gl N) n0 = wa at *
  generalize wholeB (allW gl N) m1 = wb at *
  generalize wholeB (allW gl N) m4 = wc at *
  repeat (first | refine a1 ?_ | refine a3 ?_ | refine a4 ?_ | refine a5 ?_ | refine a6 ?_ | refine s_loadBs ?_ | refine s_loadHs ?_ | refine s_indexArrT ?_ | refine s_indexArrB ?_ | refine s_loadB ?_ | refine s_loadH ?_ | refine s_loadR ?_ | refine s_rem ?_ | refine s_convI ?_ | refine s_build ?_ | refine s_fieldB ?_ | refine s_fieldV ?_ | refine s_addI ?_ | refine s_min ?_ | refine a7 ?_ | refine a8 ?_ | refine a9 ?_ | refine RW.storeR rfl rfl rfl rfl (by first | rfl | (simp [allOne, cellsL, one1]; done) | (simp [allOne, cellsL, one1]; first | assumption | (refine ⟨?_, ?_⟩ <;> assumption))) rfl ?_ | refine a10 ?_ | refine RW.storeR1 rfl rfl (by first | rfl | exact IsSl.one1 (by assumption) | exact IsSl.one1 (SliceRep.isSl (by assumption))) rfl rfl ?_)
  refine RW.alloc rfl rfl rfl (fun b15 => ?_)
  repeat (first | refine a1 ?_ | refine a3 ?_ | refine a4 ?_ | refine a5 ?_ | refine a6 ?_ | refine s_loadBs ?_ | refine s_loadHs ?_ | refine s_indexArrT ?_ | refine s_indexArrB ?_ | refine s_loadB ?_ | refine s_loadH ?_ | refine s_loadR ?_ | refine s_rem ?_ | refine s_convI ?_ | refine s_build ?_ | refine s_fieldB ?_ | refine s_fieldV ?_ | refine s_addI ?_ | refine s_min ?_ | refine a7 ?_ | refine a8 ?_ | refine a9 ?_ | refine RW.storeR rfl rfl rfl rfl (by first | rfl | (simp [allOne, cellsL, one1]; done) | (simp [allOne, cellsL, one1]; first | assumption | (refine ⟨?_, ?_⟩ <;> assumption))) rfl ?_ | refine a10 ?_ | refine RW.storeR1 rfl rfl (by first | rfl | exact IsSl.one1 (by assumption) | exact IsSl.one1 (SliceRep.isSl (by assumption))) rfl rfl ?_)
  refine RW.q (QV.loadBp (c := [ve, .bool wc]) rfl pre4) rfl rfl ?_
  repeat (first | refine a1 ?_ | refine a3 ?_ | refine a4 ?_ | refine a5 ?_ | refine a6 ?_ | refine s_loadBs ?_ | refine s_loadHs ?_ | refine s_indexArrT ?_ | refine s_indexArrB ?_ | refine s_loadB ?_ | refine s_loadH ?_ | refine s_loadR ?_ | refine s_rem ?_ | refine s_convI ?_ | refine s_build ?_ | refine s_fieldB ?_ | refine s_fieldV ?_ | refine s_addI ?_ | refine s_min ?_ | refine a7 ?_ | refine a8 ?_ | refine a9 ?_ | refine RW.storeR rfl rfl rfl rfl (by first | rfl | (simp [allOne, cellsL, one1]; done) | (simp [allOne, cellsL, one1]; first | assumption | (refine ⟨?_, ?_⟩ <;> assumption))) rfl ?_ | refine a10 ?_ | refine RW.storeR1 rfl rfl (by first | rfl | exact IsSl.one1 (by assumption) | exact IsSl.one1 (SliceRep.isSl (by assumption))) rfl rfl ?_)
  refine RW.callV rfl (hS1) rfl rfl ?_
  rintro _ _ rfl
  repeat (first | refine a1 ?_ | refine a3 ?_ | refine a4 ?_ | refine a5 ?_ | refine a6 ?_ | refine s_loadBs ?_ | refine s_loadHs ?_ | refine s_indexArrT ?_ | refine s_indexArrB ?_ | refine s_loadB ?_ | refine s_loadH ?_ | refine s_loadR ?_ | refine s_rem ?_ | refine s_convI ?_ | refine s_build ?_ | refine s_fieldB ?_ | refine s_fieldV ?_ | refine s_addI ?_ | refine s_min ?_ | refine a7 ?_ | refine a8 ?_ | refine a9 ?_ | refine RW.storeR rfl rfl rfl rfl (by first | rfl | (simp [allOne, cellsL, one1]; done) | (simp [allOne, cellsL, one1]; first | assumption | (refine ⟨?_, ?_⟩ <;> assumption))) rfl ?_ | refine a10 ?_ | refine RW.storeR1 rfl rfl (by first | rfl | exact IsSl.one1 (by assumption) | exact IsSl.one1 (SliceRep.isSl (by assumption))) rfl rfl ?_)
  refine RW.q (QV.loadBp (c := [ve, .bool wc]) rfl pre4) rfl rfl ?_
  repeat (first | refine a1 ?_ | refine a3 ?_ | refine a4 ?_ | refine a5 ?_ | refine a6 ?_ | refine s_loadBs ?_ | refine s_loadHs ?_ | refine s_indexArrT ?_ | refine s_indexArrB ?_ | refine s_loadB ?_ | refine s_loadH ?_ | refine s_loadR ?_ | refine s_rem ?_ | refine s_convI ?_ | refine s_build ?_ | refine s_fieldB ?_ | refine s_fieldV ?_ | refine s_addI ?_ | refine s_min ?_ | refine a7 ?_ | refine a8 ?_ | refine a9 ?_ | refine RW.storeR rfl rfl rfl rfl (by first | rfl | (simp [allOne, cellsL, one1]; done) | (simp [allOne, cellsL, one1]; first | assumption | (refine ⟨?_, ?_⟩ <;> assumption))) rfl ?_ | refine a10 ?_ | refine RW.storeR1 rfl rfl (by first | rfl | exact IsSl.one1 (by assumption) | exact IsSl.one1 (SliceRep.isSl (by assumption))) rfl rfl ?_)
  refine RW.callV rfl (hS2) rfl rfl ?_
  rintro _ _ rfl
  repeat (first | refine a1 ?_ | refine a3 ?_ | refine a4 ?_ | refine a5 ?_ | refine a6 ?_ | refine s_loadBs ?_ | refine s_loadHs ?_ | refine s_indexArrT ?_ | refine s_indexArrB ?_ | refine s_loadB ?_ | refine s_loadH ?_ | refine s_loadR ?_ | refine s_rem ?_ | refine s_convI ?_ | refine s_build ?_ | refine s_fieldB ?_ | refine s_fieldV ?_ | refine s_addI ?_ | refine s_min ?_ | refine a7 ?_ | refine a8 ?_ | refine a9 ?_ | refine RW.storeR rfl rfl rfl rfl (by first | rfl | (simp [allOne, cellsL, one1]; done) | (simp [allOne, cellsL, one1]; first | assumption | (refine ⟨?_, ?_⟩ <;> assumption))) rfl ?_ | refine a10 ?_ | refine RW.storeR1 rfl rfl (by first | rfl | exact IsSl.one1 (by assumption) | exact IsSl.one1 (SliceRep.isSl (by assumption))) rfl rfl ?_)
  refine RW.q (QV.loadBp (c := [va, .bool wa]) rfl pre4) rfl rfl ?_
  repeat (first | refine a1 ?_ | refine a3 ?_ | refine a4 ?_ | refine a5 ?_ | refine a6 ?_ | refine s_loadBs ?_ | refine s_loadHs ?_ | refine s_indexArrT ?_ | refine s_indexArrB ?_ | refine s_loadB ?_ | refine s_loadH ?_ | refine s_loadR ?_ | refine s_rem ?_ | refine s_convI ?_ | refine s_build ?_ | refine s_fieldB ?_ | refine s_fieldV ?_ | refine s_addI ?_ | refine s_min ?_ | refine a7 ?_ | refine a8 ?_ | refine a9 ?_ | refine RW.storeR rfl rfl rfl rfl (by first | rfl | (simp [allOne, cellsL, one1]; done) | (simp [allOne, cellsL, one1]; first | assumption | (refine ⟨?_, ?_⟩ <;> assumption))) rfl ?_ | refine a10 ?_ | refine RW.storeR1 rfl rfl (by first | rfl | exact IsSl.one1 (by assumption) | exact IsSl.one1 (SliceRep.isSl (by assumption))) rfl rfl ?_)
  refine RW.callV rfl (hP1) rfl rfl ?_
  rintro _ _ rfl
  repeat (first | refine a1 ?_ | refine a3 ?_ | refine a4 ?_ | refine a5 ?_ | refine a6 ?_ | refine s_loadBs ?_ | refine s_loadHs ?_ | refine s_indexArrT ?_ | refine s_indexArrB ?_ | refine s_loadB ?_ | refine s_loadH ?_ | refine s_loadR ?_ | refine s_rem ?_ | refine s_convI ?_ | refine s_build ?_ | refine s_fieldB ?_ | refine s_fieldV ?_ | refine s_addI ?_ | refine s_min ?_ | refine a7 ?_ | refine a8 ?_ | refine a9 ?_ | refine RW.storeR rfl rfl rfl rfl (by first | rfl | (simp [allOne, cellsL, one1]; done) | (simp [allOne, cellsL, one1]; first | assumption | (refine ⟨?_, ?_⟩ <;> assumption))) rfl ?_ | refine a10 ?_ | refine RW.storeR1 rfl rfl (by first | rfl | exact IsSl.one1 (by assumption) | exact IsSl.one1 (SliceRep.isSl (by assumption))) rfl rfl ?_)
  refine RW.callV rfl (hP2) rfl rfl ?_
  rintro _ _ rfl
  repeat (first | refine a1 ?_ | refine a3 ?_ | refine a4 ?_ | refine a5 ?_ | refine a6 ?_ | refine s_loadBs ?_ | refine s_loadHs ?_ | refine s_indexArrT ?_ | refine s_indexArrB ?_ | refine s_loadB ?_ | refine s_loadH ?_ | refine s_loadR ?_ | refine s_rem ?_ | refine s_convI ?_ | refine s_build ?_ | refine s_fieldB ?_ | refine s_fieldV ?_ | refine s_addI ?_ | refine s_min ?_ | refine a7 ?_ | refine a8 ?_ | refine a9 ?_ | refine RW.storeR rfl rfl rfl rfl (by first | rfl | (simp [allOne, cellsL, one1]; done) | (simp [allOne, cellsL, one1]; first | assumption | (refine ⟨?_, ?_⟩ <;> assumption))) rfl ?_ | refine a10 ?_ | refine RW.storeR1 rfl rfl (by first | rfl | exact IsSl.one1 (by assumption) | exact IsSl.one1 (SliceRep.isSl (by assumption))) rfl rfl ?_)
  refine Runs.ret1 Try.func4 Try.results4 rfl (fun w hm => hR _ w _ H _ (List.mem_cons_self ..) (Snap.le.refl _) ?_ hm)
  rfl
end Go.Proofs.Ytjdhcblofkkibaa

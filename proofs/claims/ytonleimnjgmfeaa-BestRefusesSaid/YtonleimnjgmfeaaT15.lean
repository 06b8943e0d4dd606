/-
  The graphs that the laws make are valid and small; a list is the beginning of a longer one. Conditions: the raw data hold bytes.
-/
import Derived.Test.YtonleimnjgmfeaaT14
import Derived.Test.YtonleimnjgmfeaaDx
namespace Go.Proofs.Ytonleimnjgmfeaa
open Go Go.RowKit

theorem madeN_range (n : Int) : 1 ≤ madeN n ∧ madeN n ≤ 7 := by unfold madeN; omega
theorem linksOf_mem {N : Int} {xs : List (Int × Int × Int)} (hN : 1 < N) (hx : ∀ x ∈ xs, triOk x) : ∀ y ∈ linksOf N xs, 0 ≤ y.f ∧ y.f < y.t ∧ y.t < N ∧ 0 ≤ y.lab ∧ y.lab < xs.length ∧ 0 ≤ y.c ∧ y.c < 5 := by
  intro y hy
  unfold linksOf at hy
  obtain ⟨⟨x, i⟩, hp, rfl⟩ := List.mem_map.1 hy
  obtain ⟨j, hj⟩ := List.getElem?_of_mem hp
  rw [List.getElem?_zipIdx] at hj
  simp at hj
  obtain ⟨a1, a2, a3, ha, h1, h2⟩ := hj
  have hxo := hx x (by rw [← h1]; exact List.mem_of_getElem? ha)
  have hjl := (List.getElem?_eq_some_iff.1 ha).1
  simp only [triOk, isByte] at hxo
  have hm1 : 0 ≤ x.1 % (N - 1) ∧ x.1 % (N - 1) < N - 1 := ⟨Int.emod_nonneg _ (by omega), Int.emod_lt_of_pos _ (by omega)⟩
  have hm2 : 0 ≤ x.2.1 % (N - 1 - x.1 % (N - 1)) ∧ x.2.1 % (N - 1 - x.1 % (N - 1)) < N - 1 - x.1 % (N - 1) := ⟨Int.emod_nonneg _ (by omega), Int.emod_lt_of_pos _ (by omega)⟩
  simp only [mkLink]
  omega
theorem madeL_length (n : Int) (xs : List (Int × Int × Int)) : (madeL n xs).length ≤ 14 := by
  unfold madeL; split
  · simp [linksOf]; omega
  · simp
theorem made_valid (n : Int) {xs : List (Int × Int × Int)} (hx : ∀ x ∈ xs, triOk x) : validG (madeN n) (madeL n xs) := by
  have h1 := madeN_range n
  have h2 := madeL_length n xs
  refine ⟨h1.1, by omega, by omega, fun y hy => ?_⟩
  unfold madeL at hy
  split at hy
  · rename_i hN
    have := linksOf_mem hN (fun x hxx => hx x (List.mem_of_mem_take hxx)) y hy
    unfold okL
    have h3 : (xs.take 14).length ≤ 14 := by simp; omega
    omega
  · simp at hy
theorem treeT_pow (gl : List Lnk) : ∀ (F : Nat) (n : Int), treeT gl F n ≤ (gl.length + 1) ^ F
  | 0, n => by simp [treeT]
  | F + 1, n => by
    have h1 := sum_le_mul (fun i => treeT gl F (lnk gl i).t) ((gl.length + 1) ^ F) (outOf gl n) fun i _ => treeT_pow gl F _
    have h2 := Nat.mul_le_mul_right ((gl.length + 1) ^ F) (outOf_length gl n)
    have h3 : 1 ≤ (gl.length + 1) ^ F := Nat.pos_of_ne_zero (by simp)
    rw [treeT, Nat.pow_succ, Nat.mul_comm, Nat.succ_mul]
    omega
theorem made_tree (n : Int) (xs : List (Int × Int × Int)) : treeT (madeL n xs) (madeN n).toNat 0 ≤ 2000000000000 := by
  have h1 := madeN_range n
  refine Nat.le_trans (treeT_pow _ _ _) ?_
  have h2 := madeL_length n xs
  refine Nat.le_trans (Nat.pow_le_pow_left (show (madeL n xs).length + 1 ≤ 15 by omega) _) ?_
  refine Nat.le_trans (Nat.pow_le_pow_right (by omega) (show (madeN n).toNat ≤ 7 by omega)) ?_
  decide

theorem listR_ok {N : Int} {gl : List Lnk} {k : Int} (hg : validG N gl) (h0 : 0 ≤ k) (h1 : k ≤ 50) : listE N gl k = 0 ∧ listR N gl k = (ordered (waysG gl N N.toNat 0)).take k.toNat := by
  unfold listE listR
  rw [if_neg (fun h => h hg), if_neg (by omega), if_pos ⟨hg, h0, h1⟩]
  exact ⟨rfl, rfl⟩
set_option maxHeartbeats 4000000 in
theorem begins_c {H : Snap} {n w0 w1 : Int} {vL : Value} {xs : List (Int × Int × Int)} (hl : SliceRep H TriL vL xs) (hn : isByte n) (hx : ∀ x ∈ xs, triOk x) (h0 : isByte w0) (h1 : isByte w1) :
    Pure Try.prog 5 #[.agg #[.int .u8 n, vL], .agg #[.int .u8 w0, .int .u8 w1]] H (fun _ r => r = .bool true) := by
  unfold isByte at h0 h1
  have hg := made_valid n hx
  have hT := made_tree n xs
  have hm1 : 0 ≤ w0 % 51 ∧ w0 % 51 ≤ 50 := by omega
  have hm2 : 0 ≤ w1 % 51 ∧ w1 % 51 ≤ 50 := by omega
  obtain ⟨a, ha⟩ : ∃ a : Nat, w0 % 51 = (a : Int) := ⟨(w0 % 51).toNat, by omega⟩
  obtain ⟨b, hb⟩ : ∃ b : Nat, w1 % 51 = (b : Int) := ⟨(w1 % 51).toNat, by omega⟩
  have hla := listR_ok (k := (a : Int)) hg (by omega) (by omega)
  have hlb := listR_ok (k := (b : Int)) hg (by omega) (by omega)
  rw [Int.toNat_natCast] at hla hlb
  generalize ordered (waysG (madeL n xs) (madeN n) (madeN n).toNat 0) = W at hla hlb
  refine Pure.intro Try.func5 rfl Try.ntmps5 rfl (fun E R hM hR => ?_)
  repeat (first | refine a1 ?_ | refine a3 ?_ | refine a4 ?_ | refine a5 ?_ | refine a6 ?_ | refine s_loadB ?_ | refine s_loadH ?_ | refine s_indexT ?_ | refine s_indexRT ?_ | refine s_indexArrT ?_ | refine s_len ?_ | refine s_lenR ?_ | refine s_loadBs ?_ | refine s_loadR ?_ | refine s_convI ?_ | refine s_conv ?_ | refine s_rem ?_ | refine s_min ?_ | refine s_sliceHi ?_ | refine s_sliceLo ?_ | refine s_lss ?_ | refine s_neq ?_ | refine s_gtr ?_ | refine s_leq ?_ | refine a7 ?_ | refine a8 ?_ | refine a9 ?_ | refine RW.storeR rfl rfl rfl rfl (by first | rfl | (simp [allOne, cellsL, one1]; done) | (simp [allOne, cellsL, one1]; first | assumption | (refine ⟨?_, ?_⟩ <;> assumption))) rfl ?_ | refine a10 ?_ | refine RW.storeR1 rfl rfl (by first | rfl | exact IsSl.one1 (by assumption) | exact IsSl.one1 (SliceRep.isSl (by assumption))) rfl rfl ?_)
  refine RW.box rfl rfl rfl rfl (fun b2 => ?_)
  refine RW.box rfl rfl rfl rfl (fun b3 => ?_)
  repeat (first | refine a1 ?_ | refine a3 ?_ | refine a4 ?_ | refine a5 ?_ | refine a6 ?_ | refine s_loadB ?_ | refine s_loadH ?_ | refine s_indexT ?_ | refine s_indexRT ?_ | refine s_indexArrT ?_ | refine s_len ?_ | refine s_lenR ?_ | refine s_loadBs ?_ | refine s_loadR ?_ | refine s_convI ?_ | refine s_conv ?_ | refine s_rem ?_ | refine s_min ?_ | refine s_sliceHi ?_ | refine s_sliceLo ?_ | refine s_lss ?_ | refine s_neq ?_ | refine s_gtr ?_ | refine s_leq ?_ | refine a7 ?_ | refine a8 ?_ | refine a9 ?_ | refine RW.storeR rfl rfl rfl rfl (by first | rfl | (simp [allOne, cellsL, one1]; done) | (simp [allOne, cellsL, one1]; first | assumption | (refine ⟨?_, ?_⟩ <;> assumption))) rfl ?_ | refine a10 ?_ | refine RW.storeR1 rfl rfl (by first | rfl | exact IsSl.one1 (by assumption) | exact IsSl.one1 (SliceRep.isSl (by assumption))) rfl rfl ?_)
  refine RW.callV rfl (sanity_c (H := H)) rfl rfl ?_
  rintro _ _ rfl
  repeat (first | refine a1 ?_ | refine a3 ?_ | refine a4 ?_ | refine a5 ?_ | refine a6 ?_ | refine s_loadB ?_ | refine s_loadH ?_ | refine s_indexT ?_ | refine s_indexRT ?_ | refine s_indexArrT ?_ | refine s_len ?_ | refine s_lenR ?_ | refine s_loadBs ?_ | refine s_loadR ?_ | refine s_convI ?_ | refine s_conv ?_ | refine s_rem ?_ | refine s_min ?_ | refine s_sliceHi ?_ | refine s_sliceLo ?_ | refine s_lss ?_ | refine s_neq ?_ | refine s_gtr ?_ | refine s_leq ?_ | refine a7 ?_ | refine a8 ?_ | refine a9 ?_ | refine RW.storeR rfl rfl rfl rfl (by first | rfl | (simp [allOne, cellsL, one1]; done) | (simp [allOne, cellsL, one1]; first | assumption | (refine ⟨?_, ?_⟩ <;> assumption))) rfl ?_ | refine a10 ?_ | refine RW.storeR1 rfl rfl (by first | rfl | exact IsSl.one1 (by assumption) | exact IsSl.one1 (SliceRep.isSl (by assumption))) rfl rfl ?_)
  refine RW.call rfl (made_c hl hn hx) rfl rfl ?_
  rintro _ Hg ⟨vg, rfl, hgl⟩ hleg
  obtain ⟨Ag, cg, rfl, _, _⟩ := hgl.isSl
  refine RW.alloc rfl rfl rfl (fun b6 => ?_)
  repeat (first | refine a1 ?_ | refine a3 ?_ | refine a4 ?_ | refine a5 ?_ | refine a6 ?_ | refine s_loadB ?_ | refine s_loadH ?_ | refine s_indexT ?_ | refine s_indexRT ?_ | refine s_indexArrT ?_ | refine s_len ?_ | refine s_lenR ?_ | refine s_loadBs ?_ | refine s_loadR ?_ | refine s_convI ?_ | refine s_conv ?_ | refine s_rem ?_ | refine s_min ?_ | refine s_sliceHi ?_ | refine s_sliceLo ?_ | refine s_lss ?_ | refine s_neq ?_ | refine s_gtr ?_ | refine s_leq ?_ | refine a7 ?_ | refine a8 ?_ | refine a9 ?_ | refine RW.storeR rfl rfl rfl rfl (by first | rfl | (simp [allOne, cellsL, one1]; done) | (simp [allOne, cellsL, one1]; first | assumption | (refine ⟨?_, ?_⟩ <;> assumption))) rfl ?_ | refine a10 ?_ | refine RW.storeR1 rfl rfl (by first | rfl | exact IsSl.one1 (by assumption) | exact IsSl.one1 (SliceRep.isSl (by assumption))) rfl rfl ?_)
  refine Runs.regionD _ _ [] (fun x hx => List.mem_cons_of_mem _ hx) (List.Sublist.refl _) (by kernel_rfl) ?_
  refine DW.qF 0 rfl (by kernel_rfl) (QF.indexArrB rfl rfl (by omega)) rfl rfl ?_
  (first | refine t_loadB 1 ?_ | refine t_loadH 1 ?_ | refine t_loadBs 1 ?_ | refine t_loadR 1 ?_)
  (first | refine t_convI 2 ?_ | refine t_conv 2 ?_)
  refine t_rem 3 ?_
  refine DW.qF 4 rfl (by kernel_rfl) (QF.indexArrB rfl rfl (by omega)) rfl rfl ?_
  (first | refine t_loadB 5 ?_ | refine t_loadH 5 ?_ | refine t_loadBs 5 ?_ | refine t_loadR 5 ?_)
  (first | refine t_convI 6 ?_ | refine t_conv 6 ?_)
  refine t_rem 7 ?_
  refine d1 8 2 ?_
  refine DW.done (by kernel_rfl) ?_
  repeat (first | refine a1 ?_ | refine a3 ?_ | refine a4 ?_ | refine a5 ?_ | refine a6 ?_ | refine s_loadB ?_ | refine s_loadH ?_ | refine s_indexT ?_ | refine s_indexRT ?_ | refine s_indexArrT ?_ | refine s_len ?_ | refine s_lenR ?_ | refine s_loadBs ?_ | refine s_loadR ?_ | refine s_convI ?_ | refine s_conv ?_ | refine s_rem ?_ | refine s_min ?_ | refine s_sliceHi ?_ | refine s_sliceLo ?_ | refine s_lss ?_ | refine s_neq ?_ | refine s_gtr ?_ | refine s_leq ?_ | refine a7 ?_ | refine a8 ?_ | refine a9 ?_ | refine RW.storeR rfl rfl rfl rfl (by first | rfl | (simp [allOne, cellsL, one1]; done) | (simp [allOne, cellsL, one1]; first | assumption | (refine ⟨?_, ?_⟩ <;> assumption))) rfl ?_ | refine a10 ?_ | refine RW.storeR1 rfl rfl (by first | rfl | exact IsSl.one1 (by assumption) | exact IsSl.one1 (SliceRep.isSl (by assumption))) rfl rfl ?_)
  rw [ha, hb]
  have hA := blist_c (k := (a : Int)) hgl (fun _ => hT)
  rw [hla.1, hla.2] at hA
  refine RW.call rfl (hA) rfl rfl ?_
  rintro _ Ha ⟨va, rfl, hva⟩ hlea
  repeat (first | refine a1 ?_ | refine a3 ?_ | refine a4 ?_ | refine a5 ?_ | refine a6 ?_ | refine s_loadB ?_ | refine s_loadH ?_ | refine s_indexT ?_ | refine s_indexRT ?_ | refine s_indexArrT ?_ | refine s_len ?_ | refine s_lenR ?_ | refine s_loadBs ?_ | refine s_loadR ?_ | refine s_convI ?_ | refine s_conv ?_ | refine s_rem ?_ | refine s_min ?_ | refine s_sliceHi ?_ | refine s_sliceLo ?_ | refine s_lss ?_ | refine s_neq ?_ | refine s_gtr ?_ | refine s_leq ?_ | refine a7 ?_ | refine a8 ?_ | refine a9 ?_ | refine RW.storeR rfl rfl rfl rfl (by first | rfl | (simp [allOne, cellsL, one1]; done) | (simp [allOne, cellsL, one1]; first | assumption | (refine ⟨?_, ?_⟩ <;> assumption))) rfl ?_ | refine a10 ?_ | refine RW.storeR1 rfl rfl (by first | rfl | exact IsSl.one1 (by assumption) | exact IsSl.one1 (SliceRep.isSl (by assumption))) rfl rfl ?_)
  have hB := blist_c (k := (b : Int)) (hgl.mono hlea) (fun _ => hT)
  rw [hlb.1, hlb.2] at hB
  refine RW.call rfl (hB) rfl rfl ?_
  rintro _ Hb ⟨vb, rfl, hvb⟩ hleb
  repeat (first | refine a1 ?_ | refine a3 ?_ | refine a4 ?_ | refine a5 ?_ | refine a6 ?_ | refine s_loadB ?_ | refine s_loadH ?_ | refine s_indexT ?_ | refine s_indexRT ?_ | refine s_indexArrT ?_ | refine s_len ?_ | refine s_lenR ?_ | refine s_loadBs ?_ | refine s_loadR ?_ | refine s_convI ?_ | refine s_conv ?_ | refine s_rem ?_ | refine s_min ?_ | refine s_sliceHi ?_ | refine s_sliceLo ?_ | refine s_lss ?_ | refine s_neq ?_ | refine s_gtr ?_ | refine s_leq ?_ | refine a7 ?_ | refine a8 ?_ | refine a9 ?_ | refine RW.storeR rfl rfl rfl rfl (by first | rfl | (simp [allOne, cellsL, one1]; done) | (simp [allOne, cellsL, one1]; first | assumption | (refine ⟨?_, ?_⟩ <;> assumption))) rfl ?_ | refine a10 ?_ | refine RW.storeR1 rfl rfl (by first | rfl | exact IsSl.one1 (by assumption) | exact IsSl.one1 (SliceRep.isSl (by assumption))) rfl rfl ?_)
  rw [min_ite]
  have hsA := hva.mono hleb
  have h1A : (W.take a).length = min a W.length := by simp
  have h1B : (W.take b).length = min b W.length := by simp
  have hmA : min (W.take a).length (W.take b).length ≤ (W.take a).length := Nat.min_le_left _ _
  have hmB : min (W.take a).length (W.take b).length ≤ (W.take b).length := Nat.min_le_right _ _
  have hslA := hsA.slv (s := 2) (lo := 0) rfl (Nat.zero_le _) hmA (Nat.le_trans hmA hsA.capOf_le) (Nat.le_refl _)
  have hslB := hvb.slv (s := 2) (lo := 0) rfl (Nat.zero_le _) hmB (Nat.le_trans hmB hvb.capOf_le) (Nat.le_refl _)
  have heq : ((W.take a).drop 0).take (min (W.take a).length (W.take b).length - 0) = ((W.take b).drop 0).take (min (W.take a).length (W.take b).length - 0) := by
    simp only [List.drop_zero, Nat.sub_zero, List.take_take, h1A, h1B]
    rw [List.take_eq_take_iff]
    omega
  have hS : Pure Try.prog 17 #[slv va 2 0 (min (W.take a).length (W.take b).length) (capOf va), slv vb 2 0 (min (W.take a).length (W.take b).length) (capOf vb)] Hb (fun _ r => r = .bool true) :=
    (same_c hslA hslB).mono fun _ _ _ h => by rw [h, heq]; simp
  refine Runs.regionD _ _ [] (fun x hx => List.mem_cons_of_mem _ hx) (List.Sublist.refl _) (by kernel_rfl) ?_
  refine d1 0 2 ?_
  refine t_sliceHi 2 ?_
  refine d1 3 2 ?_
  refine t_sliceHi 5 ?_
  refine DW.callV 6 rfl (by kernel_rfl) rfl (hS) rfl rfl ?_
  rintro _ _ rfl
  refine d2 7 ?_
  refine d1 8 4 ?_
  refine DW.dec 59 rfl (fun hab => ?_) (fun hab => ?_)
  · refine d3 12 ?_
    refine d3 13 ?_
    refine d3 14 ?_
    refine d3 15 ?_
    refine d3 16 ?_
    refine d1 17 3 ?_
    refine d1 20 4 ?_
    refine DW.dec 71 rfl (fun hba => ?_) (fun hba => ?_)
    · exfalso; omega
    · refine d2 24 ?_
      (first | refine t_len 25 ?_ | refine t_lenR 25 ?_ | refine t_lenS 25 ?_)
      refine d2 26 ?_
      (first | refine t_len 27 ?_ | refine t_lenR 27 ?_ | refine t_lenS 27 ?_)
      refine d2 28 ?_
      rw [decide_eq_true (show (((W.take b).length : Nat) : Int) ≤ (((W.take a).length : Nat) : Int) by omega)]
      refine d1 29 3 ?_
      refine d1 32 3 ?_
      refine DW.done (by kernel_rfl) ?_
      repeat (first | refine a1 ?_ | refine a3 ?_ | refine a4 ?_ | refine a5 ?_ | refine a6 ?_ | refine s_loadB ?_ | refine s_loadH ?_ | refine s_indexT ?_ | refine s_indexRT ?_ | refine s_indexArrT ?_ | refine s_len ?_ | refine s_lenR ?_ | refine s_loadBs ?_ | refine s_loadR ?_ | refine s_convI ?_ | refine s_conv ?_ | refine s_rem ?_ | refine s_min ?_ | refine s_sliceHi ?_ | refine s_sliceLo ?_ | refine s_lss ?_ | refine s_neq ?_ | refine s_gtr ?_ | refine s_leq ?_ | refine a7 ?_ | refine a8 ?_ | refine a9 ?_ | refine RW.storeR rfl rfl rfl rfl (by first | rfl | (simp [allOne, cellsL, one1]; done) | (simp [allOne, cellsL, one1]; first | assumption | (refine ⟨?_, ?_⟩ <;> assumption))) rfl ?_ | refine a10 ?_ | refine RW.storeR1 rfl rfl (by first | rfl | exact IsSl.one1 (by assumption) | exact IsSl.one1 (SliceRep.isSl (by assumption))) rfl rfl ?_)
      refine Runs.ret1 Try.func5 Try.results5 rfl (fun w hm => hR _ w _ H _ (List.mem_cons_self ..) (Snap.le.refl _) ?_ hm)
      rfl
  · refine d2 12 ?_
    (first | refine t_len 13 ?_ | refine t_lenR 13 ?_ | refine t_lenS 13 ?_)
    refine d2 14 ?_
    (first | refine t_len 15 ?_ | refine t_lenR 15 ?_ | refine t_lenS 15 ?_)
    refine d2 16 ?_
    rw [decide_eq_true (show (((W.take a).length : Nat) : Int) ≤ (((W.take b).length : Nat) : Int) by omega)]
    refine d1 17 3 ?_
    refine d1 20 4 ?_
    refine DW.dec 71 rfl (fun hba => ?_) (fun hba => ?_)
    · refine d3 24 ?_
      refine d3 25 ?_
      refine d3 26 ?_
      refine d3 27 ?_
      refine d3 28 ?_
      refine d1 29 3 ?_
      refine d1 32 3 ?_
      refine DW.done (by kernel_rfl) ?_
      repeat (first | refine a1 ?_ | refine a3 ?_ | refine a4 ?_ | refine a5 ?_ | refine a6 ?_ | refine s_loadB ?_ | refine s_loadH ?_ | refine s_indexT ?_ | refine s_indexRT ?_ | refine s_indexArrT ?_ | refine s_len ?_ | refine s_lenR ?_ | refine s_loadBs ?_ | refine s_loadR ?_ | refine s_convI ?_ | refine s_conv ?_ | refine s_rem ?_ | refine s_min ?_ | refine s_sliceHi ?_ | refine s_sliceLo ?_ | refine s_lss ?_ | refine s_neq ?_ | refine s_gtr ?_ | refine s_leq ?_ | refine a7 ?_ | refine a8 ?_ | refine a9 ?_ | refine RW.storeR rfl rfl rfl rfl (by first | rfl | (simp [allOne, cellsL, one1]; done) | (simp [allOne, cellsL, one1]; first | assumption | (refine ⟨?_, ?_⟩ <;> assumption))) rfl ?_ | refine a10 ?_ | refine RW.storeR1 rfl rfl (by first | rfl | exact IsSl.one1 (by assumption) | exact IsSl.one1 (SliceRep.isSl (by assumption))) rfl rfl ?_)
      refine Runs.ret1 Try.func5 Try.results5 rfl (fun w hm => hR _ w _ H _ (List.mem_cons_self ..) (Snap.le.refl _) ?_ hm)
      rfl
    · refine d2 24 ?_
      (first | refine t_len 25 ?_ | refine t_lenR 25 ?_ | refine t_lenS 25 ?_)
      refine d2 26 ?_
      (first | refine t_len 27 ?_ | refine t_lenR 27 ?_ | refine t_lenS 27 ?_)
      refine d2 28 ?_
      rw [decide_eq_true (show (((W.take b).length : Nat) : Int) ≤ (((W.take a).length : Nat) : Int) by omega)]
      refine d1 29 3 ?_
      refine d1 32 3 ?_
      refine DW.done (by kernel_rfl) ?_
      repeat (first | refine a1 ?_ | refine a3 ?_ | refine a4 ?_ | refine a5 ?_ | refine a6 ?_ | refine s_loadB ?_ | refine s_loadH ?_ | refine s_indexT ?_ | refine s_indexRT ?_ | refine s_indexArrT ?_ | refine s_len ?_ | refine s_lenR ?_ | refine s_loadBs ?_ | refine s_loadR ?_ | refine s_convI ?_ | refine s_conv ?_ | refine s_rem ?_ | refine s_min ?_ | refine s_sliceHi ?_ | refine s_sliceLo ?_ | refine s_lss ?_ | refine s_neq ?_ | refine s_gtr ?_ | refine s_leq ?_ | refine a7 ?_ | refine a8 ?_ | refine a9 ?_ | refine RW.storeR rfl rfl rfl rfl (by first | rfl | (simp [allOne, cellsL, one1]; done) | (simp [allOne, cellsL, one1]; first | assumption | (refine ⟨?_, ?_⟩ <;> assumption))) rfl ?_ | refine a10 ?_ | refine RW.storeR1 rfl rfl (by first | rfl | exact IsSl.one1 (by assumption) | exact IsSl.one1 (SliceRep.isSl (by assumption))) rfl rfl ?_)
      refine Runs.ret1 Try.func5 Try.results5 rfl (fun w hm => hR _ w _ H _ (List.mem_cons_self ..) (Snap.le.refl _) ?_ hm)
      rfl
end Go.Proofs.Ytonleimnjgmfeaa

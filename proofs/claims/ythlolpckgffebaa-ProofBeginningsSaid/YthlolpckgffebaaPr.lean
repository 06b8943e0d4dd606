/-
  The law ProofBeginnings. Conditions: the arguments' form.
-/
import Derived.Test.YthlolpckgffebaaPo
namespace Go.Proofs.Ythlolpckgffebaa
open Go Go.RowKit

theorem check_begin {N : Nat} {gl : List Lnk} (hg : validG N gl) {k : Nat} (hk : k < (allW gl N).length) (w : Bool) : checkR N gl (pot gl N) ((allW gl N).take k) w = ((k : Int), if w then 160 else 0) := by
  have hr : rightP N gl (pot gl N) := ⟨hg, by rw [Int.toNat_natCast]⟩
  have hgn : ¬ ¬ validG N gl := fun h => h hg
  have hrn : ¬ ¬ rightP N gl (pot gl N) := fun h => h hr
  have hl : ((allW gl N).take k).length = k := by simp; omega
  rw [check_eq, rcheckR, if_neg hgn, if_neg hrn, Int.toNat_natCast, commonN_self_take, hl, decide_eq_false (by omega)]
  cases w with
  | true => rw [if_pos (.inr (by simp))]; rfl
  | false => rw [if_neg (by simp)]; rfl
theorem check_less {N : Nat} {gl : List Lnk} (hg : validG N gl) {n k : Nat} (hk : k + 1 < ((allW gl N).take n).length) (w : Bool) :
    checkR N gl (pot gl N) (((allW gl N).take n).take k ++ ((allW gl N).take n).drop (k + 1)) w = ((k : Int), 160) := by
  have hr : rightP N gl (pot gl N) := ⟨hg, by rw [Int.toNat_natCast]⟩
  have hgn : ¬ ¬ validG N gl := fun h => h hg
  have hrn : ¬ ¬ rightP N gl (pot gl N) := fun h => h hr
  have hlt : (((allW gl N).take n).take k).length = k := by simp only [List.length_take] at *; omega
  have hn : n ≤ (allW gl N).length ∨ (allW gl N).length < n := by omega
  have hpn : ∀ j, j < ((allW gl N).take n).length → ((allW gl N).take n)[j]? = (allW gl N)[j]? := fun j hj => by
    rw [List.getElem?_take_of_lt (by simp only [List.length_take] at hj; omega)]
  have hc : commonN (((allW gl N).take n).take k ++ ((allW gl N).take n).drop (k + 1)) (allW gl N) = k := by
    refine commonN_at _ _ _ (by simp only [List.length_append, hlt]; omega) (fun j hj => ?_) (.inr ?_)
    · rw [List.getElem?_append_left (by omega), List.getElem?_take_of_lt hj]
      exact hpn j (by omega)
    · rw [List.getElem?_append_right (by omega), hlt, Nat.sub_self, List.getElem?_drop, Nat.add_zero, hpn (k + 1) hk]
      intro e
      have hkl : k < (allW gl N).length := by simp only [List.length_take] at hk; omega
      have h0 : (allW gl N)[k]? = some (allW gl N)[k] := List.getElem?_eq_getElem hkl
      rw [h0] at e
      exact candLt_irrefl _ (strict_ne (ordered_strict gl N N 0) h0 e (by omega))
  rw [check_eq, rcheckR, if_neg hgn, if_neg hrn, Int.toNat_natCast, hc]
  have hlt2 : k < (((allW gl N).take n).take k ++ ((allW gl N).take n).drop (k + 1)).length := by
    rw [List.length_append, hlt, List.length_drop]; omega
  rw [if_pos (.inl hlt2)]

set_option maxHeartbeats 8000000 in
theorem beginnings16_c {H : Snap} {n nn w0 w1 : Int} {vL : Value} {xs : List (Int × Int × Int)} (hl : SliceRep H TriL vL xs) (hn : isByte n) (hx : ∀ x ∈ xs, triOk x) (hnn : isByte nn) (hw0 : isByte w0) (hw1 : isByte w1) :
    Pure Try.prog 6 #[.agg #[.int .u8 n, vL], .int .u8 nn, .agg #[.int .u8 w0, .int .u8 w1]] H (fun _ r => r = .bool true) := by
  have hg := made_valid n hx
  have hgl14 := madeL_length n xs
  unfold isByte at hnn hw0 hw1
  refine Pure.intro Try.func6 rfl Try.ntmps6 rfl (fun E R hM hR => ?_)
  repeat (first | refine a1 ?_ | refine a3 ?_ | refine a4 ?_ | refine a5 ?_ | refine a6 ?_ | refine s_loadBs ?_ | refine s_loadHs ?_ | refine s_rem ?_ | refine s_convI ?_ | refine s_indexArrT ?_ | refine s_indexArrB ?_ | refine s_loadB ?_ | refine s_loadH ?_ | refine s_loadR ?_ | refine s_fieldB ?_ | refine s_fieldV ?_ | refine s_len ?_ | refine s_lenR ?_ | refine s_addI ?_ | refine s_sliceHi ?_ | refine s_build ?_ | refine s_subI ?_ | refine s_sliceLo ?_ | refine a7 ?_ | refine a8 ?_ | refine a9 ?_ | refine RW.storeR rfl rfl rfl rfl (by first | rfl | (simp [allOne, cellsL, one1]; done) | (simp [allOne, cellsL, one1]; first | assumption | (refine ⟨?_, ?_⟩ <;> assumption))) rfl ?_ | refine a10 ?_ | refine RW.storeR1 rfl rfl (by first | rfl | exact IsSl.one1 (by assumption) | exact IsSl.one1 (SliceRep.isSl (by assumption))) rfl rfl ?_)
  refine RW.box rfl rfl rfl rfl (fun b3 => ?_)
  refine RW.box rfl rfl rfl rfl (fun b5 => ?_)
  repeat (first | refine a1 ?_ | refine a3 ?_ | refine a4 ?_ | refine a5 ?_ | refine a6 ?_ | refine s_loadBs ?_ | refine s_loadHs ?_ | refine s_rem ?_ | refine s_convI ?_ | refine s_indexArrT ?_ | refine s_indexArrB ?_ | refine s_loadB ?_ | refine s_loadH ?_ | refine s_loadR ?_ | refine s_fieldB ?_ | refine s_fieldV ?_ | refine s_len ?_ | refine s_lenR ?_ | refine s_addI ?_ | refine s_sliceHi ?_ | refine s_build ?_ | refine s_subI ?_ | refine s_sliceLo ?_ | refine a7 ?_ | refine a8 ?_ | refine a9 ?_ | refine RW.storeR rfl rfl rfl rfl (by first | rfl | (simp [allOne, cellsL, one1]; done) | (simp [allOne, cellsL, one1]; first | assumption | (refine ⟨?_, ?_⟩ <;> assumption))) rfl ?_ | refine a10 ?_ | refine RW.storeR1 rfl rfl (by first | rfl | exact IsSl.one1 (by assumption) | exact IsSl.one1 (SliceRep.isSl (by assumption))) rfl rfl ?_)
  refine RW.callV rfl (sanity16_c (H := H)) rfl rfl ?_
  rintro _ _ rfl
  repeat (first | refine a1 ?_ | refine a3 ?_ | refine a4 ?_ | refine a5 ?_ | refine a6 ?_ | refine s_loadBs ?_ | refine s_loadHs ?_ | refine s_rem ?_ | refine s_convI ?_ | refine s_indexArrT ?_ | refine s_indexArrB ?_ | refine s_loadB ?_ | refine s_loadH ?_ | refine s_loadR ?_ | refine s_fieldB ?_ | refine s_fieldV ?_ | refine s_len ?_ | refine s_lenR ?_ | refine s_addI ?_ | refine s_sliceHi ?_ | refine s_build ?_ | refine s_subI ?_ | refine s_sliceLo ?_ | refine a7 ?_ | refine a8 ?_ | refine a9 ?_ | refine RW.storeR rfl rfl rfl rfl (by first | rfl | (simp [allOne, cellsL, one1]; done) | (simp [allOne, cellsL, one1]; first | assumption | (refine ⟨?_, ?_⟩ <;> assumption))) rfl ?_ | refine a10 ?_ | refine RW.storeR1 rfl rfl (by first | rfl | exact IsSl.one1 (by assumption) | exact IsSl.one1 (SliceRep.isSl (by assumption))) rfl rfl ?_)
  refine RW.call rfl (made_c hl hn hx) rfl rfl ?_
  rintro _ Hg ⟨vg, rfl, hgl⟩ hleg
  generalize hGe : madeL n xs = gl at hgl hg hgl14
  generalize hNe : madeN n = N at hg ⊢
  obtain ⟨N, rfl⟩ : ∃ M : Nat, N = (M : Int) := ⟨N.toNat, by have := hg.1; omega⟩
  have hgv := hg
  obtain ⟨hN1, hN2, hlen, hall⟩ := hg
  have hvg1 := hgl.isSl.one1
  have hfew : (waysG gl N N 0).length ≤ 168 := ways_few hall hgl14 N 0
  have hpot := pot_is hall (by omega)
  have hpl := hpot.1
  refine RW.alloc rfl rfl rfl (fun b8 => ?_)
  repeat (first | refine a1 ?_ | refine a3 ?_ | refine a4 ?_ | refine a5 ?_ | refine a6 ?_ | refine s_loadBs ?_ | refine s_loadHs ?_ | refine s_rem ?_ | refine s_convI ?_ | refine s_indexArrT ?_ | refine s_indexArrB ?_ | refine s_loadB ?_ | refine s_loadH ?_ | refine s_loadR ?_ | refine s_fieldB ?_ | refine s_fieldV ?_ | refine s_len ?_ | refine s_lenR ?_ | refine s_addI ?_ | refine s_sliceHi ?_ | refine s_build ?_ | refine s_subI ?_ | refine s_sliceLo ?_ | refine a7 ?_ | refine a8 ?_ | refine a9 ?_ | refine RW.storeR rfl rfl rfl rfl (by first | rfl | (simp [allOne, cellsL, one1]; done) | (simp [allOne, cellsL, one1]; first | assumption | (refine ⟨?_, ?_⟩ <;> assumption))) rfl ?_ | refine a10 ?_ | refine RW.storeR1 rfl rfl (by first | rfl | exact IsSl.one1 (by assumption) | exact IsSl.one1 (SliceRep.isSl (by assumption))) rfl rfl ?_)
  refine RW.call rfl (rpot_c (N := (N : Int)) hgl) rfl rfl ?_
  rintro _ Hp ⟨vp, rfl, hvp⟩ hlep
  rw [potE_valid hgv]
  rw [potL_valid hgv] at hvp
  generalize hpe : pot gl N = h at hvp hpot hpl
  repeat (first | refine a1 ?_ | refine a3 ?_ | refine a4 ?_ | refine a5 ?_ | refine a6 ?_ | refine s_loadBs ?_ | refine s_loadHs ?_ | refine s_rem ?_ | refine s_convI ?_ | refine s_indexArrT ?_ | refine s_indexArrB ?_ | refine s_loadB ?_ | refine s_loadH ?_ | refine s_loadR ?_ | refine s_fieldB ?_ | refine s_fieldV ?_ | refine s_len ?_ | refine s_lenR ?_ | refine s_addI ?_ | refine s_sliceHi ?_ | refine s_build ?_ | refine s_subI ?_ | refine s_sliceLo ?_ | refine a7 ?_ | refine a8 ?_ | refine a9 ?_ | refine RW.storeR rfl rfl rfl rfl (by first | rfl | (simp [allOne, cellsL, one1]; done) | (simp [allOne, cellsL, one1]; first | assumption | (refine ⟨?_, ?_⟩ <;> assumption))) rfl ?_ | refine a10 ?_ | refine RW.storeR1 rfl rfl (by first | rfl | exact IsSl.one1 (by assumption) | exact IsSl.one1 (SliceRep.isSl (by assumption))) rfl rfl ?_)
  have hglp := hgl.mono hlep
  obtain ⟨m, hm⟩ : ∃ m : Nat, nn % 13 = (m : Int) := ⟨(nn % 13).toNat, by omega⟩
  rw [hm]
  repeat (first | refine a1 ?_ | refine a3 ?_ | refine a4 ?_ | refine a5 ?_ | refine a6 ?_ | refine s_loadBs ?_ | refine s_loadHs ?_ | refine s_rem ?_ | refine s_convI ?_ | refine s_indexArrT ?_ | refine s_indexArrB ?_ | refine s_loadB ?_ | refine s_loadH ?_ | refine s_loadR ?_ | refine s_fieldB ?_ | refine s_fieldV ?_ | refine s_len ?_ | refine s_lenR ?_ | refine s_addI ?_ | refine s_sliceHi ?_ | refine s_build ?_ | refine s_subI ?_ | refine s_sliceLo ?_ | refine a7 ?_ | refine a8 ?_ | refine a9 ?_ | refine RW.storeR rfl rfl rfl rfl (by first | rfl | (simp [allOne, cellsL, one1]; done) | (simp [allOne, cellsL, one1]; first | assumption | (refine ⟨?_, ?_⟩ <;> assumption))) rfl ?_ | refine a10 ?_ | refine RW.storeR1 rfl rfl (by first | rfl | exact IsSl.one1 (by assumption) | exact IsSl.one1 (SliceRep.isSl (by assumption))) rfl rfl ?_)
  refine RW.call rfl (first_c (n := m) hglp hgv (by omega) (by omega)) rfl rfl ?_
  rintro _ Hf ⟨vf, rfl, hvf⟩ hlef
  have hvf1 := hvf.isSl.one1
  have hglf := hglp.mono hlef
  have hvpf := hvp.mono hlef
  have hPl : ((allW gl N).take m).length ≤ 12 := by simp only [List.length_take]; omega
  have hPn : ((allW gl N).take m).length ≤ (allW gl N).length := by simp only [List.length_take]; omega
  have hPx : ∀ x ∈ (allW gl N).take m, x.links.length ≤ 1000000 := fun x hx => by have := allW_links hall (List.mem_of_mem_take hx); omega
  generalize hwe : decide (min m (allW gl N).length = (allW gl N).length) = w at *
  have hPk : ∀ k, k ≤ ((allW gl N).take m).length → ((allW gl N).take m).take k = (allW gl N).take k := fun k hk => by
    rw [List.take_take]; congr 1; simp only [List.length_take] at hk; omega
  generalize hPe : (allW gl N).take m = P at *
  refine RW.alloc rfl rfl rfl (fun b11 => ?_)
  repeat (first | refine a1 ?_ | refine a3 ?_ | refine a4 ?_ | refine a5 ?_ | refine a6 ?_ | refine s_loadBs ?_ | refine s_loadHs ?_ | refine s_rem ?_ | refine s_convI ?_ | refine s_indexArrT ?_ | refine s_indexArrB ?_ | refine s_loadB ?_ | refine s_loadH ?_ | refine s_loadR ?_ | refine s_fieldB ?_ | refine s_fieldV ?_ | refine s_len ?_ | refine s_lenR ?_ | refine s_addI ?_ | refine s_sliceHi ?_ | refine s_build ?_ | refine s_subI ?_ | refine s_sliceLo ?_ | refine a7 ?_ | refine a8 ?_ | refine a9 ?_ | refine RW.storeR rfl rfl rfl rfl (by first | rfl | (simp [allOne, cellsL, one1]; done) | (simp [allOne, cellsL, one1]; first | assumption | (refine ⟨?_, ?_⟩ <;> assumption))) rfl ?_ | refine a10 ?_ | refine RW.storeR1 rfl rfl (by first | rfl | exact IsSl.one1 (by assumption) | exact IsSl.one1 (SliceRep.isSl (by assumption))) rfl rfl ?_)
  obtain ⟨Af, cf, rfl, _, _⟩ := hvf.isSl
  obtain ⟨k, hk⟩ : ∃ k : Nat, w0 % ((P.length : Int) + 1) = (k : Int) := ⟨(w0 % ((P.length : Int) + 1)).toNat, by
    have := Int.emod_nonneg w0 (b := (P.length : Int) + 1) (by omega)
    omega⟩
  have hkl : k ≤ P.length := by
    have := Int.emod_lt_of_pos w0 (b := (P.length : Int) + 1) (by omega)
    omega
  rw [hk]
  repeat (first | refine a1 ?_ | refine a3 ?_ | refine a4 ?_ | refine a5 ?_ | refine a6 ?_ | refine s_loadBs ?_ | refine s_loadHs ?_ | refine s_rem ?_ | refine s_convI ?_ | refine s_indexArrT ?_ | refine s_indexArrB ?_ | refine s_loadB ?_ | refine s_loadH ?_ | refine s_loadR ?_ | refine s_fieldB ?_ | refine s_fieldV ?_ | refine s_len ?_ | refine s_lenR ?_ | refine s_addI ?_ | refine s_sliceHi ?_ | refine s_build ?_ | refine s_subI ?_ | refine s_sliceLo ?_ | refine a7 ?_ | refine a8 ?_ | refine a9 ?_ | refine RW.storeR rfl rfl rfl rfl (by first | rfl | (simp [allOne, cellsL, one1]; done) | (simp [allOne, cellsL, one1]; first | assumption | (refine ⟨?_, ?_⟩ <;> assumption))) rfl ?_ | refine a10 ?_ | refine RW.storeR1 rfl rfl (by first | rfl | exact IsSl.one1 (by assumption) | exact IsSl.one1 (SliceRep.isSl (by assumption))) rfl rfl ?_)
  refine Runs.cond_d rfl (fun hlt => ?_) (fun hlt => ?_)
  · have hks : SliceRep Hf CandL (slv (.slice Af P.length cf) 2 0 k (capOf (.slice Af P.length cf))) (P.take k) := by
      have := hvf.slv (s := 2) (lo := 0) (hi := k) (mx := capOf (.slice Af P.length cf)) rfl (Nat.zero_le _) (by omega) (Nat.le_trans (by omega) hvf.capOf_le) (Nat.le_refl _)
      simpa using this
    have hka : k < (allW gl N).length := by omega
    have hkt : (P.take k).length ≤ 1000000 := by simp only [List.length_take]; omega
    have hkx : ∀ x ∈ P.take k, x.links.length ≤ 1000000 := fun x hx => hPx x (List.mem_of_mem_take hx)
    have hC1 := bcheck_c (N := (N : Int)) (w := false) hglf hvpf hks hkt hkx
    have hC2 := bcheck_c (N := (N : Int)) (w := true) hglf hvpf hks hkt hkx
    have c1 := check_begin hgv hka false
    have c2 := check_begin hgv hka true
    rw [hpe, ← hPk k hkl] at c1 c2
    rw [c1] at hC1
    rw [c2] at hC2
    repeat (first | refine a1 ?_ | refine a3 ?_ | refine a4 ?_ | refine a5 ?_ | refine a6 ?_ | refine s_loadBs ?_ | refine s_loadHs ?_ | refine s_rem ?_ | refine s_convI ?_ | refine s_indexArrT ?_ | refine s_indexArrB ?_ | refine s_loadB ?_ | refine s_loadH ?_ | refine s_loadR ?_ | refine s_fieldB ?_ | refine s_fieldV ?_ | refine s_len ?_ | refine s_lenR ?_ | refine s_addI ?_ | refine s_sliceHi ?_ | refine s_build ?_ | refine s_subI ?_ | refine s_sliceLo ?_ | refine a7 ?_ | refine a8 ?_ | refine a9 ?_ | refine RW.storeR rfl rfl rfl rfl (by first | rfl | (simp [allOne, cellsL, one1]; done) | (simp [allOne, cellsL, one1]; first | assumption | (refine ⟨?_, ?_⟩ <;> assumption))) rfl ?_ | refine a10 ?_ | refine RW.storeR1 rfl rfl (by first | rfl | exact IsSl.one1 (by assumption) | exact IsSl.one1 (SliceRep.isSl (by assumption))) rfl rfl ?_)
    refine Runs.regionD _ _ [] (fun x hx => List.mem_cons_of_mem _ hx) (List.Sublist.refl _) (by kernel_rfl) ?_
    (first | refine t_loadBs 0 ?_ | refine t_loadHs 0 ?_)
    refine d2 1 ?_
    (first | refine t_fieldB 2 ?_ | refine t_fieldV 2 ?_)
    (first | refine t_loadB 3 ?_ | refine t_loadH 3 ?_ | refine t_loadR 3 ?_)
    refine d2 4 ?_
    refine t_sliceHi 5 ?_
    refine t_build 6 ?_
    refine DW.callV 7 rfl (by kernel_rfl) rfl (hC1) rfl rfl ?_
    rintro _ _ rfl
    refine d1 8 5 ?_
    refine DW.done (by kernel_rfl) ?_
    repeat (first | refine a1 ?_ | refine a3 ?_ | refine a4 ?_ | refine a5 ?_ | refine a6 ?_ | refine s_loadBs ?_ | refine s_loadHs ?_ | refine s_rem ?_ | refine s_convI ?_ | refine s_indexArrT ?_ | refine s_indexArrB ?_ | refine s_loadB ?_ | refine s_loadH ?_ | refine s_loadR ?_ | refine s_fieldB ?_ | refine s_fieldV ?_ | refine s_len ?_ | refine s_lenR ?_ | refine s_addI ?_ | refine s_sliceHi ?_ | refine s_build ?_ | refine s_subI ?_ | refine s_sliceLo ?_ | refine a7 ?_ | refine a8 ?_ | refine a9 ?_ | refine RW.storeR rfl rfl rfl rfl (by first | rfl | (simp [allOne, cellsL, one1]; done) | (simp [allOne, cellsL, one1]; first | assumption | (refine ⟨?_, ?_⟩ <;> assumption))) rfl ?_ | refine a10 ?_ | refine RW.storeR1 rfl rfl (by first | rfl | exact IsSl.one1 (by assumption) | exact IsSl.one1 (SliceRep.isSl (by assumption))) rfl rfl ?_)
    refine Runs.regionD _ _ [] (fun x hx => List.mem_cons_of_mem _ hx) (List.Sublist.refl _) (by kernel_rfl) ?_
    (first | refine t_loadBs 0 ?_ | refine t_loadHs 0 ?_)
    refine d2 1 ?_
    (first | refine t_fieldB 2 ?_ | refine t_fieldV 2 ?_)
    (first | refine t_loadB 3 ?_ | refine t_loadH 3 ?_ | refine t_loadR 3 ?_)
    refine d2 4 ?_
    refine t_sliceHi 5 ?_
    refine t_build 6 ?_
    refine DW.callV 7 rfl (by kernel_rfl) rfl (hC2) rfl rfl ?_
    rintro _ _ rfl
    refine d1 8 5 ?_
    refine DW.done (by kernel_rfl) ?_
    dsimp only
    repeat (first | refine a1 ?_ | refine a3 ?_ | refine a4 ?_ | refine a5 ?_ | refine a6 ?_ | refine s_loadBs ?_ | refine s_loadHs ?_ | refine s_rem ?_ | refine s_convI ?_ | refine s_indexArrT ?_ | refine s_indexArrB ?_ | refine s_loadB ?_ | refine s_loadH ?_ | refine s_loadR ?_ | refine s_fieldB ?_ | refine s_fieldV ?_ | refine s_len ?_ | refine s_lenR ?_ | refine s_addI ?_ | refine s_sliceHi ?_ | refine s_build ?_ | refine s_subI ?_ | refine s_sliceLo ?_ | refine a7 ?_ | refine a8 ?_ | refine a9 ?_ | refine RW.storeR rfl rfl rfl rfl (by first | rfl | (simp [allOne, cellsL, one1]; done) | (simp [allOne, cellsL, one1]; first | assumption | (refine ⟨?_, ?_⟩ <;> assumption))) rfl ?_ | refine a10 ?_ | refine RW.storeR1 rfl rfl (by first | rfl | exact IsSl.one1 (by assumption) | exact IsSl.one1 (SliceRep.isSl (by assumption))) rfl rfl ?_)
    refine RW.dec 76 rfl (fun hkk => ?_) (fun hkk => ?_)
    · exact absurd rfl hkk
    · skip
      repeat (first | refine a1 ?_ | refine a3 ?_ | refine a4 ?_ | refine a5 ?_ | refine a6 ?_ | refine s_loadBs ?_ | refine s_loadHs ?_ | refine s_rem ?_ | refine s_convI ?_ | refine s_indexArrT ?_ | refine s_indexArrB ?_ | refine s_loadB ?_ | refine s_loadH ?_ | refine s_loadR ?_ | refine s_fieldB ?_ | refine s_fieldV ?_ | refine s_len ?_ | refine s_lenR ?_ | refine s_addI ?_ | refine s_sliceHi ?_ | refine s_build ?_ | refine s_subI ?_ | refine s_sliceLo ?_ | refine a7 ?_ | refine a8 ?_ | refine a9 ?_ | refine RW.storeR rfl rfl rfl rfl (by first | rfl | (simp [allOne, cellsL, one1]; done) | (simp [allOne, cellsL, one1]; first | assumption | (refine ⟨?_, ?_⟩ <;> assumption))) rfl ?_ | refine a10 ?_ | refine RW.storeR1 rfl rfl (by first | rfl | exact IsSl.one1 (by assumption) | exact IsSl.one1 (SliceRep.isSl (by assumption))) rfl rfl ?_)
      refine Runs.cond_d rfl (fun hlt2 => ?_) (fun hlt2 => ?_)
      · repeat (first | refine a1 ?_ | refine a3 ?_ | refine a4 ?_ | refine a5 ?_ | refine a6 ?_ | refine s_loadBs ?_ | refine s_loadHs ?_ | refine s_rem ?_ | refine s_convI ?_ | refine s_indexArrT ?_ | refine s_indexArrB ?_ | refine s_loadB ?_ | refine s_loadH ?_ | refine s_loadR ?_ | refine s_fieldB ?_ | refine s_fieldV ?_ | refine s_len ?_ | refine s_lenR ?_ | refine s_addI ?_ | refine s_sliceHi ?_ | refine s_build ?_ | refine s_subI ?_ | refine s_sliceLo ?_ | refine a7 ?_ | refine a8 ?_ | refine a9 ?_ | refine RW.storeR rfl rfl rfl rfl (by first | rfl | (simp [allOne, cellsL, one1]; done) | (simp [allOne, cellsL, one1]; first | assumption | (refine ⟨?_, ?_⟩ <;> assumption))) rfl ?_ | refine a10 ?_ | refine RW.storeR1 rfl rfl (by first | rfl | exact IsSl.one1 (by assumption) | exact IsSl.one1 (SliceRep.isSl (by assumption))) rfl rfl ?_)
        refine Runs.ret1 Try.func6 Try.results6 rfl (fun w hm => hR _ w _ Hf _ (by simp) ((((hleg.trans hlep).trans hlef))) ?_ hm)
        rfl
      repeat (first | refine a1 ?_ | refine a3 ?_ | refine a4 ?_ | refine a5 ?_ | refine a6 ?_ | refine s_loadBs ?_ | refine s_loadHs ?_ | refine s_rem ?_ | refine s_convI ?_ | refine s_indexArrT ?_ | refine s_indexArrB ?_ | refine s_loadB ?_ | refine s_loadH ?_ | refine s_loadR ?_ | refine s_fieldB ?_ | refine s_fieldV ?_ | refine s_len ?_ | refine s_lenR ?_ | refine s_addI ?_ | refine s_sliceHi ?_ | refine s_build ?_ | refine s_subI ?_ | refine s_sliceLo ?_ | refine a7 ?_ | refine a8 ?_ | refine a9 ?_ | refine RW.storeR rfl rfl rfl rfl (by first | rfl | (simp [allOne, cellsL, one1]; done) | (simp [allOne, cellsL, one1]; first | assumption | (refine ⟨?_, ?_⟩ <;> assumption))) rfl ?_ | refine a10 ?_ | refine RW.storeR1 rfl rfl (by first | rfl | exact IsSl.one1 (by assumption) | exact IsSl.one1 (SliceRep.isSl (by assumption))) rfl rfl ?_)
      obtain ⟨q, hq⟩ : ∃ q : Nat, w1 % (((P.length : Int)) - 1) = (q : Int) := ⟨(w1 % ((P.length : Int) - 1)).toNat, by
        have := Int.emod_nonneg w1 (b := (P.length : Int) - 1) (by omega)
        omega⟩
      have hql : q + 1 < P.length := by
        have := Int.emod_lt_of_pos w1 (b := (P.length : Int) - 1) (by omega)
        omega
      rw [hq]
      repeat (first | refine a1 ?_ | refine a3 ?_ | refine a4 ?_ | refine a5 ?_ | refine a6 ?_ | refine s_loadBs ?_ | refine s_loadHs ?_ | refine s_rem ?_ | refine s_convI ?_ | refine s_indexArrT ?_ | refine s_indexArrB ?_ | refine s_loadB ?_ | refine s_loadH ?_ | refine s_loadR ?_ | refine s_fieldB ?_ | refine s_fieldV ?_ | refine s_len ?_ | refine s_lenR ?_ | refine s_addI ?_ | refine s_sliceHi ?_ | refine s_build ?_ | refine s_subI ?_ | refine s_sliceLo ?_ | refine a7 ?_ | refine a8 ?_ | refine a9 ?_ | refine RW.storeR rfl rfl rfl rfl (by first | rfl | (simp [allOne, cellsL, one1]; done) | (simp [allOne, cellsL, one1]; first | assumption | (refine ⟨?_, ?_⟩ <;> assumption))) rfl ?_ | refine a10 ?_ | refine RW.storeR1 rfl rfl (by first | rfl | exact IsSl.one1 (by assumption) | exact IsSl.one1 (SliceRep.isSl (by assumption))) rfl rfl ?_)
      refine RW.buildSlice rfl rfl rfl rfl rfl rfl rfl (fun v93 hv93 => ?_)
      repeat (first | refine a1 ?_ | refine a3 ?_ | refine a4 ?_ | refine a5 ?_ | refine a6 ?_ | refine s_loadBs ?_ | refine s_loadHs ?_ | refine s_rem ?_ | refine s_convI ?_ | refine s_indexArrT ?_ | refine s_indexArrB ?_ | refine s_loadB ?_ | refine s_loadH ?_ | refine s_loadR ?_ | refine s_fieldB ?_ | refine s_fieldV ?_ | refine s_len ?_ | refine s_lenR ?_ | refine s_addI ?_ | refine s_sliceHi ?_ | refine s_build ?_ | refine s_subI ?_ | refine s_sliceLo ?_ | refine a7 ?_ | refine a8 ?_ | refine a9 ?_ | refine RW.storeR rfl rfl rfl rfl (by first | rfl | (simp [allOne, cellsL, one1]; done) | (simp [allOne, cellsL, one1]; first | assumption | (refine ⟨?_, ?_⟩ <;> assumption))) rfl ?_ | refine a10 ?_ | refine RW.storeR1 rfl rfl (by first | rfl | exact IsSl.one1 (by assumption) | exact IsSl.one1 (SliceRep.isSl (by assumption))) rfl rfl ?_)
      have hslo : SliceRep Hf CandL (slv (.slice Af P.length cf) 2 0 q (capOf (.slice Af P.length cf))) ((P.drop 0).take (q - 0)) := hvf.slv rfl (Nat.zero_le _) (by omega) (Nat.le_trans (by omega) hvf.capOf_le) (Nat.le_refl _)
      have hshi : SliceRep Hf CandL (slv (.slice Af P.length cf) 2 (q + 1) P.length (capOf (.slice Af P.length cf))) ((P.drop (q + 1)).take (P.length - (q + 1))) := hvf.slv rfl (by omega) (Nat.le_refl _) hvf.capOf_le (Nat.le_refl _)
      have hl1 : ((P.drop 0).take (q - 0)).length = q := by simp only [List.drop_zero, Nat.sub_zero, List.length_take]; omega
      have hl2 : ((P.drop (q + 1)).take (P.length - (q + 1))).length = P.length - (q + 1) := by simp
      refine RW.appendH rfl rfl (hslo) (by rfl) rfl (by decide) (by omega) (by omega) (fun _ _ => inferInstance) rfl rfl (fun d1 v98 hd1 hv98 => ?_)
      simp only [repL, List.nil_append, Nat.zero_add]
      repeat (first | refine a1 ?_ | refine a3 ?_ | refine a4 ?_ | refine a5 ?_ | refine a6 ?_ | refine s_loadBs ?_ | refine s_loadHs ?_ | refine s_rem ?_ | refine s_convI ?_ | refine s_indexArrT ?_ | refine s_indexArrB ?_ | refine s_loadB ?_ | refine s_loadH ?_ | refine s_loadR ?_ | refine s_fieldB ?_ | refine s_fieldV ?_ | refine s_len ?_ | refine s_lenR ?_ | refine s_addI ?_ | refine s_sliceHi ?_ | refine s_build ?_ | refine s_subI ?_ | refine s_sliceLo ?_ | refine a7 ?_ | refine a8 ?_ | refine a9 ?_ | refine RW.storeR rfl rfl rfl rfl (by first | rfl | (simp [allOne, cellsL, one1]; done) | (simp [allOne, cellsL, one1]; first | assumption | (refine ⟨?_, ?_⟩ <;> assumption))) rfl ?_ | refine a10 ?_ | refine RW.storeR1 rfl rfl (by first | rfl | exact IsSl.one1 (by assumption) | exact IsSl.one1 (SliceRep.isSl (by assumption))) rfl rfl ?_)
      rw [show (q : Int) + 1 = ((q + 1 : Nat) : Int) by omega]
      repeat (first | refine a1 ?_ | refine a3 ?_ | refine a4 ?_ | refine a5 ?_ | refine a6 ?_ | refine s_loadBs ?_ | refine s_loadHs ?_ | refine s_rem ?_ | refine s_convI ?_ | refine s_indexArrT ?_ | refine s_indexArrB ?_ | refine s_loadB ?_ | refine s_loadH ?_ | refine s_loadR ?_ | refine s_fieldB ?_ | refine s_fieldV ?_ | refine s_len ?_ | refine s_lenR ?_ | refine s_addI ?_ | refine s_sliceHi ?_ | refine s_build ?_ | refine s_subI ?_ | refine s_sliceLo ?_ | refine a7 ?_ | refine a8 ?_ | refine a9 ?_ | refine RW.storeR rfl rfl rfl rfl (by first | rfl | (simp [allOne, cellsL, one1]; done) | (simp [allOne, cellsL, one1]; first | assumption | (refine ⟨?_, ?_⟩ <;> assumption))) rfl ?_ | refine a10 ?_ | refine RW.storeR1 rfl rfl (by first | rfl | exact IsSl.one1 (by assumption) | exact IsSl.one1 (SliceRep.isSl (by assumption))) rfl rfl ?_)
      refine RW.appendH rfl rfl (hshi) (by rfl) rfl (by decide) (by omega) (by omega) (fun _ _ => inferInstance) rfl rfl (fun d2 v105 hd2 hv105 => ?_)
      refine RW.freeze (H := Hf) v105 hM (fun H1 hle1 hs1 hc1 => ?_)
      have hless : SliceRep H1 CandL v105 (P.take q ++ P.drop (q + 1)) := by
        refine SliceRep.of_row hs1 ?_ ?_ (Snap.le.refl _) hc1
        · simp only [List.length_append, List.length_take, List.length_drop] at *; omega
        · have := (hd1.mono hle1).append (hd2.mono hle1)
          rwa [List.drop_zero, Nat.sub_zero, ← List.length_drop, List.take_length] at this
      have hll := hless.isSl.bound
      have hC := bcheck_c (N := (N : Int)) (w := w) (hglf.mono hle1) (hvpf.mono hle1) hless (by simp only [List.length_append, List.length_take, List.length_drop]; omega) (fun x hx => hPx x (by
        rcases List.mem_append.1 hx with h | h
        · exact List.mem_of_mem_take h
        · exact List.mem_of_mem_drop h))
      have hcl := check_less hgv (n := m) (k := q) (by rw [hPe]; exact hql) w
      rw [hpe, hPe] at hcl
      rw [hcl] at hC
      obtain ⟨A105, c105, e105, _, _⟩ := hless.isSl
      rw [e105] at hC ⊢
      repeat (first | refine a1 ?_ | refine a3 ?_ | refine a4 ?_ | refine a5 ?_ | refine a6 ?_ | refine s_loadBs ?_ | refine s_loadHs ?_ | refine s_rem ?_ | refine s_convI ?_ | refine s_indexArrT ?_ | refine s_indexArrB ?_ | refine s_loadB ?_ | refine s_loadH ?_ | refine s_loadR ?_ | refine s_fieldB ?_ | refine s_fieldV ?_ | refine s_len ?_ | refine s_lenR ?_ | refine s_addI ?_ | refine s_sliceHi ?_ | refine s_build ?_ | refine s_subI ?_ | refine s_sliceLo ?_ | refine a7 ?_ | refine a8 ?_ | refine a9 ?_ | refine RW.storeR rfl rfl rfl rfl (by first | rfl | (simp [allOne, cellsL, one1]; done) | (simp [allOne, cellsL, one1]; first | assumption | (refine ⟨?_, ?_⟩ <;> assumption))) rfl ?_ | refine a10 ?_ | refine RW.storeR1 rfl rfl (by first | rfl | exact IsSl.one1 (by assumption) | exact IsSl.one1 (SliceRep.isSl (by assumption))) rfl rfl ?_)
      refine RW.callV rfl (hC) rfl rfl ?_
      rintro _ _ rfl
      dsimp only
      repeat (first | refine a1 ?_ | refine a3 ?_ | refine a4 ?_ | refine a5 ?_ | refine a6 ?_ | refine s_loadBs ?_ | refine s_loadHs ?_ | refine s_rem ?_ | refine s_convI ?_ | refine s_indexArrT ?_ | refine s_indexArrB ?_ | refine s_loadB ?_ | refine s_loadH ?_ | refine s_loadR ?_ | refine s_fieldB ?_ | refine s_fieldV ?_ | refine s_len ?_ | refine s_lenR ?_ | refine s_addI ?_ | refine s_sliceHi ?_ | refine s_build ?_ | refine s_subI ?_ | refine s_sliceLo ?_ | refine a7 ?_ | refine a8 ?_ | refine a9 ?_ | refine RW.storeR rfl rfl rfl rfl (by first | rfl | (simp [allOne, cellsL, one1]; done) | (simp [allOne, cellsL, one1]; first | assumption | (refine ⟨?_, ?_⟩ <;> assumption))) rfl ?_ | refine a10 ?_ | refine RW.storeR1 rfl rfl (by first | rfl | exact IsSl.one1 (by assumption) | exact IsSl.one1 (SliceRep.isSl (by assumption))) rfl rfl ?_)
      rw [decide_eq_true (rfl : (q : Int) = (q : Int))]
      repeat (first | refine a1 ?_ | refine a3 ?_ | refine a4 ?_ | refine a5 ?_ | refine a6 ?_ | refine s_loadBs ?_ | refine s_loadHs ?_ | refine s_rem ?_ | refine s_convI ?_ | refine s_indexArrT ?_ | refine s_indexArrB ?_ | refine s_loadB ?_ | refine s_loadH ?_ | refine s_loadR ?_ | refine s_fieldB ?_ | refine s_fieldV ?_ | refine s_len ?_ | refine s_lenR ?_ | refine s_addI ?_ | refine s_sliceHi ?_ | refine s_build ?_ | refine s_subI ?_ | refine s_sliceLo ?_ | refine a7 ?_ | refine a8 ?_ | refine a9 ?_ | refine RW.storeR rfl rfl rfl rfl (by first | rfl | (simp [allOne, cellsL, one1]; done) | (simp [allOne, cellsL, one1]; first | assumption | (refine ⟨?_, ?_⟩ <;> assumption))) rfl ?_ | refine a10 ?_ | refine RW.storeR1 rfl rfl (by first | rfl | exact IsSl.one1 (by assumption) | exact IsSl.one1 (SliceRep.isSl (by assumption))) rfl rfl ?_)
      refine Runs.ret1 Try.func6 Try.results6 rfl (fun w hm => hR _ w _ Hf _ (by simp) ((((hleg.trans hlep).trans hlef))) ?_ hm)
      rfl
  · skip
    repeat (first | refine a1 ?_ | refine a3 ?_ | refine a4 ?_ | refine a5 ?_ | refine a6 ?_ | refine s_loadBs ?_ | refine s_loadHs ?_ | refine s_rem ?_ | refine s_convI ?_ | refine s_indexArrT ?_ | refine s_indexArrB ?_ | refine s_loadB ?_ | refine s_loadH ?_ | refine s_loadR ?_ | refine s_fieldB ?_ | refine s_fieldV ?_ | refine s_len ?_ | refine s_lenR ?_ | refine s_addI ?_ | refine s_sliceHi ?_ | refine s_build ?_ | refine s_subI ?_ | refine s_sliceLo ?_ | refine a7 ?_ | refine a8 ?_ | refine a9 ?_ | refine RW.storeR rfl rfl rfl rfl (by first | rfl | (simp [allOne, cellsL, one1]; done) | (simp [allOne, cellsL, one1]; first | assumption | (refine ⟨?_, ?_⟩ <;> assumption))) rfl ?_ | refine a10 ?_ | refine RW.storeR1 rfl rfl (by first | rfl | exact IsSl.one1 (by assumption) | exact IsSl.one1 (SliceRep.isSl (by assumption))) rfl rfl ?_)
    refine Runs.cond_d rfl (fun hlt2 => ?_) (fun hlt2 => ?_)
    · repeat (first | refine a1 ?_ | refine a3 ?_ | refine a4 ?_ | refine a5 ?_ | refine a6 ?_ | refine s_loadBs ?_ | refine s_loadHs ?_ | refine s_rem ?_ | refine s_convI ?_ | refine s_indexArrT ?_ | refine s_indexArrB ?_ | refine s_loadB ?_ | refine s_loadH ?_ | refine s_loadR ?_ | refine s_fieldB ?_ | refine s_fieldV ?_ | refine s_len ?_ | refine s_lenR ?_ | refine s_addI ?_ | refine s_sliceHi ?_ | refine s_build ?_ | refine s_subI ?_ | refine s_sliceLo ?_ | refine a7 ?_ | refine a8 ?_ | refine a9 ?_ | refine RW.storeR rfl rfl rfl rfl (by first | rfl | (simp [allOne, cellsL, one1]; done) | (simp [allOne, cellsL, one1]; first | assumption | (refine ⟨?_, ?_⟩ <;> assumption))) rfl ?_ | refine a10 ?_ | refine RW.storeR1 rfl rfl (by first | rfl | exact IsSl.one1 (by assumption) | exact IsSl.one1 (SliceRep.isSl (by assumption))) rfl rfl ?_)
      refine Runs.ret1 Try.func6 Try.results6 rfl (fun w hm => hR _ w _ Hf _ (by simp) ((((hleg.trans hlep).trans hlef))) ?_ hm)
      rfl
    repeat (first | refine a1 ?_ | refine a3 ?_ | refine a4 ?_ | refine a5 ?_ | refine a6 ?_ | refine s_loadBs ?_ | refine s_loadHs ?_ | refine s_rem ?_ | refine s_convI ?_ | refine s_indexArrT ?_ | refine s_indexArrB ?_ | refine s_loadB ?_ | refine s_loadH ?_ | refine s_loadR ?_ | refine s_fieldB ?_ | refine s_fieldV ?_ | refine s_len ?_ | refine s_lenR ?_ | refine s_addI ?_ | refine s_sliceHi ?_ | refine s_build ?_ | refine s_subI ?_ | refine s_sliceLo ?_ | refine a7 ?_ | refine a8 ?_ | refine a9 ?_ | refine RW.storeR rfl rfl rfl rfl (by first | rfl | (simp [allOne, cellsL, one1]; done) | (simp [allOne, cellsL, one1]; first | assumption | (refine ⟨?_, ?_⟩ <;> assumption))) rfl ?_ | refine a10 ?_ | refine RW.storeR1 rfl rfl (by first | rfl | exact IsSl.one1 (by assumption) | exact IsSl.one1 (SliceRep.isSl (by assumption))) rfl rfl ?_)
    obtain ⟨q, hq⟩ : ∃ q : Nat, w1 % (((P.length : Int)) - 1) = (q : Int) := ⟨(w1 % ((P.length : Int) - 1)).toNat, by
      have := Int.emod_nonneg w1 (b := (P.length : Int) - 1) (by omega)
      omega⟩
    have hql : q + 1 < P.length := by
      have := Int.emod_lt_of_pos w1 (b := (P.length : Int) - 1) (by omega)
      omega
    rw [hq]
    repeat (first | refine a1 ?_ | refine a3 ?_ | refine a4 ?_ | refine a5 ?_ | refine a6 ?_ | refine s_loadBs ?_ | refine s_loadHs ?_ | refine s_rem ?_ | refine s_convI ?_ | refine s_indexArrT ?_ | refine s_indexArrB ?_ | refine s_loadB ?_ | refine s_loadH ?_ | refine s_loadR ?_ | refine s_fieldB ?_ | refine s_fieldV ?_ | refine s_len ?_ | refine s_lenR ?_ | refine s_addI ?_ | refine s_sliceHi ?_ | refine s_build ?_ | refine s_subI ?_ | refine s_sliceLo ?_ | refine a7 ?_ | refine a8 ?_ | refine a9 ?_ | refine RW.storeR rfl rfl rfl rfl (by first | rfl | (simp [allOne, cellsL, one1]; done) | (simp [allOne, cellsL, one1]; first | assumption | (refine ⟨?_, ?_⟩ <;> assumption))) rfl ?_ | refine a10 ?_ | refine RW.storeR1 rfl rfl (by first | rfl | exact IsSl.one1 (by assumption) | exact IsSl.one1 (SliceRep.isSl (by assumption))) rfl rfl ?_)
    refine RW.buildSlice rfl rfl rfl rfl rfl rfl rfl (fun v93 hv93 => ?_)
    repeat (first | refine a1 ?_ | refine a3 ?_ | refine a4 ?_ | refine a5 ?_ | refine a6 ?_ | refine s_loadBs ?_ | refine s_loadHs ?_ | refine s_rem ?_ | refine s_convI ?_ | refine s_indexArrT ?_ | refine s_indexArrB ?_ | refine s_loadB ?_ | refine s_loadH ?_ | refine s_loadR ?_ | refine s_fieldB ?_ | refine s_fieldV ?_ | refine s_len ?_ | refine s_lenR ?_ | refine s_addI ?_ | refine s_sliceHi ?_ | refine s_build ?_ | refine s_subI ?_ | refine s_sliceLo ?_ | refine a7 ?_ | refine a8 ?_ | refine a9 ?_ | refine RW.storeR rfl rfl rfl rfl (by first | rfl | (simp [allOne, cellsL, one1]; done) | (simp [allOne, cellsL, one1]; first | assumption | (refine ⟨?_, ?_⟩ <;> assumption))) rfl ?_ | refine a10 ?_ | refine RW.storeR1 rfl rfl (by first | rfl | exact IsSl.one1 (by assumption) | exact IsSl.one1 (SliceRep.isSl (by assumption))) rfl rfl ?_)
    have hslo : SliceRep Hf CandL (slv (.slice Af P.length cf) 2 0 q (capOf (.slice Af P.length cf))) ((P.drop 0).take (q - 0)) := hvf.slv rfl (Nat.zero_le _) (by omega) (Nat.le_trans (by omega) hvf.capOf_le) (Nat.le_refl _)
    have hshi : SliceRep Hf CandL (slv (.slice Af P.length cf) 2 (q + 1) P.length (capOf (.slice Af P.length cf))) ((P.drop (q + 1)).take (P.length - (q + 1))) := hvf.slv rfl (by omega) (Nat.le_refl _) hvf.capOf_le (Nat.le_refl _)
    have hl1 : ((P.drop 0).take (q - 0)).length = q := by simp only [List.drop_zero, Nat.sub_zero, List.length_take]; omega
    have hl2 : ((P.drop (q + 1)).take (P.length - (q + 1))).length = P.length - (q + 1) := by simp
    refine RW.appendH rfl rfl (hslo) (by rfl) rfl (by decide) (by omega) (by omega) (fun _ _ => inferInstance) rfl rfl (fun d1 v98 hd1 hv98 => ?_)
    simp only [repL, List.nil_append, Nat.zero_add]
    repeat (first | refine a1 ?_ | refine a3 ?_ | refine a4 ?_ | refine a5 ?_ | refine a6 ?_ | refine s_loadBs ?_ | refine s_loadHs ?_ | refine s_rem ?_ | refine s_convI ?_ | refine s_indexArrT ?_ | refine s_indexArrB ?_ | refine s_loadB ?_ | refine s_loadH ?_ | refine s_loadR ?_ | refine s_fieldB ?_ | refine s_fieldV ?_ | refine s_len ?_ | refine s_lenR ?_ | refine s_addI ?_ | refine s_sliceHi ?_ | refine s_build ?_ | refine s_subI ?_ | refine s_sliceLo ?_ | refine a7 ?_ | refine a8 ?_ | refine a9 ?_ | refine RW.storeR rfl rfl rfl rfl (by first | rfl | (simp [allOne, cellsL, one1]; done) | (simp [allOne, cellsL, one1]; first | assumption | (refine ⟨?_, ?_⟩ <;> assumption))) rfl ?_ | refine a10 ?_ | refine RW.storeR1 rfl rfl (by first | rfl | exact IsSl.one1 (by assumption) | exact IsSl.one1 (SliceRep.isSl (by assumption))) rfl rfl ?_)
    rw [show (q : Int) + 1 = ((q + 1 : Nat) : Int) by omega]
    repeat (first | refine a1 ?_ | refine a3 ?_ | refine a4 ?_ | refine a5 ?_ | refine a6 ?_ | refine s_loadBs ?_ | refine s_loadHs ?_ | refine s_rem ?_ | refine s_convI ?_ | refine s_indexArrT ?_ | refine s_indexArrB ?_ | refine s_loadB ?_ | refine s_loadH ?_ | refine s_loadR ?_ | refine s_fieldB ?_ | refine s_fieldV ?_ | refine s_len ?_ | refine s_lenR ?_ | refine s_addI ?_ | refine s_sliceHi ?_ | refine s_build ?_ | refine s_subI ?_ | refine s_sliceLo ?_ | refine a7 ?_ | refine a8 ?_ | refine a9 ?_ | refine RW.storeR rfl rfl rfl rfl (by first | rfl | (simp [allOne, cellsL, one1]; done) | (simp [allOne, cellsL, one1]; first | assumption | (refine ⟨?_, ?_⟩ <;> assumption))) rfl ?_ | refine a10 ?_ | refine RW.storeR1 rfl rfl (by first | rfl | exact IsSl.one1 (by assumption) | exact IsSl.one1 (SliceRep.isSl (by assumption))) rfl rfl ?_)
    refine RW.appendH rfl rfl (hshi) (by rfl) rfl (by decide) (by omega) (by omega) (fun _ _ => inferInstance) rfl rfl (fun d2 v105 hd2 hv105 => ?_)
    refine RW.freeze (H := Hf) v105 hM (fun H1 hle1 hs1 hc1 => ?_)
    have hless : SliceRep H1 CandL v105 (P.take q ++ P.drop (q + 1)) := by
      refine SliceRep.of_row hs1 ?_ ?_ (Snap.le.refl _) hc1
      · simp only [List.length_append, List.length_take, List.length_drop] at *; omega
      · have := (hd1.mono hle1).append (hd2.mono hle1)
        rwa [List.drop_zero, Nat.sub_zero, ← List.length_drop, List.take_length] at this
    have hll := hless.isSl.bound
    have hC := bcheck_c (N := (N : Int)) (w := w) (hglf.mono hle1) (hvpf.mono hle1) hless (by simp only [List.length_append, List.length_take, List.length_drop]; omega) (fun x hx => hPx x (by
      rcases List.mem_append.1 hx with h | h
      · exact List.mem_of_mem_take h
      · exact List.mem_of_mem_drop h))
    have hcl := check_less hgv (n := m) (k := q) (by rw [hPe]; exact hql) w
    rw [hpe, hPe] at hcl
    rw [hcl] at hC
    obtain ⟨A105, c105, e105, _, _⟩ := hless.isSl
    rw [e105] at hC ⊢
    repeat (first | refine a1 ?_ | refine a3 ?_ | refine a4 ?_ | refine a5 ?_ | refine a6 ?_ | refine s_loadBs ?_ | refine s_loadHs ?_ | refine s_rem ?_ | refine s_convI ?_ | refine s_indexArrT ?_ | refine s_indexArrB ?_ | refine s_loadB ?_ | refine s_loadH ?_ | refine s_loadR ?_ | refine s_fieldB ?_ | refine s_fieldV ?_ | refine s_len ?_ | refine s_lenR ?_ | refine s_addI ?_ | refine s_sliceHi ?_ | refine s_build ?_ | refine s_subI ?_ | refine s_sliceLo ?_ | refine a7 ?_ | refine a8 ?_ | refine a9 ?_ | refine RW.storeR rfl rfl rfl rfl (by first | rfl | (simp [allOne, cellsL, one1]; done) | (simp [allOne, cellsL, one1]; first | assumption | (refine ⟨?_, ?_⟩ <;> assumption))) rfl ?_ | refine a10 ?_ | refine RW.storeR1 rfl rfl (by first | rfl | exact IsSl.one1 (by assumption) | exact IsSl.one1 (SliceRep.isSl (by assumption))) rfl rfl ?_)
    refine RW.callV rfl (hC) rfl rfl ?_
    rintro _ _ rfl
    dsimp only
    repeat (first | refine a1 ?_ | refine a3 ?_ | refine a4 ?_ | refine a5 ?_ | refine a6 ?_ | refine s_loadBs ?_ | refine s_loadHs ?_ | refine s_rem ?_ | refine s_convI ?_ | refine s_indexArrT ?_ | refine s_indexArrB ?_ | refine s_loadB ?_ | refine s_loadH ?_ | refine s_loadR ?_ | refine s_fieldB ?_ | refine s_fieldV ?_ | refine s_len ?_ | refine s_lenR ?_ | refine s_addI ?_ | refine s_sliceHi ?_ | refine s_build ?_ | refine s_subI ?_ | refine s_sliceLo ?_ | refine a7 ?_ | refine a8 ?_ | refine a9 ?_ | refine RW.storeR rfl rfl rfl rfl (by first | rfl | (simp [allOne, cellsL, one1]; done) | (simp [allOne, cellsL, one1]; first | assumption | (refine ⟨?_, ?_⟩ <;> assumption))) rfl ?_ | refine a10 ?_ | refine RW.storeR1 rfl rfl (by first | rfl | exact IsSl.one1 (by assumption) | exact IsSl.one1 (SliceRep.isSl (by assumption))) rfl rfl ?_)
    rw [decide_eq_true (rfl : (q : Int) = (q : Int))]
    repeat (first | refine a1 ?_ | refine a3 ?_ | refine a4 ?_ | refine a5 ?_ | refine a6 ?_ | refine s_loadBs ?_ | refine s_loadHs ?_ | refine s_rem ?_ | refine s_convI ?_ | refine s_indexArrT ?_ | refine s_indexArrB ?_ | refine s_loadB ?_ | refine s_loadH ?_ | refine s_loadR ?_ | refine s_fieldB ?_ | refine s_fieldV ?_ | refine s_len ?_ | refine s_lenR ?_ | refine s_addI ?_ | refine s_sliceHi ?_ | refine s_build ?_ | refine s_subI ?_ | refine s_sliceLo ?_ | refine a7 ?_ | refine a8 ?_ | refine a9 ?_ | refine RW.storeR rfl rfl rfl rfl (by first | rfl | (simp [allOne, cellsL, one1]; done) | (simp [allOne, cellsL, one1]; first | assumption | (refine ⟨?_, ?_⟩ <;> assumption))) rfl ?_ | refine a10 ?_ | refine RW.storeR1 rfl rfl (by first | rfl | exact IsSl.one1 (by assumption) | exact IsSl.one1 (SliceRep.isSl (by assumption))) rfl rfl ?_)
    refine Runs.ret1 Try.func6 Try.results6 rfl (fun w hm => hR _ w _ Hf _ (by simp) ((((hleg.trans hlep).trans hlef))) ?_ hm)
    rfl
end Go.Proofs.Ythlolpckgffebaa

/-
  The law ProofPages. Conditions: the arguments' form.
-/
import Derived.Test.YthlolpckgffebaaPo
import Derived.Test.YthlolpckgffebaaT12
namespace Go.Proofs.Ythlolpckgffebaa
open Go Go.RowKit

theorem check_first_not {N : Nat} {gl : List Lnk} (hg : validG N gl) (n : Nat) : checkR N gl (pot gl N) ((allW gl N).take n) (!decide (min n (allW gl N).length = (allW gl N).length)) = (((min n (allW gl N).length : Nat) : Int), 160) := by
  have hr : rightP N gl (pot gl N) := ⟨hg, by rw [Int.toNat_natCast]⟩
  have hgn : ¬ ¬ validG N gl := fun h => h hg
  have hrn : ¬ ¬ rightP N gl (pot gl N) := fun h => h hr
  rw [check_eq, rcheckR, if_neg hgn, if_neg hrn, Int.toNat_natCast, commonN_self_take, List.length_take, if_pos]
  refine .inr ?_
  cases decide (min n (allW gl N).length = (allW gl N).length) <;> simp
theorem listR_take {N k : Nat} {gl : List Lnk} (hg : validG N gl) (hk : k ≤ 50) : listR N gl k = (allW gl N).take k ∧ listE N gl k = 0 := by
  have hgn : ¬ ¬ validG N gl := fun h => h hg
  refine ⟨?_, ?_⟩
  · rw [listR, if_pos ⟨hg, by omega, by omega⟩, Int.toNat_natCast, Int.toNat_natCast]; rfl
  · rw [listE, if_neg hgn, if_neg (by omega)]

set_option maxHeartbeats 4000000 in
theorem pages16_c {H : Snap} {n kk : Int} {vL : Value} {xs : List (Int × Int × Int)} (hl : SliceRep H TriL vL xs) (hn : isByte n) (hx : ∀ x ∈ xs, triOk x) (hkk : isByte kk) :
    Pure Try.prog 9 #[.agg #[.int .u8 n, vL], .int .u8 kk] H (fun _ r => r = .bool true) := by
  have hg := made_valid n hx
  have hgl14 := madeL_length n xs
  have hT := made_tree n xs
  unfold isByte at hkk
  refine Pure.intro Try.func9 rfl Try.ntmps9 rfl (fun E R hM hR => ?_)
  repeat (first | refine a1 ?_ | refine a3 ?_ | refine a4 ?_ | refine a5 ?_ | refine a6 ?_ | refine s_loadBs ?_ | refine s_loadHs ?_ | refine s_rem ?_ | refine s_convI ?_ | refine s_len ?_ | refine s_lenR ?_ | refine s_build ?_ | refine a7 ?_ | refine a8 ?_ | refine a9 ?_ | refine RW.storeR rfl rfl rfl rfl (by first | rfl | (simp [allOne, cellsL, one1]; done) | (simp [allOne, cellsL, one1]; first | assumption | (refine ⟨?_, ?_⟩ <;> assumption))) rfl ?_ | refine a10 ?_ | refine RW.storeR1 rfl rfl (by first | rfl | exact IsSl.one1 (by assumption) | exact IsSl.one1 (SliceRep.isSl (by assumption))) rfl rfl ?_)
  refine RW.box rfl rfl rfl rfl (fun b2 => ?_)
  repeat (first | refine a1 ?_ | refine a3 ?_ | refine a4 ?_ | refine a5 ?_ | refine a6 ?_ | refine s_loadBs ?_ | refine s_loadHs ?_ | refine s_rem ?_ | refine s_convI ?_ | refine s_len ?_ | refine s_lenR ?_ | refine s_build ?_ | refine a7 ?_ | refine a8 ?_ | refine a9 ?_ | refine RW.storeR rfl rfl rfl rfl (by first | rfl | (simp [allOne, cellsL, one1]; done) | (simp [allOne, cellsL, one1]; first | assumption | (refine ⟨?_, ?_⟩ <;> assumption))) rfl ?_ | refine a10 ?_ | refine RW.storeR1 rfl rfl (by first | rfl | exact IsSl.one1 (by assumption) | exact IsSl.one1 (SliceRep.isSl (by assumption))) rfl rfl ?_)
  refine RW.callV rfl (sanity16_c (H := H)) rfl rfl ?_
  rintro _ _ rfl
  repeat (first | refine a1 ?_ | refine a3 ?_ | refine a4 ?_ | refine a5 ?_ | refine a6 ?_ | refine s_loadBs ?_ | refine s_loadHs ?_ | refine s_rem ?_ | refine s_convI ?_ | refine s_len ?_ | refine s_lenR ?_ | refine s_build ?_ | refine a7 ?_ | refine a8 ?_ | refine a9 ?_ | refine RW.storeR rfl rfl rfl rfl (by first | rfl | (simp [allOne, cellsL, one1]; done) | (simp [allOne, cellsL, one1]; first | assumption | (refine ⟨?_, ?_⟩ <;> assumption))) rfl ?_ | refine a10 ?_ | refine RW.storeR1 rfl rfl (by first | rfl | exact IsSl.one1 (by assumption) | exact IsSl.one1 (SliceRep.isSl (by assumption))) rfl rfl ?_)
  refine RW.call rfl (made_c hl hn hx) rfl rfl ?_
  rintro _ Hg ⟨vg, rfl, hgl⟩ hleg
  generalize hGe : madeL n xs = gl at hgl hg hgl14 hT
  generalize hNe : madeN n = N at hg hT ⊢
  obtain ⟨N, rfl⟩ : ∃ M : Nat, N = (M : Int) := ⟨N.toNat, by have := hg.1; omega⟩
  have hgv := hg
  obtain ⟨hN1, hN2, hlen, hall⟩ := hg
  have hvg1 := hgl.isSl.one1
  have hfew : (waysG gl N N 0).length ≤ 168 := ways_few hall hgl14 N 0
  have hao : (allW gl N).length = (waysG gl N N 0).length := ordered_length _
  have hP := bpot_c (N := (N : Int)) hgl
  rw [potE_valid hgv, potL_valid hgv] at hP
  refine RW.alloc rfl rfl rfl (fun b6 => ?_)
  repeat (first | refine a1 ?_ | refine a3 ?_ | refine a4 ?_ | refine a5 ?_ | refine a6 ?_ | refine s_loadBs ?_ | refine s_loadHs ?_ | refine s_rem ?_ | refine s_convI ?_ | refine s_len ?_ | refine s_lenR ?_ | refine s_build ?_ | refine a7 ?_ | refine a8 ?_ | refine a9 ?_ | refine RW.storeR rfl rfl rfl rfl (by first | rfl | (simp [allOne, cellsL, one1]; done) | (simp [allOne, cellsL, one1]; first | assumption | (refine ⟨?_, ?_⟩ <;> assumption))) rfl ?_ | refine a10 ?_ | refine RW.storeR1 rfl rfl (by first | rfl | exact IsSl.one1 (by assumption) | exact IsSl.one1 (SliceRep.isSl (by assumption))) rfl rfl ?_)
  refine RW.call rfl (hP) rfl rfl ?_
  rintro _ Hp ⟨vp, rfl, hvp⟩ hlep
  obtain ⟨k, hk⟩ : ∃ k : Nat, kk % 51 = (k : Int) := ⟨(kk % 51).toNat, by omega⟩
  have hk50 : k ≤ 50 := by omega
  have hL := blist_c (N := (N : Int)) (k := (k : Int)) (hgl.mono hlep) (fun _ => hT)
  rw [(listR_take hgv hk50).1, (listR_take hgv hk50).2] at hL
  repeat (first | refine a1 ?_ | refine a3 ?_ | refine a4 ?_ | refine a5 ?_ | refine a6 ?_ | refine s_loadBs ?_ | refine s_loadHs ?_ | refine s_rem ?_ | refine s_convI ?_ | refine s_len ?_ | refine s_lenR ?_ | refine s_build ?_ | refine a7 ?_ | refine a8 ?_ | refine a9 ?_ | refine RW.storeR rfl rfl rfl rfl (by first | rfl | (simp [allOne, cellsL, one1]; done) | (simp [allOne, cellsL, one1]; first | assumption | (refine ⟨?_, ?_⟩ <;> assumption))) rfl ?_ | refine a10 ?_ | refine RW.storeR1 rfl rfl (by first | rfl | exact IsSl.one1 (by assumption) | exact IsSl.one1 (SliceRep.isSl (by assumption))) rfl rfl ?_)
  rw [hk]
  repeat (first | refine a1 ?_ | refine a3 ?_ | refine a4 ?_ | refine a5 ?_ | refine a6 ?_ | refine s_loadBs ?_ | refine s_loadHs ?_ | refine s_rem ?_ | refine s_convI ?_ | refine s_len ?_ | refine s_lenR ?_ | refine s_build ?_ | refine a7 ?_ | refine a8 ?_ | refine a9 ?_ | refine RW.storeR rfl rfl rfl rfl (by first | rfl | (simp [allOne, cellsL, one1]; done) | (simp [allOne, cellsL, one1]; first | assumption | (refine ⟨?_, ?_⟩ <;> assumption))) rfl ?_ | refine a10 ?_ | refine RW.storeR1 rfl rfl (by first | rfl | exact IsSl.one1 (by assumption) | exact IsSl.one1 (SliceRep.isSl (by assumption))) rfl rfl ?_)
  refine RW.call rfl (hL) rfl rfl ?_
  rintro _ Hl ⟨vr, rfl, hvr⟩ hlel
  have hgl2 := (hgl.mono hlep).mono hlel
  have hvp2 := hvp.mono hlel
  have hNum : Pure Try.prog 23 #[.agg #[.int .i64 (N : Int), vg]] Hl (fun _ r => r = .int .i64 ((allW gl N).length : Int)) := (bnum_c (N := N) hgl2 hgv).mono fun _ _ _ ⟨t, h, e⟩ => by
    rw [e, num_zero hgv h, capN_few (by unfold nWays; omega), nWays, hao]
  repeat (first | refine a1 ?_ | refine a3 ?_ | refine a4 ?_ | refine a5 ?_ | refine a6 ?_ | refine s_loadBs ?_ | refine s_loadHs ?_ | refine s_rem ?_ | refine s_convI ?_ | refine s_len ?_ | refine s_lenR ?_ | refine s_build ?_ | refine a7 ?_ | refine a8 ?_ | refine a9 ?_ | refine RW.storeR rfl rfl rfl rfl (by first | rfl | (simp [allOne, cellsL, one1]; done) | (simp [allOne, cellsL, one1]; first | assumption | (refine ⟨?_, ?_⟩ <;> assumption))) rfl ?_ | refine a10 ?_ | refine RW.storeR1 rfl rfl (by first | rfl | exact IsSl.one1 (by assumption) | exact IsSl.one1 (SliceRep.isSl (by assumption))) rfl rfl ?_)
  refine RW.callV rfl (hNum) rfl rfl ?_
  rintro _ _ rfl
  have hll : ((allW gl N).take k).length = min k (allW gl N).length := List.length_take
  have hsl := hvr.isSl
  have hLx : ∀ x ∈ (allW gl N).take k, x.links.length ≤ 1000000 := fun x hx => by have := allW_links hall (List.mem_of_mem_take hx); omega
  have hC1 := bcheck_c (N := (N : Int)) (w := decide (min k (allW gl N).length = (allW gl N).length)) hgl2 hvp2 hvr (by rw [hll]; omega) hLx
  have hC2 := bcheck_c (N := (N : Int)) (w := !decide (min k (allW gl N).length = (allW gl N).length)) hgl2 hvp2 hvr (by rw [hll]; omega) hLx
  rw [check_first hgv] at hC1
  rw [check_first_not hgv] at hC2
  have hdd : decide (((allW gl N).length : Int) = ((min k (allW gl N).length : Nat) : Int)) = decide (min k (allW gl N).length = (allW gl N).length) := by rw [decide_eq_decide]; omega
  obtain ⟨Ar, cr, rfl, _, _⟩ := hsl
  dsimp only at hC1 hC2
  repeat (first | refine a1 ?_ | refine a3 ?_ | refine a4 ?_ | refine a5 ?_ | refine a6 ?_ | refine s_loadBs ?_ | refine s_loadHs ?_ | refine s_rem ?_ | refine s_convI ?_ | refine s_len ?_ | refine s_lenR ?_ | refine s_build ?_ | refine a7 ?_ | refine a8 ?_ | refine a9 ?_ | refine RW.storeR rfl rfl rfl rfl (by first | rfl | (simp [allOne, cellsL, one1]; done) | (simp [allOne, cellsL, one1]; first | assumption | (refine ⟨?_, ?_⟩ <;> assumption))) rfl ?_ | refine a10 ?_ | refine RW.storeR1 rfl rfl (by first | rfl | exact IsSl.one1 (by assumption) | exact IsSl.one1 (SliceRep.isSl (by assumption))) rfl rfl ?_)
  have hsm := hvr.isSl
  rw [hll] at hC1 hC2 hsm ⊢
  rw [hdd]
  generalize min k (allW gl N).length = m at *
  repeat (first | refine a1 ?_ | refine a3 ?_ | refine a4 ?_ | refine a5 ?_ | refine a6 ?_ | refine s_loadBs ?_ | refine s_loadHs ?_ | refine s_rem ?_ | refine s_convI ?_ | refine s_len ?_ | refine s_lenR ?_ | refine s_build ?_ | refine a7 ?_ | refine a8 ?_ | refine a9 ?_ | refine RW.storeR rfl rfl rfl rfl (by first | rfl | (simp [allOne, cellsL, one1]; done) | (simp [allOne, cellsL, one1]; first | assumption | (refine ⟨?_, ?_⟩ <;> assumption))) rfl ?_ | refine a10 ?_ | refine RW.storeR1 rfl rfl (by first | rfl | exact IsSl.one1 (by assumption) | exact IsSl.one1 (SliceRep.isSl (by assumption))) rfl rfl ?_)
  refine RW.callV rfl (hC1) rfl rfl ?_
  rintro _ _ rfl
  repeat (first | refine a1 ?_ | refine a3 ?_ | refine a4 ?_ | refine a5 ?_ | refine a6 ?_ | refine s_loadBs ?_ | refine s_loadHs ?_ | refine s_rem ?_ | refine s_convI ?_ | refine s_len ?_ | refine s_lenR ?_ | refine s_build ?_ | refine a7 ?_ | refine a8 ?_ | refine a9 ?_ | refine RW.storeR rfl rfl rfl rfl (by first | rfl | (simp [allOne, cellsL, one1]; done) | (simp [allOne, cellsL, one1]; first | assumption | (refine ⟨?_, ?_⟩ <;> assumption))) rfl ?_ | refine a10 ?_ | refine RW.storeR1 rfl rfl (by first | rfl | exact IsSl.one1 (by assumption) | exact IsSl.one1 (SliceRep.isSl (by assumption))) rfl rfl ?_)
  refine RW.callV rfl (hC2) rfl rfl ?_
  rintro _ _ rfl
  repeat (first | refine a1 ?_ | refine a3 ?_ | refine a4 ?_ | refine a5 ?_ | refine a6 ?_ | refine s_loadBs ?_ | refine s_loadHs ?_ | refine s_rem ?_ | refine s_convI ?_ | refine s_len ?_ | refine s_lenR ?_ | refine s_build ?_ | refine a7 ?_ | refine a8 ?_ | refine a9 ?_ | refine RW.storeR rfl rfl rfl rfl (by first | rfl | (simp [allOne, cellsL, one1]; done) | (simp [allOne, cellsL, one1]; first | assumption | (refine ⟨?_, ?_⟩ <;> assumption))) rfl ?_ | refine a10 ?_ | refine RW.storeR1 rfl rfl (by first | rfl | exact IsSl.one1 (by assumption) | exact IsSl.one1 (SliceRep.isSl (by assumption))) rfl rfl ?_)
  rw [decide_eq_true (rfl : (m : Int) = (m : Int))]
  repeat (first | refine a1 ?_ | refine a3 ?_ | refine a4 ?_ | refine a5 ?_ | refine a6 ?_ | refine s_loadBs ?_ | refine s_loadHs ?_ | refine s_rem ?_ | refine s_convI ?_ | refine s_len ?_ | refine s_lenR ?_ | refine s_build ?_ | refine a7 ?_ | refine a8 ?_ | refine a9 ?_ | refine RW.storeR rfl rfl rfl rfl (by first | rfl | (simp [allOne, cellsL, one1]; done) | (simp [allOne, cellsL, one1]; first | assumption | (refine ⟨?_, ?_⟩ <;> assumption))) rfl ?_ | refine a10 ?_ | refine RW.storeR1 rfl rfl (by first | rfl | exact IsSl.one1 (by assumption) | exact IsSl.one1 (SliceRep.isSl (by assumption))) rfl rfl ?_)
  refine Runs.ret1 Try.func9 Try.results9 rfl (fun w hm => hR _ w _ Hl _ (by simp) (((hleg.trans hlep).trans hlel)) ?_ hm)
  rw [decide_eq_true rfl]
end Go.Proofs.Ythlolpckgffebaa

/-
  The fixed examples of the layer of proofs, and the reference's First. Conditions: for First, at most 2000 ways.
  The law ProofChanges. Conditions: the arguments' form.
  The law ProofPages. Conditions: the arguments' form.
-/
import Derived.Test.YtjdhcblofkkibaaMVa
import Derived.Test.YtjdhcblofkkibaaMTop
import Derived.Test.YtjdhcblofkkibaaT12
namespace Go.Proofs.Ytjdhcblofkkibaa
open Go Go.RowKit

def g3 : List Lnk := [⟨0, 1, 0, 1⟩, ⟨1, 2, 0, 1⟩, ⟨0, 2, 0, 5⟩]
def cA : Cand := ⟨[0, 1], 2⟩
def cB : Cand := ⟨[2], 5⟩
theorem g3_valid : validG 3 g3 := by decide
theorem g3_pot : potL 3 g3 = [2, 1, 0] := by decide
theorem g3_potE : potE 3 g3 = 0 := by decide
theorem g0_pot : potL 0 [] = [] := by decide
theorem g0_potE : potE 0 [] = 150 := by decide
theorem k3a : checkR 3 g3 [2, 1, 0] [cA] false = (1, 0) := by rw [check_eq]; decide
theorem k3b : checkR 3 g3 [2, 1, 0] [cB] false = (0, 160) := by rw [check_eq]; decide
theorem k3c : checkR 3 g3 [2, 1, 0] [cA, cB] false = (2, 160) := by rw [check_eq]; decide
theorem k3d : checkR 3 g3 [2, 1, 1] [] false = (-1, 160) := by rw [check_eq]; decide
theorem k0e : checkR 0 [] [] [] false = (0, 150) := by rw [check_eq]; decide
theorem k3f : checkR 3 g3 [2, 1, 0] [cA, cB] true = (2, 0) := by rw [check_eq]; decide
theorem r3a : rightP 3 g3 [2, 1, 0] := by decide
theorem r3b : ¬ rightP 3 g3 [2, 1] := by decide
theorem r0c : ¬ rightP 0 [] [] := by decide

set_option maxHeartbeats 1000000 in
theorem first_c {H : Snap} {vl : Value} {N n : Nat} {gl : List Lnk} (hl : SliceRep H LinkL vl gl) (hg : validG N gl) (hfew : (waysG gl N N 0).length ≤ 2000) (hn : n ≤ 1000000) :
    Pure Try.prog 17 #[.agg #[.int .i64 (N : Int), vl], .int .i64 (n : Int)] H (fun H' r => ∃ v, r = .agg #[v, .bool (decide (min n (allW gl N).length = (allW gl N).length))] ∧ SliceRep H' CandL v ((allW gl N).take n)) := by
  have hao : (allW gl N).length = (waysG gl N N 0).length := ordered_length _
  have hN1 := hg.1
  refine Pure.intro Try.func17 rfl Try.ntmps17 rfl (fun E R hM hR => ?_)
  repeat (first | refine a1 ?_ | refine a3 ?_ | refine a4 ?_ | refine a5 ?_ | refine a6 ?_ | refine s_loadBs ?_ | refine s_loadHs ?_ | refine s_len ?_ | refine s_lenR ?_ | refine s_min ?_ | refine s_sliceHi ?_ | refine s_build ?_ | refine a7 ?_ | refine a8 ?_ | refine a9 ?_ | refine RW.storeR rfl rfl rfl rfl (by first | rfl | (simp [allOne, cellsL, one1]; done) | (simp [allOne, cellsL, one1]; first | assumption | (refine ⟨?_, ?_⟩ <;> assumption))) rfl ?_ | refine a10 ?_ | refine RW.storeR1 rfl rfl (by first | rfl | exact IsSl.one1 (by assumption) | exact IsSl.one1 (SliceRep.isSl (by assumption))) rfl rfl ?_)
  refine RW.box rfl rfl rfl rfl (fun b2 => ?_)
  refine RW.alloc rfl rfl rfl (fun b4 => ?_)
  repeat (first | refine a1 ?_ | refine a3 ?_ | refine a4 ?_ | refine a5 ?_ | refine a6 ?_ | refine s_loadBs ?_ | refine s_loadHs ?_ | refine s_len ?_ | refine s_lenR ?_ | refine s_min ?_ | refine s_sliceHi ?_ | refine s_build ?_ | refine a7 ?_ | refine a8 ?_ | refine a9 ?_ | refine RW.storeR rfl rfl rfl rfl (by first | rfl | (simp [allOne, cellsL, one1]; done) | (simp [allOne, cellsL, one1]; first | assumption | (refine ⟨?_, ?_⟩ <;> assumption))) rfl ?_ | refine a10 ?_ | refine RW.storeR1 rfl rfl (by first | rfl | exact IsSl.one1 (by assumption) | exact IsSl.one1 (SliceRep.isSl (by assumption))) rfl rfl ?_)
  refine RW.call rfl (ways_c (most := 2000) (by omega) hg N 0 H hl (by have := hg.2.1; omega) (by omega) (by omega) (by omega) hfew) rfl rfl ?_
  rintro va Ha hva hlea
  repeat (first | refine a1 ?_ | refine a3 ?_ | refine a4 ?_ | refine a5 ?_ | refine a6 ?_ | refine s_loadBs ?_ | refine s_loadHs ?_ | refine s_len ?_ | refine s_lenR ?_ | refine s_min ?_ | refine s_sliceHi ?_ | refine s_build ?_ | refine a7 ?_ | refine a8 ?_ | refine a9 ?_ | refine RW.storeR rfl rfl rfl rfl (by first | rfl | (simp [allOne, cellsL, one1]; done) | (simp [allOne, cellsL, one1]; first | assumption | (refine ⟨?_, ?_⟩ <;> assumption))) rfl ?_ | refine a10 ?_ | refine RW.storeR1 rfl rfl (by first | rfl | exact IsSl.one1 (by assumption) | exact IsSl.one1 (SliceRep.isSl (by assumption))) rfl rfl ?_)
  refine RW.call rfl (ordered_c hva (by omega)) rfl rfl ?_
  rintro vo Ho hvo hleo
  have hvo' : SliceRep Ho CandL vo (allW gl N) := hvo
  have hbo := hvo'.isSl
  repeat (first | refine a1 ?_ | refine a3 ?_ | refine a4 ?_ | refine a5 ?_ | refine a6 ?_ | refine s_loadBs ?_ | refine s_loadHs ?_ | refine s_len ?_ | refine s_lenR ?_ | refine s_min ?_ | refine s_sliceHi ?_ | refine s_build ?_ | refine a7 ?_ | refine a8 ?_ | refine a9 ?_ | refine RW.storeR rfl rfl rfl rfl (by first | rfl | (simp [allOne, cellsL, one1]; done) | (simp [allOne, cellsL, one1]; first | assumption | (refine ⟨?_, ?_⟩ <;> assumption))) rfl ?_ | refine a10 ?_ | refine RW.storeR1 rfl rfl (by first | rfl | exact IsSl.one1 (by assumption) | exact IsSl.one1 (SliceRep.isSl (by assumption))) rfl rfl ?_)
  rw [min_ite]
  have hm1 : min n (allW gl N).length ≤ (allW gl N).length := Nat.min_le_right ..
  have htk : (allW gl N).take n = (allW gl N).take (min n (allW gl N).length) := by
    rw [List.take_eq_take_iff]; omega
  rw [htk] at hR
  generalize min n (allW gl N).length = m at hm1 hR ⊢
  repeat (first | refine a1 ?_ | refine a3 ?_ | refine a4 ?_ | refine a5 ?_ | refine a6 ?_ | refine s_loadBs ?_ | refine s_loadHs ?_ | refine s_len ?_ | refine s_lenR ?_ | refine s_min ?_ | refine s_sliceHi ?_ | refine s_build ?_ | refine a7 ?_ | refine a8 ?_ | refine a9 ?_ | refine RW.storeR rfl rfl rfl rfl (by first | rfl | (simp [allOne, cellsL, one1]; done) | (simp [allOne, cellsL, one1]; first | assumption | (refine ⟨?_, ?_⟩ <;> assumption))) rfl ?_ | refine a10 ?_ | refine RW.storeR1 rfl rfl (by first | rfl | exact IsSl.one1 (by assumption) | exact IsSl.one1 (SliceRep.isSl (by assumption))) rfl rfl ?_)
  refine RW.buildSlice rfl rfl rfl rfl rfl rfl rfl (fun v14 hv14 => ?_)
  repeat (first | refine a1 ?_ | refine a3 ?_ | refine a4 ?_ | refine a5 ?_ | refine a6 ?_ | refine s_loadBs ?_ | refine s_loadHs ?_ | refine s_len ?_ | refine s_lenR ?_ | refine s_min ?_ | refine s_sliceHi ?_ | refine s_build ?_ | refine a7 ?_ | refine a8 ?_ | refine a9 ?_ | refine RW.storeR rfl rfl rfl rfl (by first | rfl | (simp [allOne, cellsL, one1]; done) | (simp [allOne, cellsL, one1]; first | assumption | (refine ⟨?_, ?_⟩ <;> assumption))) rfl ?_ | refine a10 ?_ | refine RW.storeR1 rfl rfl (by first | rfl | exact IsSl.one1 (by assumption) | exact IsSl.one1 (SliceRep.isSl (by assumption))) rfl rfl ?_)
  have hslo : SliceRep Ho CandL (slv vo 2 0 m (capOf vo)) (((allW gl N).drop 0).take (m - 0)) := hvo'.slv rfl (Nat.zero_le _) hm1 (Nat.le_trans hm1 hvo'.capOf_le) (Nat.le_refl _)
  have hl1 : (((allW gl N).drop 0).take (m - 0)).length = m := by simp only [List.drop_zero, Nat.sub_zero, List.length_take]; omega
  refine RW.appendH rfl rfl (hslo) (by rfl) rfl (by decide) (by omega) (by omega) (fun _ _ => inferInstance) rfl rfl (fun d1 v18 hd1 hv18 => ?_)
  obtain ⟨A18, c18, rfl, _, _⟩ := hv18
  have hdd : decide ((m : Int) = ((allW gl N).length : Int)) = decide (m = (allW gl N).length) := by rw [decide_eq_decide]; omega
  repeat (first | refine a1 ?_ | refine a3 ?_ | refine a4 ?_ | refine a5 ?_ | refine a6 ?_ | refine s_loadBs ?_ | refine s_loadHs ?_ | refine s_len ?_ | refine s_lenR ?_ | refine s_min ?_ | refine s_sliceHi ?_ | refine s_build ?_ | refine a7 ?_ | refine a8 ?_ | refine a9 ?_ | refine RW.storeR rfl rfl rfl rfl (by first | rfl | (simp [allOne, cellsL, one1]; done) | (simp [allOne, cellsL, one1]; first | assumption | (refine ⟨?_, ?_⟩ <;> assumption))) rfl ?_ | refine a10 ?_ | refine RW.storeR1 rfl rfl (by first | rfl | exact IsSl.one1 (by assumption) | exact IsSl.one1 (SliceRep.isSl (by assumption))) rfl rfl ?_)
  refine Runs.freeze (H := Ho) (.slice A18 (0 + (((allW gl N).drop 0).take (m - 0)).length) c18) hM (fun H1 hle1 hs1 hc1 => ?_)
  rw [hdd]
  refine Runs.retC Try.func17 Try.results17 rfl (fun w hm => hR _ w _ H1 _ (by simp) ((hlea.trans hleo).trans hle1) ?_ hm)
  refine ⟨_, rfl, SliceRep.of_row hs1 (by simp) ?_ (Snap.le.refl _) hc1⟩
  have := hd1.mono hle1
  rwa [List.drop_zero, Nat.sub_zero] at this

end Go.Proofs.Ytjdhcblofkkibaa
namespace Go.Proofs.Ytjdhcblofkkibaa
open Go Go.RowKit

theorem commonN_self_take (L : List Cand) (n : Nat) : commonN (L.take n) L = (L.take n).length := by
  refine commonN_at _ _ _ (Nat.le_refl _) (fun j hj => ?_) (.inl rfl)
  rw [List.getElem?_take_of_lt]
  simp at hj; omega
theorem check_first {N : Nat} {gl : List Lnk} (hg : validG N gl) (n : Nat) : checkR N gl (pot gl N) ((allW gl N).take n) (decide (min n (allW gl N).length = (allW gl N).length)) = (((min n (allW gl N).length : Nat) : Int), 0) := by
  have hr : rightP N gl (pot gl N) := ⟨hg, by rw [Int.toNat_natCast]⟩
  have hgn : ¬ ¬ validG N gl := fun h => h hg
  have hrn : ¬ ¬ rightP N gl (pot gl N) := fun h => h hr
  rw [check_eq, rcheckR, if_neg hgn, if_neg hrn, Int.toNat_natCast, commonN_self_take, List.length_take, if_neg]
  rintro (h | h)
  · omega
  · exact h rfl
theorem check_wrong {N : Nat} {gl : List Lnk} (hg : validG N gl) {h : List Int} {L : List Cand} {w : Bool} (hr : ¬ rightP N gl h) : checkR N gl h L w = (-1, 160) := by
  have hgn : ¬ ¬ validG N gl := fun h => h hg
  rw [check_eq, rcheckR, if_neg hgn, if_pos hr]
theorem potL_valid {N : Nat} {gl : List Lnk} (hg : validG N gl) : potL N gl = pot gl N := by unfold potL; rw [if_pos hg, Int.toNat_natCast]
theorem potE_valid {N : Nat} {gl : List Lnk} (hg : validG N gl) : potE N gl = 0 := by unfold potE; rw [if_pos hg]
theorem allW_links {N : Nat} {gl : List Lnk} (hg : ∀ x ∈ gl, okL (N : Int) x) {x : Cand} (hx : x ∈ allW gl N) : x.links.length ≤ N := (waysG_bound hg N 0 x ((ordered_perm _).mem_iff.1 hx)).1

end Go.Proofs.Ytjdhcblofkkibaa
namespace Go.Proofs.Ytjdhcblofkkibaa
open Go Go.RowKit

theorem check_first_not {N : Nat} {gl : List Lnk} (hg : validG N gl) (n : Nat) : checkR N gl (pot gl N) ((allW gl N).take n) (!decide (min n (allW gl N).length = (allW gl N).length)) = (((min n (allW gl N).length : Nat) : Int), 160) := by
  have hr : rightP N gl (pot gl N) := ⟨hg, by rw [Int.toNat_natCast]⟩
  have hgn : ¬ ¬ validG N gl := fun h => h hg
  have hrn : ¬ ¬ rightP N gl (pot gl N) := fun h => h hr
  rw [check_eq, rcheckR, if_neg hgn, if_neg hrn, Int.toNat_natCast, commonN_self_take, List.length_take, if_pos]
  refine .inr ?_
  cases decide (min n (allW gl N).length = (allW gl N).length) <;> simp
theorem listR_take {N k : Nat} {gl : List Lnk} (hg : validG N gl) (hk : k ≤ 50) : listR N gl k = (allW gl N).take k ∧ listE N gl k = 0 := by
  have hgn : ¬ ¬ validG N gl := fun h => h hg
  refine ⟨?_, ?_⟩
  · rw [listR, if_pos ⟨hg, by omega, by omega⟩, Int.toNat_natCast, Int.toNat_natCast]; rfl
  · rw [listE, if_neg hgn, if_neg (by omega)]

end Go.Proofs.Ytjdhcblofkkibaa

/-
  The contracts of Make and More, and of Prefix. Conditions: numbers below a billion.
-/
import Derived.Test.YtjdhcblofkkibaaVb
namespace Go.Proofs.Ytjdhcblofkkibaa
open Go Go.RowKit

set_option maxHeartbeats 4000000 in
theorem pmake_bad {H : Snap} {vl : Value} {N k s : Int} {gl : List Lnk} (hl : SliceRep H LinkL vl gl) (hk : -1000000 ≤ k ∧ k ≤ 1000000) (_hs : -1000000000 ≤ s ∧ s ≤ 1000000000) (he : argE N gl [k, 50 - k, s] ≠ 0) :
    Pure Try.prog 23 #[.agg #[.int .i64 N, vl], .int .i64 k, .int .i64 s] H (fun _ r => r = .tuple #[.agg #[.slice none 0 0, .bool false], .slice none 0 0, .int .i64 (argE N gl [k, 50 - k, s])]) := by
  refine Pure.intro Try.func23 rfl Try.ntmps23 rfl (fun E R hM hR => ?_)
  repeat (first | refine a1 ?_ | refine a3 ?_ | refine a4 ?_ | refine a5 ?_ | refine a6 ?_ | refine s_loadBs ?_ | refine s_loadHs ?_ | refine s_subI ?_ | refine s_build ?_ | refine s_makeFunc ?_ | refine s_min ?_ | refine a7 ?_ | refine a8 ?_ | refine a9 ?_ | refine RW.storeR rfl rfl rfl rfl (by first | rfl | (simp [allOne, cellsL, one1]; done) | (simp [allOne, cellsL, one1]; first | assumption | (refine ⟨?_, ?_⟩ <;> assumption))) rfl ?_ | refine a10 ?_ | refine RW.storeR1 rfl rfl (by first | rfl | exact IsSl.one1 (by assumption) | exact IsSl.one1 (SliceRep.isSl (by assumption))) rfl rfl ?_)
  refine RW.box rfl rfl rfl rfl (fun b3 => ?_)
  refine RW.alloc rfl rfl rfl (fun b6 => ?_)
  repeat (first | refine a1 ?_ | refine a3 ?_ | refine a4 ?_ | refine a5 ?_ | refine a6 ?_ | refine s_loadBs ?_ | refine s_loadHs ?_ | refine s_subI ?_ | refine s_build ?_ | refine s_makeFunc ?_ | refine s_min ?_ | refine a7 ?_ | refine a8 ?_ | refine a9 ?_ | refine RW.storeR rfl rfl rfl rfl (by first | rfl | (simp [allOne, cellsL, one1]; done) | (simp [allOne, cellsL, one1]; first | assumption | (refine ⟨?_, ?_⟩ <;> assumption))) rfl ?_ | refine a10 ?_ | refine RW.storeR1 rfl rfl (by first | rfl | exact IsSl.one1 (by assumption) | exact IsSl.one1 (SliceRep.isSl (by assumption))) rfl rfl ?_)
  refine RW.buildSlice rfl rfl rfl rfl rfl rfl rfl (fun v18 hv18 => ?_)
  refine RW.freeze (H := H) v18 hM (fun HQ hleQ hsQ hcQ => ?_)
  have hx : SliceRep HQ I64 v18 [k, 50 - k, s] := SliceRep.of_row hsQ rfl (ints_rep HQ [k, 50 - k, s]) (Snap.le.refl _) hcQ
  repeat (first | refine a1 ?_ | refine a3 ?_ | refine a4 ?_ | refine a5 ?_ | refine a6 ?_ | refine s_loadBs ?_ | refine s_loadHs ?_ | refine s_subI ?_ | refine s_build ?_ | refine s_makeFunc ?_ | refine s_min ?_ | refine a7 ?_ | refine a8 ?_ | refine a9 ?_ | refine RW.storeR rfl rfl rfl rfl (by first | rfl | (simp [allOne, cellsL, one1]; done) | (simp [allOne, cellsL, one1]; first | assumption | (refine ⟨?_, ?_⟩ <;> assumption))) rfl ?_ | refine a10 ?_ | refine RW.storeR1 rfl rfl (by first | rfl | exact IsSl.one1 (by assumption) | exact IsSl.one1 (SliceRep.isSl (by assumption))) rfl rfl ?_)
  refine RW.callV rfl (pcheck_c (hl.mono hleQ) hx) rfl rfl ?_
  rintro _ _ rfl
  generalize argE N gl [k, 50 - k, s] = e at *
  repeat (first | refine a1 ?_ | refine a3 ?_ | refine a4 ?_ | refine a5 ?_ | refine a6 ?_ | refine s_loadBs ?_ | refine s_loadHs ?_ | refine s_subI ?_ | refine s_build ?_ | refine s_makeFunc ?_ | refine s_min ?_ | refine a7 ?_ | refine a8 ?_ | refine a9 ?_ | refine RW.storeR rfl rfl rfl rfl (by first | rfl | (simp [allOne, cellsL, one1]; done) | (simp [allOne, cellsL, one1]; first | assumption | (refine ⟨?_, ?_⟩ <;> assumption))) rfl ?_ | refine a10 ?_ | refine RW.storeR1 rfl rfl (by first | rfl | exact IsSl.one1 (by assumption) | exact IsSl.one1 (SliceRep.isSl (by assumption))) rfl rfl ?_)
  rw [show decide (¬ e = 0) = true from decide_eq_true he]
  repeat (first | refine a1 ?_ | refine a3 ?_ | refine a4 ?_ | refine a5 ?_ | refine a6 ?_ | refine s_loadBs ?_ | refine s_loadHs ?_ | refine s_subI ?_ | refine s_build ?_ | refine s_makeFunc ?_ | refine s_min ?_ | refine a7 ?_ | refine a8 ?_ | refine a9 ?_ | refine RW.storeR rfl rfl rfl rfl (by first | rfl | (simp [allOne, cellsL, one1]; done) | (simp [allOne, cellsL, one1]; first | assumption | (refine ⟨?_, ?_⟩ <;> assumption))) rfl ?_ | refine a10 ?_ | refine RW.storeR1 rfl rfl (by first | rfl | exact IsSl.one1 (by assumption) | exact IsSl.one1 (SliceRep.isSl (by assumption))) rfl rfl ?_)
  refine Runs.retCTT Try.func23 Try.results23 rfl rfl rfl (fun w hm => hR _ w _ HQ _ (by simp) (hleQ) ?_ hm)
  rfl
set_option maxHeartbeats 4000000 in
theorem pmake_c {H : Snap} {vl : Value} {N k s : Nat} {gl : List Lnk} (hl : SliceRep H LinkL vl gl) (hg : validG N gl) (hT : treeT gl N 0 ≤ 2000000000000) (hk : k ≤ 50) (hs : s ≤ 1000000000) :
    Pure Try.prog 23 #[.agg #[.int .i64 (N : Int), vl], .int .i64 (k : Int), .int .i64 (s : Int)] H (fun H' r => ∃ v vh, r = .tuple #[.agg #[v, .bool (wholeB (allW gl N) (min k (s / N)))], vh, .int .i64 0] ∧ SliceRep H' CandL v ((allW gl N).take (min k (s / N))) ∧ SliceRep H' I64 vh (pot gl N)) := by
  have hN1 := hg.1
  have hN2 := hg.2.1
  have he : argE (N : Int) gl [(k : Int), 50 - (k : Int), (s : Int)] = 0 := by
    unfold argE
    rw [if_neg (fun h => h hg), if_neg (by simp; omega)]
  refine Pure.intro Try.func23 rfl Try.ntmps23 rfl (fun E R hM hR => ?_)
  repeat (first | refine a1 ?_ | refine a3 ?_ | refine a4 ?_ | refine a5 ?_ | refine a6 ?_ | refine s_loadBs ?_ | refine s_loadHs ?_ | refine s_subI ?_ | refine s_build ?_ | refine s_makeFunc ?_ | refine s_min ?_ | refine a7 ?_ | refine a8 ?_ | refine a9 ?_ | refine RW.storeR rfl rfl rfl rfl (by first | rfl | (simp [allOne, cellsL, one1]; done) | (simp [allOne, cellsL, one1]; first | assumption | (refine ⟨?_, ?_⟩ <;> assumption))) rfl ?_ | refine a10 ?_ | refine RW.storeR1 rfl rfl (by first | rfl | exact IsSl.one1 (by assumption) | exact IsSl.one1 (SliceRep.isSl (by assumption))) rfl rfl ?_)
  refine RW.box rfl rfl rfl rfl (fun b3 => ?_)
  refine RW.alloc rfl rfl rfl (fun b6 => ?_)
  repeat (first | refine a1 ?_ | refine a3 ?_ | refine a4 ?_ | refine a5 ?_ | refine a6 ?_ | refine s_loadBs ?_ | refine s_loadHs ?_ | refine s_subI ?_ | refine s_build ?_ | refine s_makeFunc ?_ | refine s_min ?_ | refine a7 ?_ | refine a8 ?_ | refine a9 ?_ | refine RW.storeR rfl rfl rfl rfl (by first | rfl | (simp [allOne, cellsL, one1]; done) | (simp [allOne, cellsL, one1]; first | assumption | (refine ⟨?_, ?_⟩ <;> assumption))) rfl ?_ | refine a10 ?_ | refine RW.storeR1 rfl rfl (by first | rfl | exact IsSl.one1 (by assumption) | exact IsSl.one1 (SliceRep.isSl (by assumption))) rfl rfl ?_)
  refine RW.buildSlice rfl rfl rfl rfl rfl rfl rfl (fun v18 hv18 => ?_)
  refine RW.freeze (H := H) v18 hM (fun HQ hleQ hsQ hcQ => ?_)
  have hx : SliceRep HQ I64 v18 [(k : Int), 50 - (k : Int), (s : Int)] := SliceRep.of_row hsQ rfl (ints_rep HQ [(k : Int), 50 - (k : Int), (s : Int)]) (Snap.le.refl _) hcQ
  repeat (first | refine a1 ?_ | refine a3 ?_ | refine a4 ?_ | refine a5 ?_ | refine a6 ?_ | refine s_loadBs ?_ | refine s_loadHs ?_ | refine s_subI ?_ | refine s_build ?_ | refine s_makeFunc ?_ | refine s_min ?_ | refine a7 ?_ | refine a8 ?_ | refine a9 ?_ | refine RW.storeR rfl rfl rfl rfl (by first | rfl | (simp [allOne, cellsL, one1]; done) | (simp [allOne, cellsL, one1]; first | assumption | (refine ⟨?_, ?_⟩ <;> assumption))) rfl ?_ | refine a10 ?_ | refine RW.storeR1 rfl rfl (by first | rfl | exact IsSl.one1 (by assumption) | exact IsSl.one1 (SliceRep.isSl (by assumption))) rfl rfl ?_)
  refine RW.callV rfl (pcheck_c (hl.mono hleQ) hx) rfl rfl ?_
  rintro _ _ rfl
  rw [he]
  repeat (first | refine a1 ?_ | refine a3 ?_ | refine a4 ?_ | refine a5 ?_ | refine a6 ?_ | refine s_loadBs ?_ | refine s_loadHs ?_ | refine s_subI ?_ | refine s_build ?_ | refine s_makeFunc ?_ | refine s_min ?_ | refine a7 ?_ | refine a8 ?_ | refine a9 ?_ | refine RW.storeR rfl rfl rfl rfl (by first | rfl | (simp [allOne, cellsL, one1]; done) | (simp [allOne, cellsL, one1]; first | assumption | (refine ⟨?_, ?_⟩ <;> assumption))) rfl ?_ | refine a10 ?_ | refine RW.storeR1 rfl rfl (by first | rfl | exact IsSl.one1 (by assumption) | exact IsSl.one1 (SliceRep.isSl (by assumption))) rfl rfl ?_)
  refine RW.q (QF.makeFuncB rfl).qv rfl rfl ?_
  repeat (first | refine a1 ?_ | refine a3 ?_ | refine a4 ?_ | refine a5 ?_ | refine a6 ?_ | refine s_loadBs ?_ | refine s_loadHs ?_ | refine s_subI ?_ | refine s_build ?_ | refine s_makeFunc ?_ | refine s_min ?_ | refine a7 ?_ | refine a8 ?_ | refine a9 ?_ | refine RW.storeR rfl rfl rfl rfl (by first | rfl | (simp [allOne, cellsL, one1]; done) | (simp [allOne, cellsL, one1]; first | assumption | (refine ⟨?_, ?_⟩ <;> assumption))) rfl ?_ | refine a10 ?_ | refine RW.storeR1 rfl rfl (by first | rfl | exact IsSl.one1 (by assumption) | exact IsSl.one1 (SliceRep.isSl (by assumption))) rfl rfl ?_)
  have hE : ∀ HQ, Pure Try.prog 30 #[.int .i64 (s : Int), .agg #[.int .i64 (N : Int), vl]] HQ (fun _ r => r = .int .i64 ((s : Int) / N)) := fun HQ => enough_c ⟨by omega, by omega⟩ ⟨by omega, by omega⟩
  have hmin : (if (s : Int) / (N : Int) < (k : Int) then (s : Int) / (N : Int) else (k : Int)) = ((min k (s / N) : Nat) : Int) := by
    have e : ((s / N : Nat) : Int) = (s : Int) / (N : Int) := by simp
    rw [← e]
    split <;> omega
  have hF := fun (H : Snap) (hl : SliceRep H LinkL vl gl) => pfirst_c (H := H) (n := min k (s / N)) hl hg hT (by omega)
  refine Runs.regionD _ _ [11] (fun x hx => List.mem_cons_of_mem _ hx) (List.Sublist.refl _) (by kernel_rfl) ?_
  (first | refine t_loadBs 0 ?_ | refine t_loadHs 0 ?_)
  refine d1 1 2 ?_
  (first | refine t_loadBs 3 ?_ | refine t_loadHs 3 ?_)
  refine DW.float 10 rfl rfl ?_
  refine DWf.callB 4 rfl rfl rfl (by kernel_rfl) (by kernel_rfl) rfl rfl rfl rfl rfl rfl rfl (hE HQ) ?_
  rintro _ HE rfl hleE
  refine DWf.qF 5 rfl rfl (by kernel_rfl) (QF.min rfl rfl) (fun _ => QF.min rfl rfl) rfl rfl ?_
  rw [hmin]
  refine DWf.call 6 rfl rfl rfl (by kernel_rfl) (by kernel_rfl) rfl rfl rfl rfl rfl rfl (hF HE ((hl.mono hleQ).mono hleE)) ?_
  rintro _ HF ⟨v, vh, rfl, hv, hvh⟩ hleF
  have hv1 := hv.isSl.one1
  have hvh1 := hvh.isSl.one1
  refine DWf.qF 7 rfl rfl (by kernel_rfl) (qev_eq rfl) (fun _ => qev_eq rfl) rfl rfl ?_
  refine DWf.qF 8 rfl rfl (by kernel_rfl) (qev_eq rfl) (fun _ => qev_eq rfl) rfl rfl ?_
  refine DWf.qF 9 rfl rfl (by kernel_rfl) (qev_eq rfl) (fun _ => qev_eq rfl) rfl rfl ?_
  refine DWf.take rfl (by kernel_rfl) rfl rfl rfl (fun b11 => ?_)
  simp only [List.cons_append, List.nil_append]
  (first | refine DW.storeB 11 rfl (by kernel_rfl) rfl rfl rfl rfl (by first | rfl | (simp [allOne, cellsL, one1]; done) | (simp [allOne, cellsL, one1]; first | assumption | (refine ⟨?_, ?_⟩ <;> assumption))) rfl ?_ | refine DW.storeB1 11 rfl (by kernel_rfl) rfl rfl rfl (by first | rfl | exact IsSl.one1 (by assumption) | exact IsSl.one1 (SliceRep.isSl (by assumption))) rfl rfl ?_)
  refine d2 12 ?_
  refine DW.done (by kernel_rfl) ?_
  repeat (first | refine a1 ?_ | refine a3 ?_ | refine a4 ?_ | refine a5 ?_ | refine a6 ?_ | refine s_loadBs ?_ | refine s_loadHs ?_ | refine s_subI ?_ | refine s_build ?_ | refine s_makeFunc ?_ | refine s_min ?_ | refine a7 ?_ | refine a8 ?_ | refine a9 ?_ | refine RW.storeR rfl rfl rfl rfl (by first | rfl | (simp [allOne, cellsL, one1]; done) | (simp [allOne, cellsL, one1]; first | assumption | (refine ⟨?_, ?_⟩ <;> assumption))) rfl ?_ | refine a10 ?_ | refine RW.storeR1 rfl rfl (by first | rfl | exact IsSl.one1 (by assumption) | exact IsSl.one1 (SliceRep.isSl (by assumption))) rfl rfl ?_)
  refine Runs.retCTT Try.func23 Try.results23 rfl rfl rfl (fun w hm => hR _ w _ HF _ (by simp) ((hleQ.trans hleE).trans hleF) ?_ hm)
  exact ⟨v, vh, rfl, hv, hvh⟩
set_option maxHeartbeats 4000000 in
theorem pmore_bad {H : Snap} {vl vp : Value} {N k s : Nat} {gl : List Lnk} {L : List Cand} {w : Bool} (hl : SliceRep H LinkL vl gl) (hg : validG N gl) (hp : SliceRep H CandL vp L) (hL : L.length ≤ 1000000) (hLx : ∀ x ∈ L, x.links.length ≤ 1000000) (hk : k ≤ 50) (_hs : s ≤ 1000000000) (hc : (checkR N gl (pot gl N) L w).2 ≠ 0) :
    Pure Try.prog 15 #[.agg #[.int .i64 (N : Int), vl], .agg #[vp, .bool w], .int .i64 (k : Int), .int .i64 (s : Int)] H (fun _ r => r = .tuple #[.agg #[.slice none 0 0, .bool false], .int .i64 160]) := by
  have hN1 := hg.1
  have hN2 := hg.2.1
  have he : argE (N : Int) gl [(k : Int), 50 - (k : Int), (s : Int)] = 0 := by
    unfold argE
    rw [if_neg (fun h => h hg), if_neg (by simp; omega)]
  refine Pure.intro Try.func15 rfl Try.ntmps15 rfl (fun E R hM hR => ?_)
  repeat (first | refine a1 ?_ | refine a3 ?_ | refine a4 ?_ | refine a5 ?_ | refine a6 ?_ | refine s_loadBs ?_ | refine s_loadHs ?_ | refine s_subI ?_ | refine s_build ?_ | refine s_fieldB ?_ | refine s_fieldV ?_ | refine s_loadB ?_ | refine s_loadH ?_ | refine s_loadR ?_ | refine s_len ?_ | refine s_lenR ?_ | refine s_min ?_ | refine s_addI ?_ | refine a7 ?_ | refine a8 ?_ | refine a9 ?_ | refine RW.storeR rfl rfl rfl rfl (by first | rfl | (simp [allOne, cellsL, one1]; done) | (simp [allOne, cellsL, one1]; first | assumption | (refine ⟨?_, ?_⟩ <;> assumption))) rfl ?_ | refine a10 ?_ | refine RW.storeR1 rfl rfl (by first | rfl | exact IsSl.one1 (by assumption) | exact IsSl.one1 (SliceRep.isSl (by assumption))) rfl rfl ?_)
  refine RW.box rfl rfl rfl rfl (fun b4 => ?_)
  refine RW.box rfl rfl rfl rfl (fun b5 => ?_)
  refine RW.alloc rfl rfl rfl (fun b8 => ?_)
  repeat (first | refine a1 ?_ | refine a3 ?_ | refine a4 ?_ | refine a5 ?_ | refine a6 ?_ | refine s_loadBs ?_ | refine s_loadHs ?_ | refine s_subI ?_ | refine s_build ?_ | refine s_fieldB ?_ | refine s_fieldV ?_ | refine s_loadB ?_ | refine s_loadH ?_ | refine s_loadR ?_ | refine s_len ?_ | refine s_lenR ?_ | refine s_min ?_ | refine s_addI ?_ | refine a7 ?_ | refine a8 ?_ | refine a9 ?_ | refine RW.storeR rfl rfl rfl rfl (by first | rfl | (simp [allOne, cellsL, one1]; done) | (simp [allOne, cellsL, one1]; first | assumption | (refine ⟨?_, ?_⟩ <;> assumption))) rfl ?_ | refine a10 ?_ | refine RW.storeR1 rfl rfl (by first | rfl | exact IsSl.one1 (by assumption) | exact IsSl.one1 (SliceRep.isSl (by assumption))) rfl rfl ?_)
  refine RW.buildSlice rfl rfl rfl rfl rfl rfl rfl (fun v22 hv22 => ?_)
  refine RW.freeze (H := H) v22 hM (fun HQ hleQ hsQ hcQ => ?_)
  have hx : SliceRep HQ I64 v22 [(k : Int), 50 - (k : Int), (s : Int)] := SliceRep.of_row hsQ rfl (ints_rep HQ [(k : Int), 50 - (k : Int), (s : Int)]) (Snap.le.refl _) hcQ
  repeat (first | refine a1 ?_ | refine a3 ?_ | refine a4 ?_ | refine a5 ?_ | refine a6 ?_ | refine s_loadBs ?_ | refine s_loadHs ?_ | refine s_subI ?_ | refine s_build ?_ | refine s_fieldB ?_ | refine s_fieldV ?_ | refine s_loadB ?_ | refine s_loadH ?_ | refine s_loadR ?_ | refine s_len ?_ | refine s_lenR ?_ | refine s_min ?_ | refine s_addI ?_ | refine a7 ?_ | refine a8 ?_ | refine a9 ?_ | refine RW.storeR rfl rfl rfl rfl (by first | rfl | (simp [allOne, cellsL, one1]; done) | (simp [allOne, cellsL, one1]; first | assumption | (refine ⟨?_, ?_⟩ <;> assumption))) rfl ?_ | refine a10 ?_ | refine RW.storeR1 rfl rfl (by first | rfl | exact IsSl.one1 (by assumption) | exact IsSl.one1 (SliceRep.isSl (by assumption))) rfl rfl ?_)
  refine RW.callV rfl (pcheck_c (hl.mono hleQ) hx) rfl rfl ?_
  rintro _ _ rfl
  rw [he]
  have hP := bpot_c (N := (N : Int)) (hl.mono hleQ)
  rw [potE_valid hg, potL_valid hg] at hP
  repeat (first | refine a1 ?_ | refine a3 ?_ | refine a4 ?_ | refine a5 ?_ | refine a6 ?_ | refine s_loadBs ?_ | refine s_loadHs ?_ | refine s_subI ?_ | refine s_build ?_ | refine s_fieldB ?_ | refine s_fieldV ?_ | refine s_loadB ?_ | refine s_loadH ?_ | refine s_loadR ?_ | refine s_len ?_ | refine s_lenR ?_ | refine s_min ?_ | refine s_addI ?_ | refine a7 ?_ | refine a8 ?_ | refine a9 ?_ | refine RW.storeR rfl rfl rfl rfl (by first | rfl | (simp [allOne, cellsL, one1]; done) | (simp [allOne, cellsL, one1]; first | assumption | (refine ⟨?_, ?_⟩ <;> assumption))) rfl ?_ | refine a10 ?_ | refine RW.storeR1 rfl rfl (by first | rfl | exact IsSl.one1 (by assumption) | exact IsSl.one1 (SliceRep.isSl (by assumption))) rfl rfl ?_)
  refine RW.call rfl (hP) rfl rfl ?_
  rintro _ Hp ⟨vh, rfl, hvh⟩ hlep
  have hC := bcheck_c (N := (N : Int)) (w := w) ((hl.mono hleQ).mono hlep) hvh ((hp.mono hleQ).mono hlep) hL hLx
  repeat (first | refine a1 ?_ | refine a3 ?_ | refine a4 ?_ | refine a5 ?_ | refine a6 ?_ | refine s_loadBs ?_ | refine s_loadHs ?_ | refine s_subI ?_ | refine s_build ?_ | refine s_fieldB ?_ | refine s_fieldV ?_ | refine s_loadB ?_ | refine s_loadH ?_ | refine s_loadR ?_ | refine s_len ?_ | refine s_lenR ?_ | refine s_min ?_ | refine s_addI ?_ | refine a7 ?_ | refine a8 ?_ | refine a9 ?_ | refine RW.storeR rfl rfl rfl rfl (by first | rfl | (simp [allOne, cellsL, one1]; done) | (simp [allOne, cellsL, one1]; first | assumption | (refine ⟨?_, ?_⟩ <;> assumption))) rfl ?_ | refine a10 ?_ | refine RW.storeR1 rfl rfl (by first | rfl | exact IsSl.one1 (by assumption) | exact IsSl.one1 (SliceRep.isSl (by assumption))) rfl rfl ?_)
  refine RW.callV rfl (hC) rfl rfl ?_
  rintro _ _ rfl
  generalize checkR (N : Int) gl (pot gl N) L w = c at hc
  obtain ⟨c1, c2⟩ := c
  dsimp only at hc ⊢
  repeat (first | refine a1 ?_ | refine a3 ?_ | refine a4 ?_ | refine a5 ?_ | refine a6 ?_ | refine s_loadBs ?_ | refine s_loadHs ?_ | refine s_subI ?_ | refine s_build ?_ | refine s_fieldB ?_ | refine s_fieldV ?_ | refine s_loadB ?_ | refine s_loadH ?_ | refine s_loadR ?_ | refine s_len ?_ | refine s_lenR ?_ | refine s_min ?_ | refine s_addI ?_ | refine a7 ?_ | refine a8 ?_ | refine a9 ?_ | refine RW.storeR rfl rfl rfl rfl (by first | rfl | (simp [allOne, cellsL, one1]; done) | (simp [allOne, cellsL, one1]; first | assumption | (refine ⟨?_, ?_⟩ <;> assumption))) rfl ?_ | refine a10 ?_ | refine RW.storeR1 rfl rfl (by first | rfl | exact IsSl.one1 (by assumption) | exact IsSl.one1 (SliceRep.isSl (by assumption))) rfl rfl ?_)
  rw [show decide (¬ c2 = 0) = true from decide_eq_true hc]
  repeat (first | refine a1 ?_ | refine a3 ?_ | refine a4 ?_ | refine a5 ?_ | refine a6 ?_ | refine s_loadBs ?_ | refine s_loadHs ?_ | refine s_subI ?_ | refine s_build ?_ | refine s_fieldB ?_ | refine s_fieldV ?_ | refine s_loadB ?_ | refine s_loadH ?_ | refine s_loadR ?_ | refine s_len ?_ | refine s_lenR ?_ | refine s_min ?_ | refine s_addI ?_ | refine a7 ?_ | refine a8 ?_ | refine a9 ?_ | refine RW.storeR rfl rfl rfl rfl (by first | rfl | (simp [allOne, cellsL, one1]; done) | (simp [allOne, cellsL, one1]; first | assumption | (refine ⟨?_, ?_⟩ <;> assumption))) rfl ?_ | refine a10 ?_ | refine RW.storeR1 rfl rfl (by first | rfl | exact IsSl.one1 (by assumption) | exact IsSl.one1 (SliceRep.isSl (by assumption))) rfl rfl ?_)
  refine Runs.retCT Try.func15 Try.results15 rfl rfl (fun w hm => hR _ w _ Hp _ (by simp) (hleQ.trans hlep) ?_ hm)
  rfl
set_option maxHeartbeats 4000000 in
theorem pmore_c {H : Snap} {vl vp : Value} {N k s : Nat} {gl : List Lnk} {L : List Cand} {w : Bool} (hl : SliceRep H LinkL vl gl) (hg : validG N gl) (hT : treeT gl N 0 ≤ 2000000000000) (hp : SliceRep H CandL vp L) (hL : L.length ≤ 1000000) (hLx : ∀ x ∈ L, x.links.length ≤ 1000000) (hk : k ≤ 50) (hs : s ≤ 1000000000) (hc : (checkR N gl (pot gl N) L w).2 = 0) :
    Pure Try.prog 15 #[.agg #[.int .i64 (N : Int), vl], .agg #[vp, .bool w], .int .i64 (k : Int), .int .i64 (s : Int)] H (fun H' r => ∃ v, r = .tuple #[.agg #[v, .bool (wholeB (allW gl N) (min (L.length + min k (s / N)) 50))], .int .i64 0] ∧ SliceRep H' CandL v ((allW gl N).take (min (L.length + min k (s / N)) 50))) := by
  have hN1 := hg.1
  have hN2 := hg.2.1
  have he : argE (N : Int) gl [(k : Int), 50 - (k : Int), (s : Int)] = 0 := by
    unfold argE
    rw [if_neg (fun h => h hg), if_neg (by simp; omega)]
  refine Pure.intro Try.func15 rfl Try.ntmps15 rfl (fun E R hM hR => ?_)
  repeat (first | refine a1 ?_ | refine a3 ?_ | refine a4 ?_ | refine a5 ?_ | refine a6 ?_ | refine s_loadBs ?_ | refine s_loadHs ?_ | refine s_subI ?_ | refine s_build ?_ | refine s_fieldB ?_ | refine s_fieldV ?_ | refine s_loadB ?_ | refine s_loadH ?_ | refine s_loadR ?_ | refine s_len ?_ | refine s_lenR ?_ | refine s_min ?_ | refine s_addI ?_ | refine a7 ?_ | refine a8 ?_ | refine a9 ?_ | refine RW.storeR rfl rfl rfl rfl (by first | rfl | (simp [allOne, cellsL, one1]; done) | (simp [allOne, cellsL, one1]; first | assumption | (refine ⟨?_, ?_⟩ <;> assumption))) rfl ?_ | refine a10 ?_ | refine RW.storeR1 rfl rfl (by first | rfl | exact IsSl.one1 (by assumption) | exact IsSl.one1 (SliceRep.isSl (by assumption))) rfl rfl ?_)
  refine RW.box rfl rfl rfl rfl (fun b4 => ?_)
  refine RW.box rfl rfl rfl rfl (fun b5 => ?_)
  refine RW.alloc rfl rfl rfl (fun b8 => ?_)
  repeat (first | refine a1 ?_ | refine a3 ?_ | refine a4 ?_ | refine a5 ?_ | refine a6 ?_ | refine s_loadBs ?_ | refine s_loadHs ?_ | refine s_subI ?_ | refine s_build ?_ | refine s_fieldB ?_ | refine s_fieldV ?_ | refine s_loadB ?_ | refine s_loadH ?_ | refine s_loadR ?_ | refine s_len ?_ | refine s_lenR ?_ | refine s_min ?_ | refine s_addI ?_ | refine a7 ?_ | refine a8 ?_ | refine a9 ?_ | refine RW.storeR rfl rfl rfl rfl (by first | rfl | (simp [allOne, cellsL, one1]; done) | (simp [allOne, cellsL, one1]; first | assumption | (refine ⟨?_, ?_⟩ <;> assumption))) rfl ?_ | refine a10 ?_ | refine RW.storeR1 rfl rfl (by first | rfl | exact IsSl.one1 (by assumption) | exact IsSl.one1 (SliceRep.isSl (by assumption))) rfl rfl ?_)
  refine RW.buildSlice rfl rfl rfl rfl rfl rfl rfl (fun v22 hv22 => ?_)
  refine RW.freeze (H := H) v22 hM (fun HQ hleQ hsQ hcQ => ?_)
  have hx : SliceRep HQ I64 v22 [(k : Int), 50 - (k : Int), (s : Int)] := SliceRep.of_row hsQ rfl (ints_rep HQ [(k : Int), 50 - (k : Int), (s : Int)]) (Snap.le.refl _) hcQ
  repeat (first | refine a1 ?_ | refine a3 ?_ | refine a4 ?_ | refine a5 ?_ | refine a6 ?_ | refine s_loadBs ?_ | refine s_loadHs ?_ | refine s_subI ?_ | refine s_build ?_ | refine s_fieldB ?_ | refine s_fieldV ?_ | refine s_loadB ?_ | refine s_loadH ?_ | refine s_loadR ?_ | refine s_len ?_ | refine s_lenR ?_ | refine s_min ?_ | refine s_addI ?_ | refine a7 ?_ | refine a8 ?_ | refine a9 ?_ | refine RW.storeR rfl rfl rfl rfl (by first | rfl | (simp [allOne, cellsL, one1]; done) | (simp [allOne, cellsL, one1]; first | assumption | (refine ⟨?_, ?_⟩ <;> assumption))) rfl ?_ | refine a10 ?_ | refine RW.storeR1 rfl rfl (by first | rfl | exact IsSl.one1 (by assumption) | exact IsSl.one1 (SliceRep.isSl (by assumption))) rfl rfl ?_)
  refine RW.callV rfl (pcheck_c (hl.mono hleQ) hx) rfl rfl ?_
  rintro _ _ rfl
  rw [he]
  have hP := bpot_c (N := (N : Int)) (hl.mono hleQ)
  rw [potE_valid hg, potL_valid hg] at hP
  repeat (first | refine a1 ?_ | refine a3 ?_ | refine a4 ?_ | refine a5 ?_ | refine a6 ?_ | refine s_loadBs ?_ | refine s_loadHs ?_ | refine s_subI ?_ | refine s_build ?_ | refine s_fieldB ?_ | refine s_fieldV ?_ | refine s_loadB ?_ | refine s_loadH ?_ | refine s_loadR ?_ | refine s_len ?_ | refine s_lenR ?_ | refine s_min ?_ | refine s_addI ?_ | refine a7 ?_ | refine a8 ?_ | refine a9 ?_ | refine RW.storeR rfl rfl rfl rfl (by first | rfl | (simp [allOne, cellsL, one1]; done) | (simp [allOne, cellsL, one1]; first | assumption | (refine ⟨?_, ?_⟩ <;> assumption))) rfl ?_ | refine a10 ?_ | refine RW.storeR1 rfl rfl (by first | rfl | exact IsSl.one1 (by assumption) | exact IsSl.one1 (SliceRep.isSl (by assumption))) rfl rfl ?_)
  refine RW.call rfl (hP) rfl rfl ?_
  rintro _ Hp ⟨vh, rfl, hvh⟩ hlep
  have hlp := (hl.mono hleQ).mono hlep
  have hpp := (hp.mono hleQ).mono hlep
  have hps := hpp.isSl
  have hC := bcheck_c (N := (N : Int)) (w := w) hlp hvh hpp hL hLx
  repeat (first | refine a1 ?_ | refine a3 ?_ | refine a4 ?_ | refine a5 ?_ | refine a6 ?_ | refine s_loadBs ?_ | refine s_loadHs ?_ | refine s_subI ?_ | refine s_build ?_ | refine s_fieldB ?_ | refine s_fieldV ?_ | refine s_loadB ?_ | refine s_loadH ?_ | refine s_loadR ?_ | refine s_len ?_ | refine s_lenR ?_ | refine s_min ?_ | refine s_addI ?_ | refine a7 ?_ | refine a8 ?_ | refine a9 ?_ | refine RW.storeR rfl rfl rfl rfl (by first | rfl | (simp [allOne, cellsL, one1]; done) | (simp [allOne, cellsL, one1]; first | assumption | (refine ⟨?_, ?_⟩ <;> assumption))) rfl ?_ | refine a10 ?_ | refine RW.storeR1 rfl rfl (by first | rfl | exact IsSl.one1 (by assumption) | exact IsSl.one1 (SliceRep.isSl (by assumption))) rfl rfl ?_)
  refine RW.callV rfl (hC) rfl rfl ?_
  rintro _ _ rfl
  generalize checkR (N : Int) gl (pot gl N) L w = c at hc
  obtain ⟨c1, c2⟩ := c
  dsimp only at hc ⊢
  subst hc
  repeat (first | refine a1 ?_ | refine a3 ?_ | refine a4 ?_ | refine a5 ?_ | refine a6 ?_ | refine s_loadBs ?_ | refine s_loadHs ?_ | refine s_subI ?_ | refine s_build ?_ | refine s_fieldB ?_ | refine s_fieldV ?_ | refine s_loadB ?_ | refine s_loadH ?_ | refine s_loadR ?_ | refine s_len ?_ | refine s_lenR ?_ | refine s_min ?_ | refine s_addI ?_ | refine a7 ?_ | refine a8 ?_ | refine a9 ?_ | refine RW.storeR rfl rfl rfl rfl (by first | rfl | (simp [allOne, cellsL, one1]; done) | (simp [allOne, cellsL, one1]; first | assumption | (refine ⟨?_, ?_⟩ <;> assumption))) rfl ?_ | refine a10 ?_ | refine RW.storeR1 rfl rfl (by first | rfl | exact IsSl.one1 (by assumption) | exact IsSl.one1 (SliceRep.isSl (by assumption))) rfl rfl ?_)
  have hE : ∀ HQ, Pure Try.prog 30 #[.int .i64 (s : Int), .agg #[.int .i64 (N : Int), vl]] HQ (fun _ r => r = .int .i64 ((s : Int) / N)) := fun HQ => enough_c ⟨by omega, by omega⟩ ⟨by omega, by omega⟩
  have hmin : (if (s : Int) / (N : Int) < (k : Int) then (s : Int) / (N : Int) else (k : Int)) = ((min k (s / N) : Nat) : Int) := by
    have e : ((s / N : Nat) : Int) = (s : Int) / (N : Int) := by simp
    rw [← e]
    split <;> omega
  obtain ⟨m, hme⟩ : ∃ m : Nat, m = min k (s / N) := ⟨_, rfl⟩
  have hm50 : m ≤ 50 := by omega
  rw [← hme] at hmin
  have hmin2 : (if (50 : Int) < ((L.length : Int) + (m : Int)) then (50 : Int) else ((L.length : Int) + (m : Int))) = ((min (L.length + m) 50 : Nat) : Int) := by split <;> omega
  have hF := fun (H : Snap) (hl : SliceRep H LinkL vl gl) => pfirst_c (H := H) (n := min (L.length + m) 50) hl hg hT (by omega)
  refine Runs.regionD _ _ [16] (fun x hx => List.mem_cons_of_mem _ hx) (List.Sublist.refl _) (by kernel_rfl) ?_
  (first | refine t_loadBs 0 ?_ | refine t_loadHs 0 ?_)
  (first | refine t_fieldB 1 ?_ | refine t_fieldV 1 ?_)
  (first | refine t_loadB 2 ?_ | refine t_loadH 2 ?_ | refine t_loadR 2 ?_)
  (first | refine t_len 3 ?_ | refine t_lenR 3 ?_)
  refine d1 4 2 ?_
  (first | refine t_loadBs 6 ?_ | refine t_loadHs 6 ?_)
  refine DW.float 15 rfl rfl ?_
  refine DWf.call 7 rfl rfl rfl (by kernel_rfl) (by kernel_rfl) rfl rfl rfl rfl rfl rfl (hE Hp) ?_
  rintro _ HE rfl hleE
  refine DWf.qF 8 rfl rfl (by kernel_rfl) (QF.min rfl rfl) (fun _ => QF.min rfl rfl) rfl rfl ?_
  rw [hmin]
  refine DWf.qF 9 rfl rfl (by kernel_rfl) (QF.addI rfl rfl (by unfold inI64; omega)) (fun _ => QF.addI rfl rfl (by unfold inI64; omega)) rfl rfl ?_
  refine DWf.qF 10 rfl rfl (by kernel_rfl) (QF.min rfl rfl) (fun _ => QF.min rfl rfl) rfl rfl ?_
  rw [hmin2]
  refine DWf.call 11 rfl rfl rfl (by kernel_rfl) (by kernel_rfl) rfl rfl rfl rfl rfl rfl (hF HE (hlp.mono hleE)) ?_
  rintro _ HF ⟨v, vh2, rfl, hv, hvh2⟩ hleF
  have hv1 := hv.isSl.one1
  refine DWf.qF 12 rfl rfl (by kernel_rfl) (qev_eq rfl) (fun _ => qev_eq rfl) rfl rfl ?_
  refine DWf.qF 13 rfl rfl (by kernel_rfl) (qev_eq rfl) (fun _ => qev_eq rfl) rfl rfl ?_
  refine DWf.qF 14 rfl rfl (by kernel_rfl) (qev_eq rfl) (fun _ => qev_eq rfl) rfl rfl ?_
  refine DWf.take rfl (by kernel_rfl) rfl rfl rfl (fun b15 => ?_)
  simp only [List.cons_append, List.nil_append]
  (first | refine DW.storeB 16 rfl (by kernel_rfl) rfl rfl rfl rfl (by first | rfl | (simp [allOne, cellsL, one1]; done) | (simp [allOne, cellsL, one1]; first | assumption | (refine ⟨?_, ?_⟩ <;> assumption))) rfl ?_ | refine DW.storeB1 16 rfl (by kernel_rfl) rfl rfl rfl (by first | rfl | exact IsSl.one1 (by assumption) | exact IsSl.one1 (SliceRep.isSl (by assumption))) rfl rfl ?_)
  refine d2 17 ?_
  refine DW.done (by kernel_rfl) ?_
  repeat (first | refine a1 ?_ | refine a3 ?_ | refine a4 ?_ | refine a5 ?_ | refine a6 ?_ | refine s_loadBs ?_ | refine s_loadHs ?_ | refine s_subI ?_ | refine s_build ?_ | refine s_fieldB ?_ | refine s_fieldV ?_ | refine s_loadB ?_ | refine s_loadH ?_ | refine s_loadR ?_ | refine s_len ?_ | refine s_lenR ?_ | refine s_min ?_ | refine s_addI ?_ | refine a7 ?_ | refine a8 ?_ | refine a9 ?_ | refine RW.storeR rfl rfl rfl rfl (by first | rfl | (simp [allOne, cellsL, one1]; done) | (simp [allOne, cellsL, one1]; first | assumption | (refine ⟨?_, ?_⟩ <;> assumption))) rfl ?_ | refine a10 ?_ | refine RW.storeR1 rfl rfl (by first | rfl | exact IsSl.one1 (by assumption) | exact IsSl.one1 (SliceRep.isSl (by assumption))) rfl rfl ?_)
  refine Runs.retCT Try.func15 Try.results15 rfl rfl (fun w hm => hR _ w _ HF _ (by simp) (((hleQ.trans hlep).trans hleE).trans hleF) ?_ hm)
  subst hme
  exact ⟨v, rfl, hv⟩
end Go.Proofs.Ytjdhcblofkkibaa

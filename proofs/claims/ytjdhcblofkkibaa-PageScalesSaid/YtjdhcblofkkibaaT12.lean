/-
  The search for the first ways. Conditions: the graph does not have too many beginnings of ways.
-/
import Derived.Test.YtjdhcblofkkibaaT11
import Derived.Test.YtjdhcblofkkibaaSr
namespace Go.Proofs.Ytjdhcblofkkibaa
open Go Go.RowKit

section
variable {P : Program} {f : FuncId} {n : Nat} {E : Ent} {R : Value → World → Prop} {k : List Item} {Hs : List Snap} {O : List Own} {l : Env} {L : List Oper}
end

theorem SearchI.start1 {gl : List Lnk} {N F : Nat} {t : List Int} (hN : 0 < N) (h : tv t 0 < farI) : SearchI gl N F t [⟨[], 0, 0, tv t 0⟩] [] := by
  refine ⟨fun p hp => ?_, ?_, List.Pairwise.nil, by simp⟩
  · rw [List.mem_singleton] at hp; subst hp
    refine ⟨Int.le_refl _, by simp only; omega, by simp, h, Int.le_refl _, by simp, by simp⟩
  · rw [List.nil_append, List.flatMap_singleton]
    unfold comp
    have : (fun w : Cand => (⟨[] ++ w.links, 0 + w.cost⟩ : Cand)) = id := by funext w; simp
    rw [this, List.map_id]
theorem SearchI.start0 {gl : List Lnk} {N F : Nat} {t : List Int} (hg : ∀ x ∈ gl, okL (N : Int) x) (ht : IsLeast N gl 0 t) (hF : F ≤ 4000) (hN : 0 < N) (h : tv t 0 = farI) : SearchI gl N F t [] [] := by
  refine ⟨by simp, ?_, List.Pairwise.nil, by simp⟩
  have := comp_far (F := F) (p := ⟨[], 0, 0, 0⟩) hg ht hF (Int.le_refl _) (by simp only; omega) h
  unfold comp at this
  rw [List.map_eq_nil_iff] at this
  simp only at this
  rw [this]; simp

set_option maxHeartbeats 8000000 in
theorem blist_c {H : Snap} {vl : Value} {N : Int} {gl : List Lnk} {k : Int} (hl : SliceRep H LinkL vl gl) (hT : validG N gl → treeT gl N.toNat 0 ≤ 2000000000000) :
    Pure Try.prog 46 #[.agg #[.int .i64 N, vl], .int .i64 k] H (fun H' r => ∃ vr, r = .tuple #[vr, .int .i64 (listE N gl k)] ∧ SliceRep H' CandL vr (listR N gl k)) := by
  have hb := hl.isSl.bound
  refine Pure.intro Try.func46 rfl Try.ntmps46 rfl (fun E R hM hR => ?_)
  repeat (first | refine a1 ?_ | refine a3 ?_ | refine a4 ?_ | refine a5 ?_ | refine a6 ?_ | refine s_loadBs ?_ | refine s_loadHs ?_ | refine s_build ?_ | refine s_indexT ?_ | refine s_indexRT ?_ | refine s_loadB ?_ | refine s_loadH ?_ | refine s_loadR ?_ | refine s_fieldB ?_ | refine s_fieldV ?_ | refine s_len ?_ | refine s_lenR ?_ | refine s_subI ?_ | refine s_index ?_ | refine s_indexR ?_ | refine s_addI ?_ | refine s_sliceHi ?_ | refine a7 ?_ | refine a8 ?_ | refine a9 ?_ | refine RW.storeR rfl rfl rfl rfl (by first | rfl | (simp [allOne, cellsL, one1]; done) | (simp [allOne, cellsL, one1]; first | assumption | (refine ⟨?_, ?_⟩ <;> assumption))) rfl ?_ | refine a10 ?_ | refine RW.storeR1 rfl rfl (by first | rfl | exact IsSl.one1 (by assumption) | exact IsSl.one1 (SliceRep.isSl (by assumption))) rfl rfl ?_)
  refine RW.box rfl rfl rfl rfl (fun b2 => ?_)
  repeat (first | refine a1 ?_ | refine a3 ?_ | refine a4 ?_ | refine a5 ?_ | refine a6 ?_ | refine s_loadBs ?_ | refine s_loadHs ?_ | refine s_build ?_ | refine s_indexT ?_ | refine s_indexRT ?_ | refine s_loadB ?_ | refine s_loadH ?_ | refine s_loadR ?_ | refine s_fieldB ?_ | refine s_fieldV ?_ | refine s_len ?_ | refine s_lenR ?_ | refine s_subI ?_ | refine s_index ?_ | refine s_indexR ?_ | refine s_addI ?_ | refine s_sliceHi ?_ | refine a7 ?_ | refine a8 ?_ | refine a9 ?_ | refine RW.storeR rfl rfl rfl rfl (by first | rfl | (simp [allOne, cellsL, one1]; done) | (simp [allOne, cellsL, one1]; first | assumption | (refine ⟨?_, ?_⟩ <;> assumption))) rfl ?_ | refine a10 ?_ | refine RW.storeR1 rfl rfl (by first | rfl | exact IsSl.one1 (by assumption) | exact IsSl.one1 (SliceRep.isSl (by assumption))) rfl rfl ?_)
  refine RW.callV rfl (bvalid_c hl) rfl rfl ?_
  rintro _ _ rfl
  repeat (first | refine a1 ?_ | refine a3 ?_ | refine a4 ?_ | refine a5 ?_ | refine a6 ?_ | refine s_loadBs ?_ | refine s_loadHs ?_ | refine s_build ?_ | refine s_indexT ?_ | refine s_indexRT ?_ | refine s_loadB ?_ | refine s_loadH ?_ | refine s_loadR ?_ | refine s_fieldB ?_ | refine s_fieldV ?_ | refine s_len ?_ | refine s_lenR ?_ | refine s_subI ?_ | refine s_index ?_ | refine s_indexR ?_ | refine s_addI ?_ | refine s_sliceHi ?_ | refine a7 ?_ | refine a8 ?_ | refine a9 ?_ | refine RW.storeR rfl rfl rfl rfl (by first | rfl | (simp [allOne, cellsL, one1]; done) | (simp [allOne, cellsL, one1]; first | assumption | (refine ⟨?_, ?_⟩ <;> assumption))) rfl ?_ | refine a10 ?_ | refine RW.storeR1 rfl rfl (by first | rfl | exact IsSl.one1 (by assumption) | exact IsSl.one1 (SliceRep.isSl (by assumption))) rfl rfl ?_)
  refine Runs.cond rfl (fun hn => ?_) (fun hn => ?_)
  · have hn : ¬ validG N gl := by simpa using hn
    repeat (first | refine a1 ?_ | refine a3 ?_ | refine a4 ?_ | refine a5 ?_ | refine a6 ?_ | refine s_loadBs ?_ | refine s_loadHs ?_ | refine s_build ?_ | refine s_indexT ?_ | refine s_indexRT ?_ | refine s_loadB ?_ | refine s_loadH ?_ | refine s_loadR ?_ | refine s_fieldB ?_ | refine s_fieldV ?_ | refine s_len ?_ | refine s_lenR ?_ | refine s_subI ?_ | refine s_index ?_ | refine s_indexR ?_ | refine s_addI ?_ | refine s_sliceHi ?_ | refine a7 ?_ | refine a8 ?_ | refine a9 ?_ | refine RW.storeR rfl rfl rfl rfl (by first | rfl | (simp [allOne, cellsL, one1]; done) | (simp [allOne, cellsL, one1]; first | assumption | (refine ⟨?_, ?_⟩ <;> assumption))) rfl ?_ | refine a10 ?_ | refine RW.storeR1 rfl rfl (by first | rfl | exact IsSl.one1 (by assumption) | exact IsSl.one1 (SliceRep.isSl (by assumption))) rfl rfl ?_)
    refine Runs.ret2 Try.func46 Try.results46 rfl rfl (fun w hm => hR _ w _ H _ (List.mem_cons_self ..) (Snap.le.refl _) ?_ hm)
    exact ⟨_, by rw [listE, if_pos hn], by rw [listR, if_neg (fun h => hn h.1)]; exact SliceRep.nil⟩
  · have hg : validG N gl := by simpa using hn
    repeat (first | refine a1 ?_ | refine a3 ?_ | refine a4 ?_ | refine a5 ?_ | refine a6 ?_ | refine s_loadBs ?_ | refine s_loadHs ?_ | refine s_build ?_ | refine s_indexT ?_ | refine s_indexRT ?_ | refine s_loadB ?_ | refine s_loadH ?_ | refine s_loadR ?_ | refine s_fieldB ?_ | refine s_fieldV ?_ | refine s_len ?_ | refine s_lenR ?_ | refine s_subI ?_ | refine s_index ?_ | refine s_indexR ?_ | refine s_addI ?_ | refine s_sliceHi ?_ | refine a7 ?_ | refine a8 ?_ | refine a9 ?_ | refine RW.storeR rfl rfl rfl rfl (by first | rfl | (simp [allOne, cellsL, one1]; done) | (simp [allOne, cellsL, one1]; first | assumption | (refine ⟨?_, ?_⟩ <;> assumption))) rfl ?_ | refine a10 ?_ | refine RW.storeR1 rfl rfl (by first | rfl | exact IsSl.one1 (by assumption) | exact IsSl.one1 (SliceRep.isSl (by assumption))) rfl rfl ?_)
    refine RW.dec 21 rfl (fun h1 => ?_) (fun h1 => ?_)
    · repeat (first | refine a1 ?_ | refine a3 ?_ | refine a4 ?_ | refine a5 ?_ | refine a6 ?_ | refine s_loadBs ?_ | refine s_loadHs ?_ | refine s_build ?_ | refine s_indexT ?_ | refine s_indexRT ?_ | refine s_loadB ?_ | refine s_loadH ?_ | refine s_loadR ?_ | refine s_fieldB ?_ | refine s_fieldV ?_ | refine s_len ?_ | refine s_lenR ?_ | refine s_subI ?_ | refine s_index ?_ | refine s_indexR ?_ | refine s_addI ?_ | refine s_sliceHi ?_ | refine a7 ?_ | refine a8 ?_ | refine a9 ?_ | refine RW.storeR rfl rfl rfl rfl (by first | rfl | (simp [allOne, cellsL, one1]; done) | (simp [allOne, cellsL, one1]; first | assumption | (refine ⟨?_, ?_⟩ <;> assumption))) rfl ?_ | refine a10 ?_ | refine RW.storeR1 rfl rfl (by first | rfl | exact IsSl.one1 (by assumption) | exact IsSl.one1 (SliceRep.isSl (by assumption))) rfl rfl ?_)
      refine Runs.ret2 Try.func46 Try.results46 rfl rfl (fun w hm => hR _ w _ H _ (List.mem_cons_self ..) (Snap.le.refl _) ?_ hm)
      exact ⟨_, by rw [listE, if_neg (fun h => h hg), if_pos (.inl h1)], by rw [listR, if_neg (fun h => by omega)]; exact SliceRep.nil⟩
    · repeat (first | refine a1 ?_ | refine a3 ?_ | refine a4 ?_ | refine a5 ?_ | refine a6 ?_ | refine s_loadBs ?_ | refine s_loadHs ?_ | refine s_build ?_ | refine s_indexT ?_ | refine s_indexRT ?_ | refine s_loadB ?_ | refine s_loadH ?_ | refine s_loadR ?_ | refine s_fieldB ?_ | refine s_fieldV ?_ | refine s_len ?_ | refine s_lenR ?_ | refine s_subI ?_ | refine s_index ?_ | refine s_indexR ?_ | refine s_addI ?_ | refine s_sliceHi ?_ | refine a7 ?_ | refine a8 ?_ | refine a9 ?_ | refine RW.storeR rfl rfl rfl rfl (by first | rfl | (simp [allOne, cellsL, one1]; done) | (simp [allOne, cellsL, one1]; first | assumption | (refine ⟨?_, ?_⟩ <;> assumption))) rfl ?_ | refine a10 ?_ | refine RW.storeR1 rfl rfl (by first | rfl | exact IsSl.one1 (by assumption) | exact IsSl.one1 (SliceRep.isSl (by assumption))) rfl rfl ?_)
      refine Runs.cond_d rfl (fun h2 => ?_) (fun h2 => ?_)
      · repeat (first | refine a1 ?_ | refine a3 ?_ | refine a4 ?_ | refine a5 ?_ | refine a6 ?_ | refine s_loadBs ?_ | refine s_loadHs ?_ | refine s_build ?_ | refine s_indexT ?_ | refine s_indexRT ?_ | refine s_loadB ?_ | refine s_loadH ?_ | refine s_loadR ?_ | refine s_fieldB ?_ | refine s_fieldV ?_ | refine s_len ?_ | refine s_lenR ?_ | refine s_subI ?_ | refine s_index ?_ | refine s_indexR ?_ | refine s_addI ?_ | refine s_sliceHi ?_ | refine a7 ?_ | refine a8 ?_ | refine a9 ?_ | refine RW.storeR rfl rfl rfl rfl (by first | rfl | (simp [allOne, cellsL, one1]; done) | (simp [allOne, cellsL, one1]; first | assumption | (refine ⟨?_, ?_⟩ <;> assumption))) rfl ?_ | refine a10 ?_ | refine RW.storeR1 rfl rfl (by first | rfl | exact IsSl.one1 (by assumption) | exact IsSl.one1 (SliceRep.isSl (by assumption))) rfl rfl ?_)
        refine Runs.ret2 Try.func46 Try.results46 rfl rfl (fun w hm => hR _ w _ H _ (List.mem_cons_self ..) (Snap.le.refl _) ?_ hm)
        exact ⟨_, by rw [listE, if_neg (fun h => h hg), if_pos (.inr h2)], by rw [listR, if_neg (fun h => by omega)]; exact SliceRep.nil⟩
      · obtain ⟨M, rfl⟩ : ∃ M : Nat, N = (M : Int) := ⟨N.toNat, by unfold validG at hg; omega⟩
        obtain ⟨K, rfl⟩ : ∃ j : Nat, k = (j : Int) := ⟨k.toNat, by omega⟩
        have hT := hT hg
        rw [Int.toNat_natCast] at hT
        have hgM : 1 ≤ (M : Int) ∧ (M : Int) ≤ 2000 := ⟨hg.1, hg.2.1⟩
        have hall := hg.2.2.2
        have hlen := hg.2.2.1
        repeat (first | refine a1 ?_ | refine a3 ?_ | refine a4 ?_ | refine a5 ?_ | refine a6 ?_ | refine s_loadBs ?_ | refine s_loadHs ?_ | refine s_build ?_ | refine s_indexT ?_ | refine s_indexRT ?_ | refine s_loadB ?_ | refine s_loadH ?_ | refine s_loadR ?_ | refine s_fieldB ?_ | refine s_fieldV ?_ | refine s_len ?_ | refine s_lenR ?_ | refine s_subI ?_ | refine s_index ?_ | refine s_indexR ?_ | refine s_addI ?_ | refine s_sliceHi ?_ | refine a7 ?_ | refine a8 ?_ | refine a9 ?_ | refine RW.storeR rfl rfl rfl rfl (by first | rfl | (simp [allOne, cellsL, one1]; done) | (simp [allOne, cellsL, one1]; first | assumption | (refine ⟨?_, ?_⟩ <;> assumption))) rfl ?_ | refine a10 ?_ | refine RW.storeR1 rfl rfl (by first | rfl | exact IsSl.one1 (by assumption) | exact IsSl.one1 (SliceRep.isSl (by assumption))) rfl rfl ?_)
        refine RW.call rfl (out_c hl hg) rfl rfl ?_
        rintro vo Ho hvo hleo
        repeat (first | refine a1 ?_ | refine a3 ?_ | refine a4 ?_ | refine a5 ?_ | refine a6 ?_ | refine s_loadBs ?_ | refine s_loadHs ?_ | refine s_build ?_ | refine s_indexT ?_ | refine s_indexRT ?_ | refine s_loadB ?_ | refine s_loadH ?_ | refine s_loadR ?_ | refine s_fieldB ?_ | refine s_fieldV ?_ | refine s_len ?_ | refine s_lenR ?_ | refine s_subI ?_ | refine s_index ?_ | refine s_indexR ?_ | refine s_addI ?_ | refine s_sliceHi ?_ | refine a7 ?_ | refine a8 ?_ | refine a9 ?_ | refine RW.storeR rfl rfl rfl rfl (by first | rfl | (simp [allOne, cellsL, one1]; done) | (simp [allOne, cellsL, one1]; first | assumption | (refine ⟨?_, ?_⟩ <;> assumption))) rfl ?_ | refine a10 ?_ | refine RW.storeR1 rfl rfl (by first | rfl | exact IsSl.one1 (by assumption) | exact IsSl.one1 (SliceRep.isSl (by assumption))) rfl rfl ?_)
        refine RW.call rfl (least_c (hl.mono hleo) hvo hg) rfl rfl ?_
        rintro vr Hr hvr hler
        obtain ⟨t, htab, hvr⟩ := hvr
        replace hl := (hl.mono hleo).mono hler
        replace hvo := hvo.mono hler
        have htl := htab.1
        have htb := htab.2.1
        have hbo := hvo.isSl
        have hbr := hvr.isSl
        rw [outsOf_length] at hbo
        rw [htl] at hbr
        have hr0 : Hr.cell (vat vr (0 * 1)) = some (.int .i64 (tv t 0)) := hvr.flat1 (tv_at (j := 0) (by omega)) rfl
        have ht0 := htb 0 (Int.le_refl _)
        unfold farI at ht0
        repeat (first | refine a1 ?_ | refine a3 ?_ | refine a4 ?_ | refine a5 ?_ | refine a6 ?_ | refine s_loadBs ?_ | refine s_loadHs ?_ | refine s_build ?_ | refine s_indexT ?_ | refine s_indexRT ?_ | refine s_loadB ?_ | refine s_loadH ?_ | refine s_loadR ?_ | refine s_fieldB ?_ | refine s_fieldV ?_ | refine s_len ?_ | refine s_lenR ?_ | refine s_subI ?_ | refine s_index ?_ | refine s_indexR ?_ | refine s_addI ?_ | refine s_sliceHi ?_ | refine a7 ?_ | refine a8 ?_ | refine a9 ?_ | refine RW.storeR rfl rfl rfl rfl (by first | rfl | (simp [allOne, cellsL, one1]; done) | (simp [allOne, cellsL, one1]; first | assumption | (refine ⟨?_, ?_⟩ <;> assumption))) rfl ?_ | refine a10 ?_ | refine RW.storeR1 rfl rfl (by first | rfl | exact IsSl.one1 (by assumption) | exact IsSl.one1 (SliceRep.isSl (by assumption))) rfl rfl ?_)
        refine RW.alloc rfl rfl rfl (fun b8 => ?_)
        repeat (first | refine a1 ?_ | refine a3 ?_ | refine a4 ?_ | refine a5 ?_ | refine a6 ?_ | refine s_loadBs ?_ | refine s_loadHs ?_ | refine s_build ?_ | refine s_indexT ?_ | refine s_indexRT ?_ | refine s_loadB ?_ | refine s_loadH ?_ | refine s_loadR ?_ | refine s_fieldB ?_ | refine s_fieldV ?_ | refine s_len ?_ | refine s_lenR ?_ | refine s_subI ?_ | refine s_index ?_ | refine s_indexR ?_ | refine s_addI ?_ | refine s_sliceHi ?_ | refine a7 ?_ | refine a8 ?_ | refine a9 ?_ | refine RW.storeR rfl rfl rfl rfl (by first | rfl | (simp [allOne, cellsL, one1]; done) | (simp [allOne, cellsL, one1]; first | assumption | (refine ⟨?_, ?_⟩ <;> assumption))) rfl ?_ | refine a10 ?_ | refine RW.storeR1 rfl rfl (by first | rfl | exact IsSl.one1 (by assumption) | exact IsSl.one1 (SliceRep.isSl (by assumption))) rfl rfl ?_)
        refine Runs.addNil 102 4 ?_
        refine Runs.condJ (fun (s : Snap × Value × List Value × List Part) => Hr.le s.1 ∧ CellsRep s.1 PartL s.2.2.2 s.2.2.1 ∧ HeapO s.2.2.2 ∧ SearchI gl M M t s.2.2.2 [] ∧ mu gl M s.2.2.2 ≤ 2000000000000)
          (fun s => [s.1, Hr]) (fun s => [.blk b8 106 [s.2.1, lessV], .row 102 4 s.2.1 s.2.2.2.length s.2.2.1, .blk b2 29 [.int .i64 (M : Int), vl]])
          (fun s => [(1, .int .i64 (K : Int)), (2, .pointer (some ⟨b2, 0, none⟩)), (6, vo), (7, vr), (8, .pointer (some ⟨b8, 0, none⟩))]) rfl (fun hfar hj => ?_) (fun hfar hj => ?_) ?_
        · repeat (first | refine a1 ?_ | refine a3 ?_ | refine a4 ?_ | refine a5 ?_ | refine a6 ?_ | refine s_loadBs ?_ | refine s_loadHs ?_ | refine s_build ?_ | refine s_indexT ?_ | refine s_indexRT ?_ | refine s_loadB ?_ | refine s_loadH ?_ | refine s_loadR ?_ | refine s_fieldB ?_ | refine s_fieldV ?_ | refine s_len ?_ | refine s_lenR ?_ | refine s_subI ?_ | refine s_index ?_ | refine s_indexR ?_ | refine s_addI ?_ | refine s_sliceHi ?_ | refine a7 ?_ | refine a8 ?_ | refine a9 ?_ | refine RW.storeR rfl rfl rfl rfl (by first | rfl | (simp [allOne, cellsL, one1]; done) | (simp [allOne, cellsL, one1]; first | assumption | (refine ⟨?_, ?_⟩ <;> assumption))) rfl ?_ | refine a10 ?_ | refine RW.storeR1 rfl rfl (by first | rfl | exact IsSl.one1 (by assumption) | exact IsSl.one1 (SliceRep.isSl (by assumption))) rfl rfl ?_)
          refine RW.callO rfl rfl (push_c (H := Hr) (v := .slice none 0 0) (ps := []) (x := ⟨[], 0, 0, tv t 0⟩) rfl SliceRep.nil HeapO.nil (by simp)) rfl rfl ?_
          rintro _ H1 O2 ⟨vh, csh, h, rfl, hcsh, hperm, hho⟩ hle1
          simp only [List.cons_append, List.nil_append]
          refine RW.nil ?_
          refine Runs.weak (hj (H1, vh, csh, h) ⟨hle1, hcsh, hho, ?_, ?_⟩) (by repeat (first | exact trivial | refine And.intro rfl ?_)) (fun x hx => List.mem_cons_of_mem _ (SubH.h x hx)) (by repeat (first | exact List.nil_sublist _ | exact List.Sublist.refl _ | refine List.Sublist.cons_cons _ ?_ | refine List.Sublist.cons _ ?_))
          · exact (SearchI.start1 (F := M) (by omega) (by unfold farI; exact hfar)).congr (fun p hp => (SearchI.start1 (F := M) (by omega) (by unfold farI; exact hfar)).1 p (hperm.mem_iff.1 hp)) (hperm.flatMap_right _)
          · rw [mu_perm hperm]
            simpa [mu] using hT
        · refine Runs.skip ?_
          refine Runs.perm (List.Perm.swap ..) ?_
          refine Runs.weak (hj (Hr, .slice none 0 0, [], []) ⟨Snap.le.refl _, rfl, HeapO.nil, SearchI.start0 hall htab (by omega) (by omega) (by unfold farI; omega), by simp [mu]⟩) (by repeat (first | exact trivial | refine And.intro rfl ?_)) (fun x hx => List.mem_cons_of_mem _ (SubH.h x hx)) (by repeat (first | exact List.nil_sublist _ | exact List.Sublist.refl _ | refine List.Sublist.cons_cons _ ?_ | refine List.Sublist.cons _ ?_))
        · rintro ⟨Hc, vh, csh, h⟩ ⟨hlec, hcsh, hho, hse, hmu⟩
          dsimp only at hlec hcsh hho hse hmu ⊢
          repeat (first | refine a1 ?_ | refine a3 ?_ | refine a4 ?_ | refine a5 ?_ | refine a6 ?_ | refine s_loadBs ?_ | refine s_loadHs ?_ | refine s_build ?_ | refine s_indexT ?_ | refine s_indexRT ?_ | refine s_loadB ?_ | refine s_loadH ?_ | refine s_loadR ?_ | refine s_fieldB ?_ | refine s_fieldV ?_ | refine s_len ?_ | refine s_lenR ?_ | refine s_subI ?_ | refine s_index ?_ | refine s_indexR ?_ | refine s_addI ?_ | refine s_sliceHi ?_ | refine a7 ?_ | refine a8 ?_ | refine a9 ?_ | refine RW.storeR rfl rfl rfl rfl (by first | rfl | (simp [allOne, cellsL, one1]; done) | (simp [allOne, cellsL, one1]; first | assumption | (refine ⟨?_, ?_⟩ <;> assumption))) rfl ?_ | refine a10 ?_ | refine RW.storeR1 rfl rfl (by first | rfl | exact IsSl.one1 (by assumption) | exact IsSl.one1 (SliceRep.isSl (by assumption))) rfl rfl ?_)
          refine Runs.addNil 60 2 ?_
          refine Runs.loop (fun (s : Snap × (Value × List Value × List Part) × Value × List Value × List Cand) => Hr.le s.1 ∧ CellsRep s.1 PartL s.2.1.2.2 s.2.1.2.1 ∧ HeapO s.2.1.2.2 ∧ CellsRep s.1 CandL s.2.2.2.2 s.2.2.2.1 ∧ SearchI gl M M t s.2.1.2.2 s.2.2.2.2 ∧ mu gl M s.2.1.2.2 ≤ 2000000000000 ∧ s.2.2.2.2.length ≤ K)
            (fun s => mu gl M s.2.1.2.2) (fun s => [s.1, Hr])
            (fun s => [.blk b8 106 [s.2.1.1, lessV], .row 102 4 s.2.1.1 s.2.1.2.2.length s.2.1.2.1, .row 60 2 s.2.2.1 s.2.2.2.2.length s.2.2.2.1, .blk b2 29 [.int .i64 (M : Int), vl]])
            (fun s => [(1, .int .i64 (K : Int)), (2, .pointer (some ⟨b2, 0, none⟩)), (6, vo), (7, vr), (8, .pointer (some ⟨b8, 0, none⟩)), (9, s.2.2.1)]) (Hc, (vh, csh, h), .slice none 0 0, [], []) ⟨hlec, hcsh, hho, rfl, hse, hmu, Nat.zero_le _⟩ (fun hh => by
              refine Runs.perm (O' := [.blk b8 106 [vh, lessV], .row 102 4 vh h.length csh, .row 60 2 (.slice none 0 0) 0 [], .blk b2 29 [.int .i64 (M : Int), vl]]) ((List.Perm.swap ..).trans (List.Perm.cons _ (List.Perm.swap ..))) ?_
              refine Runs.weak (hh) (by repeat (first | exact trivial | refine And.intro rfl ?_)) (fun x hx => List.mem_cons_of_mem _ (SubH.h x hx)) (by repeat (first | exact List.nil_sublist _ | exact List.Sublist.refl _ | refine List.Sublist.cons_cons _ ?_ | refine List.Sublist.cons _ ?_))) ?_
          clear hlec hcsh hho hse hmu
          rintro ⟨Hc, ⟨vh, csh, h⟩, v9, cs9, lc⟩ ⟨hlec, hcsh, hho, hcs9, hse, hmu, hlk⟩ ih
          dsimp only at hlec hcsh hho hcs9 hse hmu hlk ⊢
          have hmul := mu_len (gl := gl) (F := M) h
          refine Runs.rowSl vh (fun hvh _ => ?_)
          refine Runs.rowSl v9 (fun hv9 _ => ?_)
          repeat (first | refine a1 ?_ | refine a3 ?_ | refine a4 ?_ | refine a5 ?_ | refine a6 ?_ | refine s_loadBs ?_ | refine s_loadHs ?_ | refine s_build ?_ | refine s_indexT ?_ | refine s_indexRT ?_ | refine s_loadB ?_ | refine s_loadH ?_ | refine s_loadR ?_ | refine s_fieldB ?_ | refine s_fieldV ?_ | refine s_len ?_ | refine s_lenR ?_ | refine s_subI ?_ | refine s_index ?_ | refine s_indexR ?_ | refine s_addI ?_ | refine s_sliceHi ?_ | refine a7 ?_ | refine a8 ?_ | refine a9 ?_ | refine RW.storeR rfl rfl rfl rfl (by first | rfl | (simp [allOne, cellsL, one1]; done) | (simp [allOne, cellsL, one1]; first | assumption | (refine ⟨?_, ?_⟩ <;> assumption))) rfl ?_ | refine a10 ?_ | refine RW.storeR1 rfl rfl (by first | rfl | exact IsSl.one1 (by assumption) | exact IsSl.one1 (SliceRep.isSl (by assumption))) rfl rfl ?_)
          refine RW.dec 44 rfl (fun hne => ?_) (fun hne => ?_)
          · repeat (first | refine a1 ?_ | refine a3 ?_ | refine a4 ?_ | refine a5 ?_ | refine a6 ?_ | refine s_loadBs ?_ | refine s_loadHs ?_ | refine s_build ?_ | refine s_indexT ?_ | refine s_indexRT ?_ | refine s_loadB ?_ | refine s_loadH ?_ | refine s_loadR ?_ | refine s_fieldB ?_ | refine s_fieldV ?_ | refine s_len ?_ | refine s_lenR ?_ | refine s_subI ?_ | refine s_index ?_ | refine s_indexR ?_ | refine s_addI ?_ | refine s_sliceHi ?_ | refine a7 ?_ | refine a8 ?_ | refine a9 ?_ | refine RW.storeR rfl rfl rfl rfl (by first | rfl | (simp [allOne, cellsL, one1]; done) | (simp [allOne, cellsL, one1]; first | assumption | (refine ⟨?_, ?_⟩ <;> assumption))) rfl ?_ | refine a10 ?_ | refine RW.storeR1 rfl rfl (by first | rfl | exact IsSl.one1 (by assumption) | exact IsSl.one1 (SliceRep.isSl (by assumption))) rfl rfl ?_)
            refine Runs.cond_d rfl (fun hlt => ?_) (fun hlt => ?_)
            · repeat (first | refine a1 ?_ | refine a3 ?_ | refine a4 ?_ | refine a5 ?_ | refine a6 ?_ | refine s_loadBs ?_ | refine s_loadHs ?_ | refine s_build ?_ | refine s_indexT ?_ | refine s_indexRT ?_ | refine s_loadB ?_ | refine s_loadH ?_ | refine s_loadR ?_ | refine s_fieldB ?_ | refine s_fieldV ?_ | refine s_len ?_ | refine s_lenR ?_ | refine s_subI ?_ | refine s_index ?_ | refine s_indexR ?_ | refine s_addI ?_ | refine s_sliceHi ?_ | refine a7 ?_ | refine a8 ?_ | refine a9 ?_ | refine RW.storeR rfl rfl rfl rfl (by first | rfl | (simp [allOne, cellsL, one1]; done) | (simp [allOne, cellsL, one1]; first | assumption | (refine ⟨?_, ?_⟩ <;> assumption))) rfl ?_ | refine a10 ?_ | refine RW.storeR1 rfl rfl (by first | rfl | exact IsSl.one1 (by assumption) | exact IsSl.one1 (SliceRep.isSl (by assumption))) rfl rfl ?_)
              refine RW.callO rfl rfl (pop_c (H := Hc) (v := vh) hcsh hho (by omega) (by omega)) rfl rfl ?_
              rintro _ H1 O2 ⟨⟨xl, xat, xc, xw⟩, vx, vh1, csh1, h1, rfl, hvx, rfl, hcsh1, hperm, hho1, hmin⟩ hle1
              simp only [List.cons_append, List.nil_append]
              dsimp only at hvx
              have hgood := hse.1 _ (hperm.mem_iff.2 (List.mem_cons_self ..))
              unfold Good at hgood
              dsimp only at hgood
              obtain ⟨a, rfl⟩ : ∃ a : Nat, xat = (a : Int) := ⟨xat.toNat, by omega⟩
              obtain ⟨Ax, capx, rfl, _, _⟩ := hvx.isSl
              have hmu1 : mu gl M h1 < mu gl M h := by
                have := treeT_pos (gl := gl) M (a : Int)
                rw [mu_perm hperm, mu_cons]
                dsimp only
                omega
              repeat (first | refine a1 ?_ | refine a3 ?_ | refine a4 ?_ | refine a5 ?_ | refine a6 ?_ | refine s_loadBs ?_ | refine s_loadHs ?_ | refine s_build ?_ | refine s_indexT ?_ | refine s_indexRT ?_ | refine s_loadB ?_ | refine s_loadH ?_ | refine s_loadR ?_ | refine s_fieldB ?_ | refine s_fieldV ?_ | refine s_len ?_ | refine s_lenR ?_ | refine s_subI ?_ | refine s_index ?_ | refine s_indexR ?_ | refine s_addI ?_ | refine s_sliceHi ?_ | refine a7 ?_ | refine a8 ?_ | refine a9 ?_ | refine RW.storeR rfl rfl rfl rfl (by first | rfl | (simp [allOne, cellsL, one1]; done) | (simp [allOne, cellsL, one1]; first | assumption | (refine ⟨?_, ?_⟩ <;> assumption))) rfl ?_ | refine a10 ?_ | refine RW.storeR1 rfl rfl (by first | rfl | exact IsSl.one1 (by assumption) | exact IsSl.one1 (SliceRep.isSl (by assumption))) rfl rfl ?_)
              refine RW.alloc rfl rfl rfl (fun b10 => ?_)
              repeat (first | refine a1 ?_ | refine a3 ?_ | refine a4 ?_ | refine a5 ?_ | refine a6 ?_ | refine s_loadBs ?_ | refine s_loadHs ?_ | refine s_build ?_ | refine s_indexT ?_ | refine s_indexRT ?_ | refine s_loadB ?_ | refine s_loadH ?_ | refine s_loadR ?_ | refine s_fieldB ?_ | refine s_fieldV ?_ | refine s_len ?_ | refine s_lenR ?_ | refine s_subI ?_ | refine s_index ?_ | refine s_indexR ?_ | refine s_addI ?_ | refine s_sliceHi ?_ | refine a7 ?_ | refine a8 ?_ | refine a9 ?_ | refine RW.storeR rfl rfl rfl rfl (by first | rfl | (simp [allOne, cellsL, one1]; done) | (simp [allOne, cellsL, one1]; first | assumption | (refine ⟨?_, ?_⟩ <;> assumption))) rfl ?_ | refine a10 ?_ | refine RW.storeR1 rfl rfl (by first | rfl | exact IsSl.one1 (by assumption) | exact IsSl.one1 (SliceRep.isSl (by assumption))) rfl rfl ?_)
              refine Runs.cond_d rfl (fun hend => ?_) (fun hend => ?_)
              · repeat (first | refine a1 ?_ | refine a3 ?_ | refine a4 ?_ | refine a5 ?_ | refine a6 ?_ | refine s_loadBs ?_ | refine s_loadHs ?_ | refine s_build ?_ | refine s_indexT ?_ | refine s_indexRT ?_ | refine s_loadB ?_ | refine s_loadH ?_ | refine s_loadR ?_ | refine s_fieldB ?_ | refine s_fieldV ?_ | refine s_len ?_ | refine s_lenR ?_ | refine s_subI ?_ | refine s_index ?_ | refine s_indexR ?_ | refine s_addI ?_ | refine s_sliceHi ?_ | refine a7 ?_ | refine a8 ?_ | refine a9 ?_ | refine RW.storeR rfl rfl rfl rfl (by first | rfl | (simp [allOne, cellsL, one1]; done) | (simp [allOne, cellsL, one1]; first | assumption | (refine ⟨?_, ?_⟩ <;> assumption))) rfl ?_ | refine a10 ?_ | refine RW.storeR1 rfl rfl (by first | rfl | exact IsSl.one1 (by assumption) | exact IsSl.one1 (SliceRep.isSl (by assumption))) rfl rfl ?_)
                refine RW.buildSlice rfl rfl rfl rfl rfl rfl rfl (fun v63 hv63 => ?_)
                refine RW.appendR rfl rfl (by assumption) rfl rfl rfl (by decide) (by omega) (by omega) (fun _ => inferInstance) rfl rfl (fun v64 hv64 => ?_)
                repeat (first | refine a1 ?_ | refine a3 ?_ | refine a4 ?_ | refine a5 ?_ | refine a6 ?_ | refine s_loadBs ?_ | refine s_loadHs ?_ | refine s_build ?_ | refine s_indexT ?_ | refine s_indexRT ?_ | refine s_loadB ?_ | refine s_loadH ?_ | refine s_loadR ?_ | refine s_fieldB ?_ | refine s_fieldV ?_ | refine s_len ?_ | refine s_lenR ?_ | refine s_subI ?_ | refine s_index ?_ | refine s_indexR ?_ | refine s_addI ?_ | refine s_sliceHi ?_ | refine a7 ?_ | refine a8 ?_ | refine a9 ?_ | refine RW.storeR rfl rfl rfl rfl (by first | rfl | (simp [allOne, cellsL, one1]; done) | (simp [allOne, cellsL, one1]; first | assumption | (refine ⟨?_, ?_⟩ <;> assumption))) rfl ?_ | refine a10 ?_ | refine RW.storeR1 rfl rfl (by first | rfl | exact IsSl.one1 (by assumption) | exact IsSl.one1 (SliceRep.isSl (by assumption))) rfl rfl ?_)
                have hh := ih (H1, (vh1, csh1, h1), v64, _, lc ++ [⟨xl, xc⟩]) ⟨hlec.trans hle1, hcsh1, hho1, (hcs9.mono hle1).append (CellsRep.one ⟨_, rfl, hvx⟩), hse.found hall htab (by omega) (by omega) hperm hmin hend, by dsimp only; omega, by dsimp only; rw [List.length_append]; simp; omega⟩ hmu1
                dsimp only at hh
                rw [List.length_append] at hh
                refine Runs.weak (hh) (by repeat (first | exact trivial | refine And.intro rfl ?_)) (fun x hx => List.mem_cons_of_mem _ (SubH.h x hx)) (by repeat (first | exact List.nil_sublist _ | exact List.Sublist.refl _ | refine List.Sublist.cons_cons _ ?_ | refine List.Sublist.cons _ ?_))
              · obtain ⟨vm, hvm, hcm⟩ := hvo.sl (outsOf_at (N := M) (gl := gl) (i := a) (by omega))
                have hbm := hvm.isSl.bound
                repeat (first | refine a1 ?_ | refine a3 ?_ | refine a4 ?_ | refine a5 ?_ | refine a6 ?_ | refine s_loadBs ?_ | refine s_loadHs ?_ | refine s_build ?_ | refine s_indexT ?_ | refine s_indexRT ?_ | refine s_loadB ?_ | refine s_loadH ?_ | refine s_loadR ?_ | refine s_fieldB ?_ | refine s_fieldV ?_ | refine s_len ?_ | refine s_lenR ?_ | refine s_subI ?_ | refine s_index ?_ | refine s_indexR ?_ | refine s_addI ?_ | refine s_sliceHi ?_ | refine a7 ?_ | refine a8 ?_ | refine a9 ?_ | refine RW.storeR rfl rfl rfl rfl (by first | rfl | (simp [allOne, cellsL, one1]; done) | (simp [allOne, cellsL, one1]; first | assumption | (refine ⟨?_, ?_⟩ <;> assumption))) rfl ?_ | refine a10 ?_ | refine RW.storeR1 rfl rfl (by first | rfl | exact IsSl.one1 (by assumption) | exact IsSl.one1 (SliceRep.isSl (by assumption))) rfl rfl ?_)
                refine Runs.loop (fun (s : Nat × Snap × Value × List Value × List Part) => s.1 ≤ (outOf gl (a : Int)).length ∧ H1.le s.2.1 ∧ CellsRep s.2.1 PartL s.2.2.2.2 s.2.2.2.1 ∧ HeapO s.2.2.2.2 ∧ MidI gl M M t ⟨xl, a, xc, xw⟩ h1 s.1 s.2.2.2.2)
                  (fun s => (outOf gl (a : Int)).length - s.1) (fun s => [s.2.1, Hr])
                  (fun s => [.blk b8 106 [s.2.2.1, lessV], .row 102 4 s.2.2.1 s.2.2.2.2.length s.2.2.2.1, .blk b10 102 [.slice Ax xl.length capx, .int .i64 (a : Int), .int .i64 xc, .int .i64 xw], .row 60 2 v9 lc.length cs9, .blk b2 29 [.int .i64 (M : Int), vl]])
                  (fun s => [(1, .int .i64 (K : Int)), (2, .pointer (some ⟨b2, 0, none⟩)), (6, vo), (7, vr), (8, .pointer (some ⟨b8, 0, none⟩)), (9, v9), (10, .pointer (some ⟨b10, 0, none⟩)), (69, vm), (70, .int .i64 ((outOf gl (a : Int)).length : Int)), (71, .int .i64 (s.1 : Int))])
                  (0, H1, vh1, csh1, h1) ⟨Nat.zero_le _, Snap.le.refl _, hcsh1, hho1, MidI.start (fun q hq => hse.1 q (hperm.mem_iff.2 (List.mem_cons_of_mem _ hq)))⟩ (fun hh => by
                    refine Runs.perm (O' := [.blk b8 106 [vh1, lessV], .row 102 4 vh1 h1.length csh1, .blk b10 102 [.slice Ax xl.length capx, .int .i64 (a : Int), .int .i64 xc, .int .i64 xw], .row 60 2 v9 lc.length cs9, .blk b2 29 [.int .i64 (M : Int), vl]]) ((List.Perm.swap ..).trans (List.Perm.cons _ (List.Perm.swap ..))) ?_
                    refine Runs.weak (hh) (by repeat (first | exact trivial | refine And.intro rfl ?_)) (fun x hx => List.mem_cons_of_mem _ (SubH.h x hx)) (by repeat (first | exact List.nil_sublist _ | exact List.Sublist.refl _ | refine List.Sublist.cons_cons _ ?_ | refine List.Sublist.cons _ ?_))) ?_
                clear hcsh1 hho1
                rintro ⟨j, H2, vh2, csh2, h2'⟩ ⟨hj, hle2, hcsh2, hho2, hmid⟩ ih2
                dsimp only at hj hle2 hcsh2 hho2 hmid ⊢
                repeat (first | refine a1 ?_ | refine a3 ?_ | refine a4 ?_ | refine a5 ?_ | refine a6 ?_ | refine s_loadBs ?_ | refine s_loadHs ?_ | refine s_build ?_ | refine s_indexT ?_ | refine s_indexRT ?_ | refine s_loadB ?_ | refine s_loadH ?_ | refine s_loadR ?_ | refine s_fieldB ?_ | refine s_fieldV ?_ | refine s_len ?_ | refine s_lenR ?_ | refine s_subI ?_ | refine s_index ?_ | refine s_indexR ?_ | refine s_addI ?_ | refine s_sliceHi ?_ | refine a7 ?_ | refine a8 ?_ | refine a9 ?_ | refine RW.storeR rfl rfl rfl rfl (by first | rfl | (simp [allOne, cellsL, one1]; done) | (simp [allOne, cellsL, one1]; first | assumption | (refine ⟨?_, ?_⟩ <;> assumption))) rfl ?_ | refine a10 ?_ | refine RW.storeR1 rfl rfl (by first | rfl | exact IsSl.one1 (by assumption) | exact IsSl.one1 (SliceRep.isSl (by assumption))) rfl rfl ?_)
                refine Runs.cond_d rfl (fun hjl => ?_) (fun hjl => ?_)
                · obtain ⟨oi, hoi⟩ : ∃ i, (outOf gl (a : Int))[j]? = some i := ⟨_, List.getElem?_eq_getElem (by omega)⟩
                  obtain ⟨i, lk, rfl, hx, hxf⟩ := outOf_at hoi
                  have hxo := hall lk (List.mem_of_getElem? hx)
                  unfold okL at hxo
                  have hil := (List.getElem?_eq_some_iff.1 hx).1
                  obtain ⟨jt, hjt⟩ : ∃ j : Nat, lk.t = (j : Int) := ⟨lk.t.toNat, by omega⟩
                  have hlnk : lnk gl (i : Int) = lk := lnk_at hx
                  have hload : ∀ jj u, [Value.int .i64 lk.f, .int .i64 lk.t, .int .i64 lk.lab, .int .i64 lk.c][jj]? = some u → Hr.cell (vat vl (i * 4 + jj)) = some u := fun jj u hu => hl.flat hx hu
                  rw [hjt] at hload
                  have hrj : Hr.cell (vat vr (jt * 1)) = some (.int .i64 (tv t (jt : Int))) := hvr.flat1 (tv_at (by omega)) rfl
                  have htj := htb (jt : Int) (by omega)
                  unfold farI at htj
                  repeat (first | refine a1 ?_ | refine a3 ?_ | refine a4 ?_ | refine a5 ?_ | refine a6 ?_ | refine s_loadBs ?_ | refine s_loadHs ?_ | refine s_build ?_ | refine s_indexT ?_ | refine s_indexRT ?_ | refine s_loadB ?_ | refine s_loadH ?_ | refine s_loadR ?_ | refine s_fieldB ?_ | refine s_fieldV ?_ | refine s_len ?_ | refine s_lenR ?_ | refine s_subI ?_ | refine s_index ?_ | refine s_indexR ?_ | refine s_addI ?_ | refine s_sliceHi ?_ | refine a7 ?_ | refine a8 ?_ | refine a9 ?_ | refine RW.storeR rfl rfl rfl rfl (by first | rfl | (simp [allOne, cellsL, one1]; done) | (simp [allOne, cellsL, one1]; first | assumption | (refine ⟨?_, ?_⟩ <;> assumption))) rfl ?_ | refine a10 ?_ | refine RW.storeR1 rfl rfl (by first | rfl | exact IsSl.one1 (by assumption) | exact IsSl.one1 (SliceRep.isSl (by assumption))) rfl rfl ?_)
                  try refine RW.q (QV.loadHs rfl (hload)) rfl rfl ?_
                  refine RW.alloc rfl rfl rfl (fun b13 => ?_)
                  repeat (first | refine a1 ?_ | refine a3 ?_ | refine a4 ?_ | refine a5 ?_ | refine a6 ?_ | refine s_loadBs ?_ | refine s_loadHs ?_ | refine s_build ?_ | refine s_indexT ?_ | refine s_indexRT ?_ | refine s_loadB ?_ | refine s_loadH ?_ | refine s_loadR ?_ | refine s_fieldB ?_ | refine s_fieldV ?_ | refine s_len ?_ | refine s_lenR ?_ | refine s_subI ?_ | refine s_index ?_ | refine s_indexR ?_ | refine s_addI ?_ | refine s_sliceHi ?_ | refine a7 ?_ | refine a8 ?_ | refine a9 ?_ | refine RW.storeR rfl rfl rfl rfl (by first | rfl | (simp [allOne, cellsL, one1]; done) | (simp [allOne, cellsL, one1]; first | assumption | (refine ⟨?_, ?_⟩ <;> assumption))) rfl ?_ | refine a10 ?_ | refine RW.storeR1 rfl rfl (by first | rfl | exact IsSl.one1 (by assumption) | exact IsSl.one1 (SliceRep.isSl (by assumption))) rfl rfl ?_)
                  refine Runs.cond_d rfl (fun hf => ?_) (fun hf => ?_)
                  · repeat (first | refine a1 ?_ | refine a3 ?_ | refine a4 ?_ | refine a5 ?_ | refine a6 ?_ | refine s_loadBs ?_ | refine s_loadHs ?_ | refine s_build ?_ | refine s_indexT ?_ | refine s_indexRT ?_ | refine s_loadB ?_ | refine s_loadH ?_ | refine s_loadR ?_ | refine s_fieldB ?_ | refine s_fieldV ?_ | refine s_len ?_ | refine s_lenR ?_ | refine s_subI ?_ | refine s_index ?_ | refine s_indexR ?_ | refine s_addI ?_ | refine s_sliceHi ?_ | refine a7 ?_ | refine a8 ?_ | refine a9 ?_ | refine RW.storeR rfl rfl rfl rfl (by first | rfl | (simp [allOne, cellsL, one1]; done) | (simp [allOne, cellsL, one1]; first | assumption | (refine ⟨?_, ?_⟩ <;> assumption))) rfl ?_ | refine a10 ?_ | refine RW.storeR1 rfl rfl (by first | rfl | exact IsSl.one1 (by assumption) | exact IsSl.one1 (SliceRep.isSl (by assumption))) rfl rfl ?_)
                    refine Runs.weak (ih2 (j + 1, H2, vh2, csh2, h2') ⟨by dsimp only; omega, hle2, hcsh2, hho2, hmid.skip hoi (comp_far hall htab (by omega) (by simp only [child, hlnk]; omega) (by simp only [child, hlnk]; omega) (by simp only [child, hlnk, hjt, hf, farI]))⟩ (by dsimp only; omega)) (by repeat (first | exact trivial | refine And.intro rfl ?_)) (fun x hx => List.mem_cons_of_mem _ (SubH.h x hx)) (by repeat (first | exact List.nil_sublist _ | exact List.Sublist.refl _ | refine List.Sublist.cons_cons _ ?_ | refine List.Sublist.cons _ ?_))
                  · have hvx2 := hvx.mono hle2
                    have hcapx : xl.length ≤ capOf (.slice Ax xl.length capx) := by assumption
                    have hfull : SliceRep H2 I64 (slv (.slice Ax xl.length capx) 1 0 xl.length xl.length) xl := by
                      have := hvx2.slv (s := 1) (lo := 0) (hi := xl.length) (mx := xl.length) rfl (Nat.zero_le _) (Nat.le_refl _) (Nat.le_refl _) hcapx
                      simpa using this
                    have hcap2 : capOf (slv (.slice Ax xl.length capx) 1 0 xl.length xl.length) = xl.length := by simp [slv, capOf]
                    have hmul2 := mu_len (gl := gl) (F := M) h2'
                    have hmu2 : mu gl M h2' ≤ 2000000000000 := by
                      have e1 := hmid.2.2
                      have e2 := mu_perm (gl := gl) (F := M) hperm
                      rw [mu_cons, treeT_step hall (by show (M : Int) ≤ (a : Int) + (M : Int); omega) hgood.2.1] at e2
                      have e3 : (((outOf gl (a : Int)).take j).map fun i => treeT gl M (lnk gl i).t).sum ≤ ((outOf gl (a : Int)).map fun i => treeT gl M (lnk gl i).t).sum := by
                        conv => rhs; rw [← List.take_append_drop j (outOf gl (a : Int)), List.map_append, List.sum_append]
                        exact Nat.le_add_right _ _
                      dsimp only at e1 e2
                      omega
                    repeat (first | refine a1 ?_ | refine a3 ?_ | refine a4 ?_ | refine a5 ?_ | refine a6 ?_ | refine s_loadBs ?_ | refine s_loadHs ?_ | refine s_build ?_ | refine s_indexT ?_ | refine s_indexRT ?_ | refine s_loadB ?_ | refine s_loadH ?_ | refine s_loadR ?_ | refine s_fieldB ?_ | refine s_fieldV ?_ | refine s_len ?_ | refine s_lenR ?_ | refine s_subI ?_ | refine s_index ?_ | refine s_indexR ?_ | refine s_addI ?_ | refine s_sliceHi ?_ | refine a7 ?_ | refine a8 ?_ | refine a9 ?_ | refine RW.storeR rfl rfl rfl rfl (by first | rfl | (simp [allOne, cellsL, one1]; done) | (simp [allOne, cellsL, one1]; first | assumption | (refine ⟨?_, ?_⟩ <;> assumption))) rfl ?_ | refine a10 ?_ | refine RW.storeR1 rfl rfl (by first | rfl | exact IsSl.one1 (by assumption) | exact IsSl.one1 (SliceRep.isSl (by assumption))) rfl rfl ?_)
                    refine Runs.regionD _ ([.blk b13 58 [.int .i64 lk.f, .int .i64 (jt : Int), .int .i64 lk.lab, .int .i64 lk.c], .blk b10 102 [.slice Ax xl.length capx, .int .i64 (a : Int), .int .i64 xc, .int .i64 xw], .row 60 2 v9 lc.length cs9, .blk b2 29 [.int .i64 (M : Int), vl]]) [] (fun x hx => List.mem_cons_of_mem _ hx) SubO.h (by kernel_rfl) ?_
                    (first | refine t_fieldB 0 ?_ | refine t_fieldV 0 ?_)
                    (first | refine t_loadB 1 ?_ | refine t_loadH 1 ?_ | refine t_loadR 1 ?_)
                    refine d1 2 2 ?_
                    refine DW.qF 4 rfl (by kernel_rfl) (QF.slice3 (hi := xl.length) (m := xl.length) rfl rfl rfl hvx.isSl rfl rfl (Nat.le_refl _) hcapx) rfl rfl ?_
                    refine d2 5 ?_
                    (first | refine t_fieldB 8 ?_ | refine t_fieldV 8 ?_)
                    (first | refine t_loadB 9 ?_ | refine t_loadH 9 ?_ | refine t_loadR 9 ?_)
                    refine d1 10 3 ?_
                    (first | refine t_fieldB 13 ?_ | refine t_fieldV 13 ?_)
                    (first | refine t_loadB 14 ?_ | refine t_loadH 14 ?_ | refine t_loadR 14 ?_)
                    (first | refine t_index 15 ?_ | refine t_indexR 15 ?_)
                    (first | refine t_loadB 16 ?_ | refine t_loadH 16 ?_ | refine t_loadR 16 ?_)
                    refine t_addI 17 ?_
                    refine DW.buildSlice 6 rfl (by kernel_rfl) rfl rfl rfl rfl rfl rfl rfl (fun v100 hv100 => ?_)
                    refine DW.appendF 7 rfl (by kernel_rfl) rfl rfl (hfull) (hcap2) (by assumption) (by omega) (by rfl) rfl rfl rfl (by decide) (by omega) (by omega) rfl rfl (fun xs v101 hxs hv101 => ?_)
                    refine DW.freeze (H := H2) v101 hM inferInstance inferInstance (fun H3 hle3 hs3 hc3 => ?_)
                    have hxs' := i64_cells hxs
                    subst hxs'
                    have hrow : SliceRep H3 I64 v101 (xl ++ [(i : Int)]) := SliceRep.of_row hs3 (by simp) (by
                      have := ints_rep H3 (xl ++ [(i : Int)])
                      rw [List.map_append] at this
                      exact this) (Snap.le.refl _) hc3
                    obtain ⟨A101, cap101, rfl, _, _⟩ := hs3
                    refine t_build 18 ?_
                    refine DW.callS 19 rfl (by kernel_rfl) rfl rfl (push_c (H := H3) (v := vh2) (x := ⟨xl ++ [(i : Int)], jt, xc + lk.c, xc + lk.c + tv t jt⟩) (hcsh2.mono hle3) hrow hho2 (by omega)) rfl rfl inferInstance inferInstance ?_
                    rintro _ H4 O3 ⟨vh3, csh3, h3, rfl, hcsh3, hperm3, hho3⟩ hle4
                    simp only [List.cons_append, List.nil_append]
                    refine DW.done (by kernel_rfl) ?_
                    repeat (first | refine a1 ?_ | refine a3 ?_ | refine a4 ?_ | refine a5 ?_ | refine a6 ?_ | refine s_loadBs ?_ | refine s_loadHs ?_ | refine s_build ?_ | refine s_indexT ?_ | refine s_indexRT ?_ | refine s_loadB ?_ | refine s_loadH ?_ | refine s_loadR ?_ | refine s_fieldB ?_ | refine s_fieldV ?_ | refine s_len ?_ | refine s_lenR ?_ | refine s_subI ?_ | refine s_index ?_ | refine s_indexR ?_ | refine s_addI ?_ | refine s_sliceHi ?_ | refine a7 ?_ | refine a8 ?_ | refine a9 ?_ | refine RW.storeR rfl rfl rfl rfl (by first | rfl | (simp [allOne, cellsL, one1]; done) | (simp [allOne, cellsL, one1]; first | assumption | (refine ⟨?_, ?_⟩ <;> assumption))) rfl ?_ | refine a10 ?_ | refine RW.storeR1 rfl rfl (by first | rfl | exact IsSl.one1 (by assumption) | exact IsSl.one1 (SliceRep.isSl (by assumption))) rfl rfl ?_)
                    have hch : (⟨xl ++ [(i : Int)], jt, xc + lk.c, xc + lk.c + tv t jt⟩ : Part) = child gl t ⟨xl, a, xc, xw⟩ (i : Int) := by
                      simp only [child, hlnk, hjt]
                    rw [hch] at hperm3
                    have hgc := child_good (t := t) hall (hse.1 _ (hperm.mem_iff.2 (List.mem_cons_self ..))) (i := (i : Int)) (List.mem_of_getElem? hoi) (by rw [hlnk, hjt]; unfold farI; omega)
                    refine Runs.weak (ih2 (j + 1, H4, vh3, csh3, h3) ⟨by dsimp only; omega, (hle2.trans hle3).trans hle4, hcsh3, hho3, hmid.push hoi hgc hperm3⟩ (by dsimp only; omega)) (by repeat (first | exact trivial | refine And.intro rfl ?_)) (fun x hx => List.mem_cons_of_mem _ (SubH.h x hx)) (by repeat (first | exact List.nil_sublist _ | exact List.Sublist.refl _ | refine List.Sublist.cons_cons _ ?_ | refine List.Sublist.cons _ ?_))
                · repeat (first | refine a1 ?_ | refine a3 ?_ | refine a4 ?_ | refine a5 ?_ | refine a6 ?_ | refine s_loadBs ?_ | refine s_loadHs ?_ | refine s_build ?_ | refine s_indexT ?_ | refine s_indexRT ?_ | refine s_loadB ?_ | refine s_loadH ?_ | refine s_loadR ?_ | refine s_fieldB ?_ | refine s_fieldV ?_ | refine s_len ?_ | refine s_lenR ?_ | refine s_subI ?_ | refine s_index ?_ | refine s_indexR ?_ | refine s_addI ?_ | refine s_sliceHi ?_ | refine a7 ?_ | refine a8 ?_ | refine a9 ?_ | refine RW.storeR rfl rfl rfl rfl (by first | rfl | (simp [allOne, cellsL, one1]; done) | (simp [allOne, cellsL, one1]; first | assumption | (refine ⟨?_, ?_⟩ <;> assumption))) rfl ?_ | refine a10 ?_ | refine RW.storeR1 rfl rfl (by first | rfl | exact IsSl.one1 (by assumption) | exact IsSl.one1 (SliceRep.isSl (by assumption))) rfl rfl ?_)
                  obtain ⟨hse2, hmu2⟩ := hmid.close hall (show (outOf gl (a : Int)).length ≤ j by omega) hse hperm hgood.2.1 (show (M : Int) ≤ (a : Int) + (M : Int) by omega) hend
                  refine Runs.weak (ih (H2, (vh2, csh2, h2'), v9, cs9, lc) ⟨(hlec.trans hle1).trans hle2, hcsh2, hho2, (hcs9.mono hle1).mono hle2, hse2, by dsimp only; omega, hlk⟩ hmu2) (by repeat (first | exact trivial | refine And.intro rfl ?_)) (fun x hx => List.mem_cons_of_mem _ (SubH.h x hx)) (by repeat (first | exact List.nil_sublist _ | exact List.Sublist.refl _ | refine List.Sublist.cons_cons _ ?_ | refine List.Sublist.cons _ ?_))
            · repeat (first | refine a1 ?_ | refine a3 ?_ | refine a4 ?_ | refine a5 ?_ | refine a6 ?_ | refine s_loadBs ?_ | refine s_loadHs ?_ | refine s_build ?_ | refine s_indexT ?_ | refine s_indexRT ?_ | refine s_loadB ?_ | refine s_loadH ?_ | refine s_loadR ?_ | refine s_fieldB ?_ | refine s_fieldV ?_ | refine s_len ?_ | refine s_lenR ?_ | refine s_subI ?_ | refine s_index ?_ | refine s_indexR ?_ | refine s_addI ?_ | refine s_sliceHi ?_ | refine a7 ?_ | refine a8 ?_ | refine a9 ?_ | refine RW.storeR rfl rfl rfl rfl (by first | rfl | (simp [allOne, cellsL, one1]; done) | (simp [allOne, cellsL, one1]; first | assumption | (refine ⟨?_, ?_⟩ <;> assumption))) rfl ?_ | refine a10 ?_ | refine RW.storeR1 rfl rfl (by first | rfl | exact IsSl.one1 (by assumption) | exact IsSl.one1 (SliceRep.isSl (by assumption))) rfl rfl ?_)
              refine Runs.freeze (H := Hc) v9 hM (fun H5 hle5 hs5 hc5 => ?_)
              refine Runs.ret2 Try.func46 Try.results46 rfl rfl (fun w hm => hR _ w _ H5 _ (by simp) ((hleo.trans hler).trans (hlec.trans hle5)) ?_ hm)
              refine ⟨_, by rw [listE, if_neg (fun h => h hg), if_neg (by omega)], ?_⟩
              rw [listR, if_pos ⟨hg, by omega, by omega⟩, Int.toNat_natCast, Int.toNat_natCast, ← hse.done hlk (.inr (by omega))]
              exact SliceRep.of_row hs5 rfl hcs9 hle5 hc5
          · have hnil : h = [] := List.eq_nil_of_length_eq_zero (by omega)
            repeat (first | refine a1 ?_ | refine a3 ?_ | refine a4 ?_ | refine a5 ?_ | refine a6 ?_ | refine s_loadBs ?_ | refine s_loadHs ?_ | refine s_build ?_ | refine s_indexT ?_ | refine s_indexRT ?_ | refine s_loadB ?_ | refine s_loadH ?_ | refine s_loadR ?_ | refine s_fieldB ?_ | refine s_fieldV ?_ | refine s_len ?_ | refine s_lenR ?_ | refine s_subI ?_ | refine s_index ?_ | refine s_indexR ?_ | refine s_addI ?_ | refine s_sliceHi ?_ | refine a7 ?_ | refine a8 ?_ | refine a9 ?_ | refine RW.storeR rfl rfl rfl rfl (by first | rfl | (simp [allOne, cellsL, one1]; done) | (simp [allOne, cellsL, one1]; first | assumption | (refine ⟨?_, ?_⟩ <;> assumption))) rfl ?_ | refine a10 ?_ | refine RW.storeR1 rfl rfl (by first | rfl | exact IsSl.one1 (by assumption) | exact IsSl.one1 (SliceRep.isSl (by assumption))) rfl rfl ?_)
            refine Runs.freeze (H := Hc) v9 hM (fun H5 hle5 hs5 hc5 => ?_)
            refine Runs.ret2 Try.func46 Try.results46 rfl rfl (fun w hm => hR _ w _ H5 _ (by simp) ((hleo.trans hler).trans (hlec.trans hle5)) ?_ hm)
            refine ⟨_, by rw [listE, if_neg (fun h => h hg), if_neg (by omega)], ?_⟩
            rw [listR, if_pos ⟨hg, by omega, by omega⟩, Int.toNat_natCast, Int.toNat_natCast, ← hse.done hlk (.inl hnil)]
            exact SliceRep.of_row hs5 rfl hcs9 hle5 hc5
end Go.Proofs.Ytjdhcblofkkibaa

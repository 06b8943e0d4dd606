/-
  The graph that a law makes of its raw data. Conditions: the raw data hold bytes.
-/
import Derived.Test.YtjdhcblofkkibaaT3
namespace Go.Proofs.Ytjdhcblofkkibaa
open Go Go.RowKit

abbrev TriL : Lay (Int × Int × Int) := Lay.flat 3 (fun x => [.int .u8 x.1, .int .u8 x.2.1, .int .u8 x.2.2]) (fun _ => rfl) (by simp [one1])
def triOk (x : Int × Int × Int) : Prop := isByte x.1 ∧ isByte x.2.1 ∧ isByte x.2.2
def mkLink (N : Int) (i : Nat) (x : Int × Int × Int) : Lnk := { f := x.1 % (N - 1), t := x.1 % (N - 1) + 1 + x.2.1 % (N - 1 - x.1 % (N - 1)), lab := i, c := x.2.2 % 5 }
def linksOf (N : Int) (xs : List (Int × Int × Int)) : List Lnk := xs.zipIdx.map fun p => mkLink N p.2 p.1
def madeN (n : Int) : Int := 1 + n % 7
def madeL (n : Int) (xs : List (Int × Int × Int)) : List Lnk := if 1 < madeN n then linksOf (madeN n) (xs.take 14) else []
def encL (ls : List Lnk) : List Value := ls.flatMap fun x => [.int .i64 x.f, .int .i64 x.t, .int .i64 x.lab, .int .i64 x.c]

theorem linksOf_snoc (N : Int) (xs : List (Int × Int × Int)) (x : Int × Int × Int) : linksOf N (xs ++ [x]) = linksOf N xs ++ [mkLink N xs.length x] := by
  simp [linksOf, List.zipIdx_append]
theorem encL_snoc (ls : List Lnk) (x : Lnk) : encL (ls ++ [x]) = encL ls ++ [.int .i64 x.f, .int .i64 x.t, .int .i64 x.lab, .int .i64 x.c] := by simp [encL]
set_option maxHeartbeats 1000000 in
theorem made_c {H : Snap} {n : Int} {vL : Value} {xs : List (Int × Int × Int)} (hl : SliceRep H TriL vL xs) (hn : isByte n) (hx : ∀ x ∈ xs, triOk x) :
    Pure Try.prog 10 #[.agg #[.int .u8 n, vL]] H (fun H' r => ∃ vg, r = .agg #[.int .i64 (madeN n), vg] ∧ SliceRep H' LinkL vg (madeL n xs)) := by
  have hb := hl.isSl.bound
  unfold isByte at hn
  have hN7 : 1 ≤ madeN n ∧ madeN n ≤ 7 := by unfold madeN; omega
  refine Pure.intro Try.func10 rfl Try.ntmps10 rfl (fun E R hM hR => ?_)
  repeat (first | refine a1 ?_ | refine a3 ?_ | refine a4 ?_ | refine a5 ?_ | refine a6 ?_ | refine s_fieldB ?_ | refine s_fieldV ?_ | refine s_loadB ?_ | refine s_loadH ?_ | refine s_loadR ?_ | refine s_convI ?_ | refine s_rem ?_ | refine s_addI ?_ | refine s_build ?_ | refine s_len ?_ | refine s_lenR ?_ | refine s_index ?_ | refine s_indexR ?_ | refine s_indexArrT ?_ | refine s_indexArrB ?_ | refine s_subI ?_ | refine s_loadBs ?_ | refine s_loadHs ?_ | refine a7 ?_ | refine a8 ?_ | refine a9 ?_ | refine RW.storeR rfl rfl rfl rfl (by first | rfl | (simp [allOne, cellsL, one1]; done) | (simp [allOne, cellsL, one1]; first | assumption | (refine ⟨?_, ?_⟩ <;> assumption))) rfl ?_ | refine a10 ?_ | refine RW.storeR1 rfl rfl (by first | rfl | exact IsSl.one1 (by assumption) | exact IsSl.one1 (SliceRep.isSl (by assumption))) rfl rfl ?_)
  refine RW.box rfl rfl rfl rfl (fun b1 => ?_)
  refine RW.alloc rfl rfl rfl (fun b2 => ?_)
  repeat (first | refine a1 ?_ | refine a3 ?_ | refine a4 ?_ | refine a5 ?_ | refine a6 ?_ | refine s_fieldB ?_ | refine s_fieldV ?_ | refine s_loadB ?_ | refine s_loadH ?_ | refine s_loadR ?_ | refine s_convI ?_ | refine s_rem ?_ | refine s_addI ?_ | refine s_build ?_ | refine s_len ?_ | refine s_lenR ?_ | refine s_index ?_ | refine s_indexR ?_ | refine s_indexArrT ?_ | refine s_indexArrB ?_ | refine s_subI ?_ | refine s_loadBs ?_ | refine s_loadHs ?_ | refine a7 ?_ | refine a8 ?_ | refine a9 ?_ | refine RW.storeR rfl rfl rfl rfl (by first | rfl | (simp [allOne, cellsL, one1]; done) | (simp [allOne, cellsL, one1]; first | assumption | (refine ⟨?_, ?_⟩ <;> assumption))) rfl ?_ | refine a10 ?_ | refine RW.storeR1 rfl rfl (by first | rfl | exact IsSl.one1 (by assumption) | exact IsSl.one1 (SliceRep.isSl (by assumption))) rfl rfl ?_)
  refine RW.alloc rfl rfl rfl (fun b3 => ?_)
  repeat (first | refine a1 ?_ | refine a3 ?_ | refine a4 ?_ | refine a5 ?_ | refine a6 ?_ | refine s_fieldB ?_ | refine s_fieldV ?_ | refine s_loadB ?_ | refine s_loadH ?_ | refine s_loadR ?_ | refine s_convI ?_ | refine s_rem ?_ | refine s_addI ?_ | refine s_build ?_ | refine s_len ?_ | refine s_lenR ?_ | refine s_index ?_ | refine s_indexR ?_ | refine s_indexArrT ?_ | refine s_indexArrB ?_ | refine s_subI ?_ | refine s_loadBs ?_ | refine s_loadHs ?_ | refine a7 ?_ | refine a8 ?_ | refine a9 ?_ | refine RW.storeR rfl rfl rfl rfl (by first | rfl | (simp [allOne, cellsL, one1]; done) | (simp [allOne, cellsL, one1]; first | assumption | (refine ⟨?_, ?_⟩ <;> assumption))) rfl ?_ | refine a10 ?_ | refine RW.storeR1 rfl rfl (by first | rfl | exact IsSl.one1 (by assumption) | exact IsSl.one1 (SliceRep.isSl (by assumption))) rfl rfl ?_)
  have hN1 : 1 + n % 7 = madeN n := rfl
  rw [hN1]
  generalize hNe : madeN n = N at *
  refine Runs.addNil 58 4 ?_
  refine Runs.loop (fun (s : Nat × Value × List Value) => s.1 ≤ xs.length ∧ s.1 ≤ 14 ∧ (0 < s.1 → 1 < N) ∧ s.2.2 = encL (linksOf N (xs.take s.1))) (fun s => 14 - s.1) (fun _ => [H])
    (fun s => [.row 58 4 s.2.1 s.1 s.2.2, .blk b3 29 [.int .i64 N, s.2.1], .blk b2 29 [.int .i64 0, .slice none 0 0], .blk b1 24 [.int .u8 n, vL]])
    (fun s => [(1, .pointer (some ⟨b1, 0, none⟩)), (2, .pointer (some ⟨b2, 0, none⟩)), (3, .pointer (some ⟨b3, 0, none⟩)), (4, .int .i64 (s.1 : Int))]) (0, .slice none 0 0, []) ⟨Nat.zero_le _, by simp, by simp, rfl⟩
    (fun h => by
      refine Runs.weak (h) (by repeat (first | exact trivial | refine And.intro rfl ?_)) (fun x hx => List.mem_cons_of_mem _ (SubH.h x hx)) (by repeat (first | exact List.nil_sublist _ | exact List.Sublist.refl _ | refine List.Sublist.cons_cons _ ?_ | refine List.Sublist.cons _ ?_))) ?_
  rintro ⟨k, v, cs⟩ ⟨hk, hk14, hkN, hcs⟩ ih
  dsimp only at hk hk14 hkN hcs ⊢
  refine Runs.rowSl v (fun hv hv1 => ?_)
  repeat (first | refine a1 ?_ | refine a3 ?_ | refine a4 ?_ | refine a5 ?_ | refine a6 ?_ | refine s_fieldB ?_ | refine s_fieldV ?_ | refine s_loadB ?_ | refine s_loadH ?_ | refine s_loadR ?_ | refine s_convI ?_ | refine s_rem ?_ | refine s_addI ?_ | refine s_build ?_ | refine s_len ?_ | refine s_lenR ?_ | refine s_index ?_ | refine s_indexR ?_ | refine s_indexArrT ?_ | refine s_indexArrB ?_ | refine s_subI ?_ | refine s_loadBs ?_ | refine s_loadHs ?_ | refine a7 ?_ | refine a8 ?_ | refine a9 ?_ | refine RW.storeR rfl rfl rfl rfl (by first | rfl | (simp [allOne, cellsL, one1]; done) | (simp [allOne, cellsL, one1]; first | assumption | (refine ⟨?_, ?_⟩ <;> assumption))) rfl ?_ | refine a10 ?_ | refine RW.storeR1 rfl rfl (by first | rfl | exact IsSl.one1 (by assumption) | exact IsSl.one1 (SliceRep.isSl (by assumption))) rfl rfl ?_)
  refine RW.dec 17 rfl (fun hlt => ?_) (fun hlt => ?_)
  · repeat (first | refine a1 ?_ | refine a3 ?_ | refine a4 ?_ | refine a5 ?_ | refine a6 ?_ | refine s_fieldB ?_ | refine s_fieldV ?_ | refine s_loadB ?_ | refine s_loadH ?_ | refine s_loadR ?_ | refine s_convI ?_ | refine s_rem ?_ | refine s_addI ?_ | refine s_build ?_ | refine s_len ?_ | refine s_lenR ?_ | refine s_index ?_ | refine s_indexR ?_ | refine s_indexArrT ?_ | refine s_indexArrB ?_ | refine s_subI ?_ | refine s_loadBs ?_ | refine s_loadHs ?_ | refine a7 ?_ | refine a8 ?_ | refine a9 ?_ | refine RW.storeR rfl rfl rfl rfl (by first | rfl | (simp [allOne, cellsL, one1]; done) | (simp [allOne, cellsL, one1]; first | assumption | (refine ⟨?_, ?_⟩ <;> assumption))) rfl ?_ | refine a10 ?_ | refine RW.storeR1 rfl rfl (by first | rfl | exact IsSl.one1 (by assumption) | exact IsSl.one1 (SliceRep.isSl (by assumption))) rfl rfl ?_)
    refine RW.dec 21 rfl (fun hlt2 => ?_) (fun hlt2 => ?_)
    · repeat (first | refine a1 ?_ | refine a3 ?_ | refine a4 ?_ | refine a5 ?_ | refine a6 ?_ | refine s_fieldB ?_ | refine s_fieldV ?_ | refine s_loadB ?_ | refine s_loadH ?_ | refine s_loadR ?_ | refine s_convI ?_ | refine s_rem ?_ | refine s_addI ?_ | refine s_build ?_ | refine s_len ?_ | refine s_lenR ?_ | refine s_index ?_ | refine s_indexR ?_ | refine s_indexArrT ?_ | refine s_indexArrB ?_ | refine s_subI ?_ | refine s_loadBs ?_ | refine s_loadHs ?_ | refine a7 ?_ | refine a8 ?_ | refine a9 ?_ | refine RW.storeR rfl rfl rfl rfl (by first | rfl | (simp [allOne, cellsL, one1]; done) | (simp [allOne, cellsL, one1]; first | assumption | (refine ⟨?_, ?_⟩ <;> assumption))) rfl ?_ | refine a10 ?_ | refine RW.storeR1 rfl rfl (by first | rfl | exact IsSl.one1 (by assumption) | exact IsSl.one1 (SliceRep.isSl (by assumption))) rfl rfl ?_)
      refine Runs.cond_d rfl (fun hN => ?_) (fun hN => ?_)
      · obtain ⟨x, hxk⟩ : ∃ x, xs[k]? = some x := ⟨_, List.getElem?_eq_getElem (by omega)⟩
        have hxo := hx x (List.mem_of_getElem? hxk)
        simp only [triOk, isByte] at hxo
        have hm1 : 0 ≤ x.1 % (N - 1) ∧ x.1 % (N - 1) < N - 1 := ⟨Int.emod_nonneg _ (by omega), Int.emod_lt_of_pos _ (by omega)⟩
        have hm2 : 0 ≤ x.2.1 % (N - 1 - x.1 % (N - 1)) ∧ x.2.1 % (N - 1 - x.1 % (N - 1)) < N - 1 - x.1 % (N - 1) := ⟨Int.emod_nonneg _ (by omega), Int.emod_lt_of_pos _ (by omega)⟩
        repeat (first | refine a1 ?_ | refine a3 ?_ | refine a4 ?_ | refine a5 ?_ | refine a6 ?_ | refine s_fieldB ?_ | refine s_fieldV ?_ | refine s_loadB ?_ | refine s_loadH ?_ | refine s_loadR ?_ | refine s_convI ?_ | refine s_rem ?_ | refine s_addI ?_ | refine s_build ?_ | refine s_len ?_ | refine s_lenR ?_ | refine s_index ?_ | refine s_indexR ?_ | refine s_indexArrT ?_ | refine s_indexArrB ?_ | refine s_subI ?_ | refine s_loadBs ?_ | refine s_loadHs ?_ | refine a7 ?_ | refine a8 ?_ | refine a9 ?_ | refine RW.storeR rfl rfl rfl rfl (by first | rfl | (simp [allOne, cellsL, one1]; done) | (simp [allOne, cellsL, one1]; first | assumption | (refine ⟨?_, ?_⟩ <;> assumption))) rfl ?_ | refine a10 ?_ | refine RW.storeR1 rfl rfl (by first | rfl | exact IsSl.one1 (by assumption) | exact IsSl.one1 (SliceRep.isSl (by assumption))) rfl rfl ?_)
        refine Runs.regionD _ _ [] (fun x hx => List.mem_cons_of_mem _ hx) (List.Sublist.refl _) (by kernel_rfl) ?_
        (first | refine t_fieldB 0 ?_ | refine t_fieldV 0 ?_)
        (first | refine t_loadB 1 ?_ | refine t_loadH 1 ?_ | refine t_loadR 1 ?_)
        refine d2 2 ?_
        (first | refine t_index 3 ?_ | refine t_indexR 3 ?_)
        (first | refine t_indexArrT 4 ?_ | refine t_indexArrB 4 ?_)
        (first | refine t_loadB 5 ?_ | refine t_loadH 5 ?_ | refine t_loadR 5 ?_)
        refine t_convI 6 ?_
        (first | refine t_fieldB 7 ?_ | refine t_fieldV 7 ?_)
        (first | refine t_loadB 8 ?_ | refine t_loadH 8 ?_ | refine t_loadR 8 ?_)
        refine t_subI 9 ?_
        refine t_rem 10 ?_
        refine d2 11 ?_
        refine DW.done (by kernel_rfl) ?_
        repeat (first | refine a1 ?_ | refine a3 ?_ | refine a4 ?_ | refine a5 ?_ | refine a6 ?_ | refine s_fieldB ?_ | refine s_fieldV ?_ | refine s_loadB ?_ | refine s_loadH ?_ | refine s_loadR ?_ | refine s_convI ?_ | refine s_rem ?_ | refine s_addI ?_ | refine s_build ?_ | refine s_len ?_ | refine s_lenR ?_ | refine s_index ?_ | refine s_indexR ?_ | refine s_indexArrT ?_ | refine s_indexArrB ?_ | refine s_subI ?_ | refine s_loadBs ?_ | refine s_loadHs ?_ | refine a7 ?_ | refine a8 ?_ | refine a9 ?_ | refine RW.storeR rfl rfl rfl rfl (by first | rfl | (simp [allOne, cellsL, one1]; done) | (simp [allOne, cellsL, one1]; first | assumption | (refine ⟨?_, ?_⟩ <;> assumption))) rfl ?_ | refine a10 ?_ | refine RW.storeR1 rfl rfl (by first | rfl | exact IsSl.one1 (by assumption) | exact IsSl.one1 (SliceRep.isSl (by assumption))) rfl rfl ?_)
        refine Runs.regionD _ ([.blk b3 29 [.int .i64 N, v], .blk b2 29 [.int .i64 0, .slice none 0 0], .blk b1 24 [.int .u8 n, vL]]) [32] (fun x hx => List.mem_cons_of_mem _ hx) SubO.h (by kernel_rfl) ?_
        (first | refine t_fieldB 0 ?_ | refine t_fieldV 0 ?_)
        (first | refine t_loadB 1 ?_ | refine t_loadH 1 ?_ | refine t_loadR 1 ?_)
        refine d1 2 2 ?_
        refine t_addI 4 ?_
        (first | refine t_fieldB 5 ?_ | refine t_fieldV 5 ?_)
        (first | refine t_loadB 6 ?_ | refine t_loadH 6 ?_ | refine t_loadR 6 ?_)
        refine d2 7 ?_
        (first | refine t_index 8 ?_ | refine t_indexR 8 ?_)
        (first | refine t_indexArrT 9 ?_ | refine t_indexArrB 9 ?_)
        (first | refine t_loadB 10 ?_ | refine t_loadH 10 ?_ | refine t_loadR 10 ?_)
        refine t_convI 11 ?_
        (first | refine t_fieldB 12 ?_ | refine t_fieldV 12 ?_)
        (first | refine t_loadB 13 ?_ | refine t_loadH 13 ?_ | refine t_loadR 13 ?_)
        refine t_subI 14 ?_
        refine d2 15 ?_
        refine t_subI 16 ?_
        refine t_rem 17 ?_
        refine t_addI 18 ?_
        refine d2 19 ?_
        (first | refine t_fieldB 20 ?_ | refine t_fieldV 20 ?_)
        (first | refine t_loadB 21 ?_ | refine t_loadH 21 ?_ | refine t_loadR 21 ?_)
        refine d2 22 ?_
        (first | refine t_index 23 ?_ | refine t_indexR 23 ?_)
        (first | refine t_indexArrT 24 ?_ | refine t_indexArrB 24 ?_)
        (first | refine t_loadB 25 ?_ | refine t_loadH 25 ?_ | refine t_loadR 25 ?_)
        refine t_convI 26 ?_
        refine t_rem 27 ?_
        refine t_build 28 ?_
        refine DW.buildSlice 29 rfl (by kernel_rfl) rfl rfl rfl rfl rfl rfl rfl (fun v1 hs1 => ?_)
        refine DW.appendR 30 rfl (by kernel_rfl) rfl rfl (by assumption) rfl rfl rfl (by decide) (by omega) (by omega) (fun _ => inferInstance) rfl rfl (fun _ => inferInstance) inferInstance (fun v2 hs2 => ?_)
        (first | refine t_fieldB 31 ?_ | refine t_fieldV 31 ?_)
        (first | refine DW.storeB 32 rfl (by kernel_rfl) rfl rfl rfl rfl (by first | rfl | (simp [allOne, cellsL, one1]; done) | (simp [allOne, cellsL, one1]; first | assumption | (refine ⟨?_, ?_⟩ <;> assumption))) rfl ?_ | refine DW.storeB1 32 rfl (by kernel_rfl) rfl rfl rfl (by first | rfl | exact IsSl.one1 (by assumption) | exact IsSl.one1 (SliceRep.isSl (by assumption))) rfl rfl ?_)
        refine DW.done (by kernel_rfl) ?_
        repeat (first | refine a1 ?_ | refine a3 ?_ | refine a4 ?_ | refine a5 ?_ | refine a6 ?_ | refine s_fieldB ?_ | refine s_fieldV ?_ | refine s_loadB ?_ | refine s_loadH ?_ | refine s_loadR ?_ | refine s_convI ?_ | refine s_rem ?_ | refine s_addI ?_ | refine s_build ?_ | refine s_len ?_ | refine s_lenR ?_ | refine s_index ?_ | refine s_indexR ?_ | refine s_indexArrT ?_ | refine s_indexArrB ?_ | refine s_subI ?_ | refine s_loadBs ?_ | refine s_loadHs ?_ | refine a7 ?_ | refine a8 ?_ | refine a9 ?_ | refine RW.storeR rfl rfl rfl rfl (by first | rfl | (simp [allOne, cellsL, one1]; done) | (simp [allOne, cellsL, one1]; first | assumption | (refine ⟨?_, ?_⟩ <;> assumption))) rfl ?_ | refine a10 ?_ | refine RW.storeR1 rfl rfl (by first | rfl | exact IsSl.one1 (by assumption) | exact IsSl.one1 (SliceRep.isSl (by assumption))) rfl rfl ?_)
        refine Runs.weak (ih (k + 1, v2, _) ⟨by dsimp only; omega, by dsimp only; omega, fun _ => hN, ?_⟩ (by dsimp only; omega)) (by repeat (first | exact trivial | refine And.intro rfl ?_)) (fun x hx => List.mem_cons_of_mem _ (SubH.h x hx)) (by repeat (first | exact List.nil_sublist _ | exact List.Sublist.refl _ | refine List.Sublist.cons_cons _ ?_ | refine List.Sublist.cons _ ?_))
        dsimp only
        have hlen : (xs.take k).length = k := by simp; omega
        rw [hcs, take_snoc_of hxk, linksOf_snoc, encL_snoc, hlen]
        rfl
      · have hfin : madeL n xs = [] := by unfold madeL; rw [if_neg (by omega)]
        have hk0 : k = 0 := by
          rcases Nat.eq_zero_or_pos k with h | h
          · exact h
          · exact absurd (hkN h) hN
        subst hk0
        repeat (first | refine a1 ?_ | refine a3 ?_ | refine a4 ?_ | refine a5 ?_ | refine a6 ?_ | refine s_fieldB ?_ | refine s_fieldV ?_ | refine s_loadB ?_ | refine s_loadH ?_ | refine s_loadR ?_ | refine s_convI ?_ | refine s_rem ?_ | refine s_addI ?_ | refine s_build ?_ | refine s_len ?_ | refine s_lenR ?_ | refine s_index ?_ | refine s_indexR ?_ | refine s_indexArrT ?_ | refine s_indexArrB ?_ | refine s_subI ?_ | refine s_loadBs ?_ | refine s_loadHs ?_ | refine a7 ?_ | refine a8 ?_ | refine a9 ?_ | refine RW.storeR rfl rfl rfl rfl (by first | rfl | (simp [allOne, cellsL, one1]; done) | (simp [allOne, cellsL, one1]; first | assumption | (refine ⟨?_, ?_⟩ <;> assumption))) rfl ?_ | refine a10 ?_ | refine RW.storeR1 rfl rfl (by first | rfl | exact IsSl.one1 (by assumption) | exact IsSl.one1 (SliceRep.isSl (by assumption))) rfl rfl ?_)
        refine Runs.freeze (H := H) v hM (fun H' hle hs hc => ?_)
        refine Runs.retC Try.func10 Try.results10 rfl (fun w hm => hR _ w _ H' _ (by simp) hle ⟨v, rfl, ?_⟩ hm)
        refine SliceRep.of_row hs (by rw [hfin]; rfl) (by rw [hfin, hcs]; exact flat_rep []) hle hc
    · have hfin : madeL n xs = linksOf N (xs.take k) := by
        unfold madeL
        rw [hNe]
        by_cases h1 : 1 < N
        · rw [if_pos h1, show k = 14 by omega]
        · have : ¬ 0 < k := fun h => h1 (hkN h)
          omega
      repeat (first | refine a1 ?_ | refine a3 ?_ | refine a4 ?_ | refine a5 ?_ | refine a6 ?_ | refine s_fieldB ?_ | refine s_fieldV ?_ | refine s_loadB ?_ | refine s_loadH ?_ | refine s_loadR ?_ | refine s_convI ?_ | refine s_rem ?_ | refine s_addI ?_ | refine s_build ?_ | refine s_len ?_ | refine s_lenR ?_ | refine s_index ?_ | refine s_indexR ?_ | refine s_indexArrT ?_ | refine s_indexArrB ?_ | refine s_subI ?_ | refine s_loadBs ?_ | refine s_loadHs ?_ | refine a7 ?_ | refine a8 ?_ | refine a9 ?_ | refine RW.storeR rfl rfl rfl rfl (by first | rfl | (simp [allOne, cellsL, one1]; done) | (simp [allOne, cellsL, one1]; first | assumption | (refine ⟨?_, ?_⟩ <;> assumption))) rfl ?_ | refine a10 ?_ | refine RW.storeR1 rfl rfl (by first | rfl | exact IsSl.one1 (by assumption) | exact IsSl.one1 (SliceRep.isSl (by assumption))) rfl rfl ?_)
      refine Runs.freeze (H := H) v hM (fun H' hle hs hc => ?_)
      refine Runs.retC Try.func10 Try.results10 rfl (fun w hm => hR _ w _ H' _ (by simp) hle ⟨v, rfl, ?_⟩ hm)
      refine SliceRep.of_row hs (by rw [hfin]; simp [linksOf]; omega) (by rw [hfin, hcs]; exact flat_rep _) hle hc
  · have hkx : k = xs.length := by omega
    have hfin : madeL n xs = linksOf N (xs.take k) := by
      unfold madeL
      rw [hNe]
      by_cases h1 : 1 < N
      · rw [if_pos h1, hkx, List.take_of_length_le (by omega), List.take_of_length_le (by omega)]
      · have : ¬ 0 < k := fun h => h1 (hkN h)
        have h0 : k = 0 := by omega
        rw [if_neg h1, h0]; rfl
    repeat (first | refine a1 ?_ | refine a3 ?_ | refine a4 ?_ | refine a5 ?_ | refine a6 ?_ | refine s_fieldB ?_ | refine s_fieldV ?_ | refine s_loadB ?_ | refine s_loadH ?_ | refine s_loadR ?_ | refine s_convI ?_ | refine s_rem ?_ | refine s_addI ?_ | refine s_build ?_ | refine s_len ?_ | refine s_lenR ?_ | refine s_index ?_ | refine s_indexR ?_ | refine s_indexArrT ?_ | refine s_indexArrB ?_ | refine s_subI ?_ | refine s_loadBs ?_ | refine s_loadHs ?_ | refine a7 ?_ | refine a8 ?_ | refine a9 ?_ | refine RW.storeR rfl rfl rfl rfl (by first | rfl | (simp [allOne, cellsL, one1]; done) | (simp [allOne, cellsL, one1]; first | assumption | (refine ⟨?_, ?_⟩ <;> assumption))) rfl ?_ | refine a10 ?_ | refine RW.storeR1 rfl rfl (by first | rfl | exact IsSl.one1 (by assumption) | exact IsSl.one1 (SliceRep.isSl (by assumption))) rfl rfl ?_)
    refine Runs.freeze (H := H) v hM (fun H' hle hs hc => ?_)
    refine Runs.retC Try.func10 Try.results10 rfl (fun w hm => hR _ w _ H' _ (by simp) hle ⟨v, rfl, ?_⟩ hm)
    refine SliceRep.of_row hs (by rw [hfin]; simp [linksOf]; omega) (by rw [hfin, hcs]; exact flat_rep _) hle hc

end Go.Proofs.Ytjdhcblofkkibaa

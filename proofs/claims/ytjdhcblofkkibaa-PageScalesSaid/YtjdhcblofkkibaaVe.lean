/-
  The fixed examples of the layer of pages; the law's made. Conditions: as each names them.
-/
import Derived.Test.YtjdhcblofkkibaaVd
namespace Go.Proofs.Ytjdhcblofkkibaa
open Go Go.RowKit

/-- A struct that lies in the middle of an owned block. -/
theorem QV.loadBp {P : Program} {E : Ent} {Hs : List Snap} {O : List Own} {l : Env} {T T' : TypeId} {x : Operand} {b o : Nat} {cs c : List Value} [i : TAgg P T true] [s : TSz P T c.length] (hx : opv l x = some (.pointer (some ⟨b, o, none⟩))) [g : GetBlk O b T' cs] (hc : ∀ j u, c[j]? = some u → cs[o + j]? = some u) : QV P E Hs O l (.load T x) (.agg c.toArray) := by
  intro o' ho ρ hρ w hm
  have h1 : (loadVar T ⟨b, o, none⟩).run P w = .ok (.agg c.toArray) w := run_loadVar_agg (fun j u hj => by
    have h2 := hm.cellB (i := g) (hc j u hj)
    rwa [Addr.add_lit])
  simp [execOp, ho, hρ _ _ hx, Instr.loadAt, Instr.sureAddr, h1]
/-- An array's literal. -/
theorem QF.buildA {P : Program} {l : Env} {T e : TypeId} {k s : Nat} {L : List (Nat × Operand)} {vs : List (Nat × Value)} {z : Value} {cs : List Value} [t : TDesc P T (.array k e)] [zs : TSz P e s] [j : TZero P T z] (hx : opvs l L = some vs) (hf : fillL (fun i => some (i * s, s)) (cellsL z) vs = some cs) : QF P l (.build T L.toArray) (.agg cs.toArray) := by
  intro o ho ρ hρ w
  have h3 := fill_eq _ vs _ _ hf
  have h5 := opvs_eq hρ L vs hx
  simp only [execOp, ho, Instr.build, Sem.run_bind, j.h, Result.andThen_ok, run_underlying t.h, List.map_toArray, h5, cellsL_eq, zs.h]
  rw [h3]
  simp
theorem pre4 {a b c d : Value} : ∀ (j : Nat) (u : Value), [a, b][j]? = some u → [a, b, c, d][0 + j]? = some u
  | 0, _, h => h
  | 1, _, h => h
  | _ + 2, _, h => by simp at h
theorem three19_c {H : Snap} : Pure Try.prog 22 #[] H (fun H' r => ∃ v, r = .agg #[.int .i64 3, v] ∧ SliceRep H' LinkL v g3) := by
  refine Pure.intro Try.func22 rfl Try.ntmps22 rfl (fun E R hM hR => ?_)
  repeat (first | refine a1 ?_ | refine a3 ?_ | refine a4 ?_ | refine a5 ?_ | refine a6 ?_ | refine s_build ?_ | refine a7 ?_ | refine a8 ?_ | refine a9 ?_ | refine RW.storeR rfl rfl rfl rfl (by first | rfl | (simp [allOne, cellsL, one1]; done) | (simp [allOne, cellsL, one1]; first | assumption | (refine ⟨?_, ?_⟩ <;> assumption))) rfl ?_ | refine a10 ?_ | refine RW.storeR1 rfl rfl (by first | rfl | exact IsSl.one1 (by assumption) | exact IsSl.one1 (SliceRep.isSl (by assumption))) rfl rfl ?_)
  refine RW.alloc rfl rfl rfl (fun b0 => ?_)
  repeat (first | refine a1 ?_ | refine a3 ?_ | refine a4 ?_ | refine a5 ?_ | refine a6 ?_ | refine s_build ?_ | refine a7 ?_ | refine a8 ?_ | refine a9 ?_ | refine RW.storeR rfl rfl rfl rfl (by first | rfl | (simp [allOne, cellsL, one1]; done) | (simp [allOne, cellsL, one1]; first | assumption | (refine ⟨?_, ?_⟩ <;> assumption))) rfl ?_ | refine a10 ?_ | refine RW.storeR1 rfl rfl (by first | rfl | exact IsSl.one1 (by assumption) | exact IsSl.one1 (SliceRep.isSl (by assumption))) rfl rfl ?_)
  refine RW.buildSlice rfl rfl rfl rfl rfl rfl rfl (fun v4 hv4 => ?_)
  obtain ⟨A4, c4, rfl, _, _⟩ := hv4
  repeat (first | refine a1 ?_ | refine a3 ?_ | refine a4 ?_ | refine a5 ?_ | refine a6 ?_ | refine s_build ?_ | refine a7 ?_ | refine a8 ?_ | refine a9 ?_ | refine RW.storeR rfl rfl rfl rfl (by first | rfl | (simp [allOne, cellsL, one1]; done) | (simp [allOne, cellsL, one1]; first | assumption | (refine ⟨?_, ?_⟩ <;> assumption))) rfl ?_ | refine a10 ?_ | refine RW.storeR1 rfl rfl (by first | rfl | exact IsSl.one1 (by assumption) | exact IsSl.one1 (SliceRep.isSl (by assumption))) rfl rfl ?_)
  refine Runs.freeze (H := H) (.slice A4 3 c4) hM (fun H1 hle1 hs1 hc1 => ?_)
  refine Runs.retC Try.func22 Try.results22 rfl (fun w hm => hR _ w _ H1 _ (by simp) (hle1) ?_ hm)
  exact ⟨_, rfl, SliceRep.of_row hs1 rfl (flat_rep g3) (Snap.le.refl _) hc1⟩
set_option maxHeartbeats 4000000 in
theorem made19_c {H : Snap} {vl : Value} {N k s : Nat} {gl : List Lnk} (hl : SliceRep H LinkL vl gl) (hg : validG N gl) (hT : treeT gl N 0 ≤ 2000000000000) (hk : k ≤ 50) (hs : s ≤ 1000000000) :
    Pure Try.prog 11 #[.agg #[.int .i64 (N : Int), vl], .int .i64 (k : Int), .int .i64 (s : Int)] H (fun H' r => ∃ v vh, r = .agg #[v, .bool (wholeB (allW gl N) (min k (s / N))), vh, .int .i64 0] ∧ SliceRep H' CandL v ((allW gl N).take (min k (s / N))) ∧ SliceRep H' I64 vh (pot gl N)) := by
  have hM0 := pmake_c hl hg hT hk hs
  refine Pure.intro Try.func11 rfl Try.ntmps11 rfl (fun E R hM hR => ?_)
  repeat (first | refine a1 ?_ | refine a3 ?_ | refine a4 ?_ | refine a5 ?_ | refine a6 ?_ | refine s_loadBs ?_ | refine s_loadHs ?_ | refine s_build ?_ | refine a7 ?_ | refine a8 ?_ | refine a9 ?_ | refine RW.storeR rfl rfl rfl rfl (by first | rfl | (simp [allOne, cellsL, one1]; done) | (simp [allOne, cellsL, one1]; first | assumption | (refine ⟨?_, ?_⟩ <;> assumption))) rfl ?_ | refine a10 ?_ | refine RW.storeR1 rfl rfl (by first | rfl | exact IsSl.one1 (by assumption) | exact IsSl.one1 (SliceRep.isSl (by assumption))) rfl rfl ?_)
  refine RW.box rfl rfl rfl rfl (fun b3 => ?_)
  refine RW.alloc rfl rfl rfl (fun b6 => ?_)
  repeat (first | refine a1 ?_ | refine a3 ?_ | refine a4 ?_ | refine a5 ?_ | refine a6 ?_ | refine s_loadBs ?_ | refine s_loadHs ?_ | refine s_build ?_ | refine a7 ?_ | refine a8 ?_ | refine a9 ?_ | refine RW.storeR rfl rfl rfl rfl (by first | rfl | (simp [allOne, cellsL, one1]; done) | (simp [allOne, cellsL, one1]; first | assumption | (refine ⟨?_, ?_⟩ <;> assumption))) rfl ?_ | refine a10 ?_ | refine RW.storeR1 rfl rfl (by first | rfl | exact IsSl.one1 (by assumption) | exact IsSl.one1 (SliceRep.isSl (by assumption))) rfl rfl ?_)
  refine RW.call rfl (hM0) rfl rfl ?_
  rintro _ H1 ⟨v, vh, rfl, hv, hvh⟩ hle1
  have hv1 := hv.isSl.one1
  have hvh1 := hvh.isSl.one1
  have hvs := hv.isSl
  have hvhs := hvh.isSl
  obtain ⟨Av, cv, e1, _, _⟩ := hvs
  obtain ⟨Ah, ch, e2, _, _⟩ := hvhs
  subst e1
  subst e2
  repeat (first | refine a1 ?_ | refine a3 ?_ | refine a4 ?_ | refine a5 ?_ | refine a6 ?_ | refine s_loadBs ?_ | refine s_loadHs ?_ | refine s_build ?_ | refine a7 ?_ | refine a8 ?_ | refine a9 ?_ | refine RW.storeR rfl rfl rfl rfl (by first | rfl | (simp [allOne, cellsL, one1]; done) | (simp [allOne, cellsL, one1]; first | assumption | (refine ⟨?_, ?_⟩ <;> assumption))) rfl ?_ | refine a10 ?_ | refine RW.storeR1 rfl rfl (by first | rfl | exact IsSl.one1 (by assumption) | exact IsSl.one1 (SliceRep.isSl (by assumption))) rfl rfl ?_)
  refine RW.alloc rfl rfl rfl (fun b7 => ?_)
  repeat (first | refine a1 ?_ | refine a3 ?_ | refine a4 ?_ | refine a5 ?_ | refine a6 ?_ | refine s_loadBs ?_ | refine s_loadHs ?_ | refine s_build ?_ | refine a7 ?_ | refine a8 ?_ | refine a9 ?_ | refine RW.storeR rfl rfl rfl rfl (by first | rfl | (simp [allOne, cellsL, one1]; done) | (simp [allOne, cellsL, one1]; first | assumption | (refine ⟨?_, ?_⟩ <;> assumption))) rfl ?_ | refine a10 ?_ | refine RW.storeR1 rfl rfl (by first | rfl | exact IsSl.one1 (by assumption) | exact IsSl.one1 (SliceRep.isSl (by assumption))) rfl rfl ?_)
  refine Runs.retC Try.func11 Try.results11 rfl (fun w hm => hR _ w _ H1 _ (by simp) (hle1) ?_ hm)
  exact ⟨_, _, rfl, hv, hvh⟩
theorem g3_all : allW g3 3 = [cA, cB] := by decide
theorem g3_pot' : pot g3 3 = [2, 1, 0] := by decide
theorem g3_tree : treeT g3 3 0 ≤ 2000000000000 := by decide
set_option maxHeartbeats 8000000 in
theorem sanity19_c {H : Snap} : Pure Try.prog 9 #[] H (fun _ r => r = .bool true) := by
  have hM1 : ∀ H vg, SliceRep H LinkL vg g3 → Pure Try.prog 23 #[.agg #[.int .i64 3, vg], .int .i64 50, .int .i64 5] H (fun H' r => ∃ v vh, r = .tuple #[.agg #[v, .bool false], vh, .int .i64 0] ∧ SliceRep H' CandL v [cA] ∧ SliceRep H' I64 vh [2, 1, 0]) := fun H vg hg => by
    have := pmake_c (N := 3) (k := 50) (s := 5) hg g3_valid g3_tree (by omega) (by omega)
    rw [g3_all, g3_pot'] at this; exact this
  have hM2 : ∀ H vg, SliceRep H LinkL vg g3 → Pure Try.prog 23 #[.agg #[.int .i64 3, vg], .int .i64 50, .int .i64 6] H (fun H' r => ∃ v vh, r = .tuple #[.agg #[v, .bool true], vh, .int .i64 0] ∧ SliceRep H' CandL v [cA, cB] ∧ SliceRep H' I64 vh [2, 1, 0]) := fun H vg hg => by
    have := pmake_c (N := 3) (k := 50) (s := 6) hg g3_valid g3_tree (by omega) (by omega)
    rw [g3_all, g3_pot'] at this; exact this
  have hM3 : ∀ H vg, SliceRep H LinkL vg g3 → Pure Try.prog 23 #[.agg #[.int .i64 3, vg], .int .i64 51, .int .i64 6] H (fun _ r => r = .tuple #[.agg #[.slice none 0 0, .bool false], .slice none 0 0, .int .i64 1]) := fun H vg hg => by
    have := pmake_bad (N := 3) (k := 51) (s := 6) hg (by omega) (by omega) (by decide)
    rw [show argE 3 g3 [51, 50 - 51, 6] = 1 by decide] at this; exact this
  have hM4 : ∀ H vg, SliceRep H LinkL vg g3 → Pure Try.prog 23 #[.agg #[.int .i64 3, vg], .int .i64 1, .int .i64 (-1)] H (fun _ r => r = .tuple #[.agg #[.slice none 0 0, .bool false], .slice none 0 0, .int .i64 1]) := fun H vg hg => by
    have := pmake_bad (N := 3) (k := 1) (s := -1) hg (by omega) (by omega) (by decide)
    rw [show argE 3 g3 [1, 50 - 1, -1] = 1 by decide] at this; exact this
  have hM5 : ∀ H, Pure Try.prog 23 #[.agg #[.int .i64 0, .slice none 0 0], .int .i64 51, .int .i64 6] H (fun _ r => r = .tuple #[.agg #[.slice none 0 0, .bool false], .slice none 0 0, .int .i64 150]) := fun H => by
    have := pmake_bad (H := H) (N := 0) (gl := []) (k := 51) (s := 6) SliceRep.nil (by omega) (by omega) (by decide)
    rw [show argE 0 [] [51, 50 - 51, 6] = 150 by decide] at this; exact this
  have hO1 : ∀ H vg vp, SliceRep H LinkL vg g3 → SliceRep H CandL vp [cA] → Pure Try.prog 15 #[.agg #[.int .i64 3, vg], .agg #[vp, .bool false], .int .i64 1, .int .i64 3] H (fun H' r => ∃ v, r = .tuple #[.agg #[v, .bool true], .int .i64 0] ∧ SliceRep H' CandL v [cA, cB]) := fun H vg vp hg hp => by
    have := pmore_c (N := 3) (k := 1) (s := 3) (w := false) hg g3_valid g3_tree hp (by decide) (by decide) (by omega) (by omega) (by rw [g3_pot']; have := k3a; exact congrArg Prod.snd this)
    rw [g3_all] at this; exact this
  have hO2 : ∀ H vg vp, SliceRep H LinkL vg g3 → SliceRep H CandL vp [cB] → Pure Try.prog 15 #[.agg #[.int .i64 3, vg], .agg #[vp, .bool false], .int .i64 1, .int .i64 3] H (fun _ r => r = .tuple #[.agg #[.slice none 0 0, .bool false], .int .i64 160]) := fun H vg vp hg hp =>
    pmore_bad (N := 3) (k := 1) (s := 3) (w := false) hg g3_valid hp (by decide) (by decide) (by omega) (by omega) (by rw [g3_pot']; have := k3b; rw [show checkR ((3 : Nat) : Int) g3 [2, 1, 0] [cB] false = (0, 160) from this]; decide)
  refine Pure.intro Try.func9 rfl Try.ntmps9 rfl (fun E R hM hR => ?_)
  repeat (first | refine a1 ?_ | refine a3 ?_ | refine a4 ?_ | refine a5 ?_ | refine a6 ?_ | refine s_build ?_ | refine s_loadBs ?_ | refine s_loadHs ?_ | refine a7 ?_ | refine a8 ?_ | refine a9 ?_ | refine RW.storeR rfl rfl rfl rfl (by first | rfl | (simp [allOne, cellsL, one1]; done) | (simp [allOne, cellsL, one1]; first | assumption | (refine ⟨?_, ?_⟩ <;> assumption))) rfl ?_ | refine a10 ?_ | refine RW.storeR1 rfl rfl (by first | rfl | exact IsSl.one1 (by assumption) | exact IsSl.one1 (SliceRep.isSl (by assumption))) rfl rfl ?_)
  refine RW.call rfl (three19_c (H := H)) rfl rfl ?_
  rintro _ H1 ⟨vg, rfl, hg⟩ hle1
  have hg1 := hg.isSl.one1
  repeat (first | refine a1 ?_ | refine a3 ?_ | refine a4 ?_ | refine a5 ?_ | refine a6 ?_ | refine s_build ?_ | refine s_loadBs ?_ | refine s_loadHs ?_ | refine a7 ?_ | refine a8 ?_ | refine a9 ?_ | refine RW.storeR rfl rfl rfl rfl (by first | rfl | (simp [allOne, cellsL, one1]; done) | (simp [allOne, cellsL, one1]; first | assumption | (refine ⟨?_, ?_⟩ <;> assumption))) rfl ?_ | refine a10 ?_ | refine RW.storeR1 rfl rfl (by first | rfl | exact IsSl.one1 (by assumption) | exact IsSl.one1 (SliceRep.isSl (by assumption))) rfl rfl ?_)
  refine RW.alloc rfl rfl rfl (fun b1 => ?_)
  repeat (first | refine a1 ?_ | refine a3 ?_ | refine a4 ?_ | refine a5 ?_ | refine a6 ?_ | refine s_build ?_ | refine s_loadBs ?_ | refine s_loadHs ?_ | refine a7 ?_ | refine a8 ?_ | refine a9 ?_ | refine RW.storeR rfl rfl rfl rfl (by first | rfl | (simp [allOne, cellsL, one1]; done) | (simp [allOne, cellsL, one1]; first | assumption | (refine ⟨?_, ?_⟩ <;> assumption))) rfl ?_ | refine a10 ?_ | refine RW.storeR1 rfl rfl (by first | rfl | exact IsSl.one1 (by assumption) | exact IsSl.one1 (SliceRep.isSl (by assumption))) rfl rfl ?_)
  refine RW.buildSlice rfl rfl rfl rfl rfl rfl rfl (fun v27 hv27 => ?_)
  obtain ⟨A27, c27, rfl, _, _⟩ := hv27
  repeat (first | refine a1 ?_ | refine a3 ?_ | refine a4 ?_ | refine a5 ?_ | refine a6 ?_ | refine s_build ?_ | refine s_loadBs ?_ | refine s_loadHs ?_ | refine a7 ?_ | refine a8 ?_ | refine a9 ?_ | refine RW.storeR rfl rfl rfl rfl (by first | rfl | (simp [allOne, cellsL, one1]; done) | (simp [allOne, cellsL, one1]; first | assumption | (refine ⟨?_, ?_⟩ <;> assumption))) rfl ?_ | refine a10 ?_ | refine RW.storeR1 rfl rfl (by first | rfl | exact IsSl.one1 (by assumption) | exact IsSl.one1 (SliceRep.isSl (by assumption))) rfl rfl ?_)
  refine RW.alloc rfl rfl rfl (fun b2 => ?_)
  repeat (first | refine a1 ?_ | refine a3 ?_ | refine a4 ?_ | refine a5 ?_ | refine a6 ?_ | refine s_build ?_ | refine s_loadBs ?_ | refine s_loadHs ?_ | refine a7 ?_ | refine a8 ?_ | refine a9 ?_ | refine RW.storeR rfl rfl rfl rfl (by first | rfl | (simp [allOne, cellsL, one1]; done) | (simp [allOne, cellsL, one1]; first | assumption | (refine ⟨?_, ?_⟩ <;> assumption))) rfl ?_ | refine a10 ?_ | refine RW.storeR1 rfl rfl (by first | rfl | exact IsSl.one1 (by assumption) | exact IsSl.one1 (SliceRep.isSl (by assumption))) rfl rfl ?_)
  refine RW.buildSlice rfl rfl rfl rfl rfl rfl rfl (fun v29 hv29 => ?_)
  obtain ⟨A29, c29, rfl, _, _⟩ := hv29
  repeat (first | refine a1 ?_ | refine a3 ?_ | refine a4 ?_ | refine a5 ?_ | refine a6 ?_ | refine s_build ?_ | refine s_loadBs ?_ | refine s_loadHs ?_ | refine a7 ?_ | refine a8 ?_ | refine a9 ?_ | refine RW.storeR rfl rfl rfl rfl (by first | rfl | (simp [allOne, cellsL, one1]; done) | (simp [allOne, cellsL, one1]; first | assumption | (refine ⟨?_, ?_⟩ <;> assumption))) rfl ?_ | refine a10 ?_ | refine RW.storeR1 rfl rfl (by first | rfl | exact IsSl.one1 (by assumption) | exact IsSl.one1 (SliceRep.isSl (by assumption))) rfl rfl ?_)
  refine RW.alloc rfl rfl rfl (fun b3 => ?_)
  repeat (first | refine a1 ?_ | refine a3 ?_ | refine a4 ?_ | refine a5 ?_ | refine a6 ?_ | refine s_build ?_ | refine s_loadBs ?_ | refine s_loadHs ?_ | refine a7 ?_ | refine a8 ?_ | refine a9 ?_ | refine RW.storeR rfl rfl rfl rfl (by first | rfl | (simp [allOne, cellsL, one1]; done) | (simp [allOne, cellsL, one1]; first | assumption | (refine ⟨?_, ?_⟩ <;> assumption))) rfl ?_ | refine a10 ?_ | refine RW.storeR1 rfl rfl (by first | rfl | exact IsSl.one1 (by assumption) | exact IsSl.one1 (SliceRep.isSl (by assumption))) rfl rfl ?_)
  refine RW.buildSlice rfl rfl rfl rfl rfl rfl rfl (fun v32 hv32 => ?_)
  obtain ⟨A32, c32, rfl, _, _⟩ := hv32
  repeat (first | refine a1 ?_ | refine a3 ?_ | refine a4 ?_ | refine a5 ?_ | refine a6 ?_ | refine s_build ?_ | refine s_loadBs ?_ | refine s_loadHs ?_ | refine a7 ?_ | refine a8 ?_ | refine a9 ?_ | refine RW.storeR rfl rfl rfl rfl (by first | rfl | (simp [allOne, cellsL, one1]; done) | (simp [allOne, cellsL, one1]; first | assumption | (refine ⟨?_, ?_⟩ <;> assumption))) rfl ?_ | refine a10 ?_ | refine RW.storeR1 rfl rfl (by first | rfl | exact IsSl.one1 (by assumption) | exact IsSl.one1 (SliceRep.isSl (by assumption))) rfl rfl ?_)
  refine RW.alloc rfl rfl rfl (fun b4 => ?_)
  repeat (first | refine a1 ?_ | refine a3 ?_ | refine a4 ?_ | refine a5 ?_ | refine a6 ?_ | refine s_build ?_ | refine s_loadBs ?_ | refine s_loadHs ?_ | refine a7 ?_ | refine a8 ?_ | refine a9 ?_ | refine RW.storeR rfl rfl rfl rfl (by first | rfl | (simp [allOne, cellsL, one1]; done) | (simp [allOne, cellsL, one1]; first | assumption | (refine ⟨?_, ?_⟩ <;> assumption))) rfl ?_ | refine a10 ?_ | refine RW.storeR1 rfl rfl (by first | rfl | exact IsSl.one1 (by assumption) | exact IsSl.one1 (SliceRep.isSl (by assumption))) rfl rfl ?_)
  refine RW.buildSlice rfl rfl rfl rfl rfl rfl rfl (fun v36 hv36 => ?_)
  obtain ⟨A36, c36, rfl, _, _⟩ := hv36
  repeat (first | refine a1 ?_ | refine a3 ?_ | refine a4 ?_ | refine a5 ?_ | refine a6 ?_ | refine s_build ?_ | refine s_loadBs ?_ | refine s_loadHs ?_ | refine a7 ?_ | refine a8 ?_ | refine a9 ?_ | refine RW.storeR rfl rfl rfl rfl (by first | rfl | (simp [allOne, cellsL, one1]; done) | (simp [allOne, cellsL, one1]; first | assumption | (refine ⟨?_, ?_⟩ <;> assumption))) rfl ?_ | refine a10 ?_ | refine RW.storeR1 rfl rfl (by first | rfl | exact IsSl.one1 (by assumption) | exact IsSl.one1 (SliceRep.isSl (by assumption))) rfl rfl ?_)
  refine RW.alloc rfl rfl rfl (fun b5 => ?_)
  repeat (first | refine a1 ?_ | refine a3 ?_ | refine a4 ?_ | refine a5 ?_ | refine a6 ?_ | refine s_build ?_ | refine s_loadBs ?_ | refine s_loadHs ?_ | refine a7 ?_ | refine a8 ?_ | refine a9 ?_ | refine RW.storeR rfl rfl rfl rfl (by first | rfl | (simp [allOne, cellsL, one1]; done) | (simp [allOne, cellsL, one1]; first | assumption | (refine ⟨?_, ?_⟩ <;> assumption))) rfl ?_ | refine a10 ?_ | refine RW.storeR1 rfl rfl (by first | rfl | exact IsSl.one1 (by assumption) | exact IsSl.one1 (SliceRep.isSl (by assumption))) rfl rfl ?_)
  refine RW.freeze (H := H1) (.slice A27 2 c27) hM (fun H2 hle2 hs2 hc2 => ?_)
  refine RW.freeze (H := H2) (.slice A29 1 c29) hM (fun H3 hle3 hs3 hc3 => ?_)
  refine RW.freeze (H := H3) (.slice A32 1 c32) hM (fun H4 hle4 hs4 hc4 => ?_)
  refine RW.freeze (H := H4) (.slice A36 2 c36) hM (fun H5 hle5 hs5 hc5 => ?_)
  have hgA : SliceRep H3 I64 (.slice A27 2 c27) cA.links := (SliceRep.of_row hs2 rfl (ints_rep H2 [0, 1]) (Snap.le.refl _) hc2).mono hle3
  have hgB : SliceRep H3 I64 (.slice A29 1 c29) cB.links := SliceRep.of_row hs3 rfl (ints_rep H3 [2]) (Snap.le.refl _) hc3
  have hone4 : SliceRep H4 CandL (.slice A32 1 c32) [cA] := SliceRep.of_row (ys := [cA]) hs4 rfl ⟨_, _, rfl, ⟨_, rfl, hgA.mono hle4⟩, rfl⟩ (Snap.le.refl _) hc4
  have hone := hone4.mono hle5
  have hboth : SliceRep H5 CandL (.slice A36 2 c36) [cA, cB] := SliceRep.of_row (ys := [cA, cB]) hs5 rfl ⟨_, _, rfl, ⟨_, rfl, (hgA.mono hle4).mono hle5⟩, ⟨_, _, rfl, ⟨_, rfl, (hgB.mono hle4).mono hle5⟩, rfl⟩⟩ (Snap.le.refl _) hc5
  have hg5 := (((hg.mono hle2).mono hle3).mono hle4).mono hle5
  have hgB5 := (hgB.mono hle4).mono hle5
  clear hc2 hc3 hc4 hc5 hone4 hs2 hs3 hs4 hs5
  generalize Value.slice A27 2 c27 = vA at hgA ⊢
  generalize Value.slice A32 1 c32 = v1 at hone ⊢
  generalize Value.slice A36 2 c36 = v2 at hboth ⊢
  refine RW.call rfl (hM1 H5 vg hg5) rfl rfl ?_
  rintro _ H6 ⟨va, vh, rfl, hva, hvh⟩ hle6
  have hva1 := hva.isSl.one1
  repeat (first | refine a1 ?_ | refine a3 ?_ | refine a4 ?_ | refine a5 ?_ | refine a6 ?_ | refine s_build ?_ | refine s_loadBs ?_ | refine s_loadHs ?_ | refine a7 ?_ | refine a8 ?_ | refine a9 ?_ | refine RW.storeR rfl rfl rfl rfl (by first | rfl | (simp [allOne, cellsL, one1]; done) | (simp [allOne, cellsL, one1]; first | assumption | (refine ⟨?_, ?_⟩ <;> assumption))) rfl ?_ | refine a10 ?_ | refine RW.storeR1 rfl rfl (by first | rfl | exact IsSl.one1 (by assumption) | exact IsSl.one1 (SliceRep.isSl (by assumption))) rfl rfl ?_)
  refine RW.alloc rfl rfl rfl (fun b6 => ?_)
  repeat (first | refine a1 ?_ | refine a3 ?_ | refine a4 ?_ | refine a5 ?_ | refine a6 ?_ | refine s_build ?_ | refine s_loadBs ?_ | refine s_loadHs ?_ | refine a7 ?_ | refine a8 ?_ | refine a9 ?_ | refine RW.storeR rfl rfl rfl rfl (by first | rfl | (simp [allOne, cellsL, one1]; done) | (simp [allOne, cellsL, one1]; first | assumption | (refine ⟨?_, ?_⟩ <;> assumption))) rfl ?_ | refine a10 ?_ | refine RW.storeR1 rfl rfl (by first | rfl | exact IsSl.one1 (by assumption) | exact IsSl.one1 (SliceRep.isSl (by assumption))) rfl rfl ?_)
  refine RW.call rfl (hM2 H6 vg (hg5.mono hle6)) rfl rfl ?_
  rintro _ H7 ⟨vb, vh2, rfl, hvb, hvh2⟩ hle7
  have hvb1 := hvb.isSl.one1
  have hg7 := (hg5.mono hle6).mono hle7
  repeat (first | refine a1 ?_ | refine a3 ?_ | refine a4 ?_ | refine a5 ?_ | refine a6 ?_ | refine s_build ?_ | refine s_loadBs ?_ | refine s_loadHs ?_ | refine a7 ?_ | refine a8 ?_ | refine a9 ?_ | refine RW.storeR rfl rfl rfl rfl (by first | rfl | (simp [allOne, cellsL, one1]; done) | (simp [allOne, cellsL, one1]; first | assumption | (refine ⟨?_, ?_⟩ <;> assumption))) rfl ?_ | refine a10 ?_ | refine RW.storeR1 rfl rfl (by first | rfl | exact IsSl.one1 (by assumption) | exact IsSl.one1 (SliceRep.isSl (by assumption))) rfl rfl ?_)
  refine RW.alloc rfl rfl rfl (fun b9 => ?_)
  repeat (first | refine a1 ?_ | refine a3 ?_ | refine a4 ?_ | refine a5 ?_ | refine a6 ?_ | refine s_build ?_ | refine s_loadBs ?_ | refine s_loadHs ?_ | refine a7 ?_ | refine a8 ?_ | refine a9 ?_ | refine RW.storeR rfl rfl rfl rfl (by first | rfl | (simp [allOne, cellsL, one1]; done) | (simp [allOne, cellsL, one1]; first | assumption | (refine ⟨?_, ?_⟩ <;> assumption))) rfl ?_ | refine a10 ?_ | refine RW.storeR1 rfl rfl (by first | rfl | exact IsSl.one1 (by assumption) | exact IsSl.one1 (SliceRep.isSl (by assumption))) rfl rfl ?_)
  refine RW.callV rfl (hM3 H7 vg hg7) rfl rfl ?_
  rintro _ _ rfl
  repeat (first | refine a1 ?_ | refine a3 ?_ | refine a4 ?_ | refine a5 ?_ | refine a6 ?_ | refine s_build ?_ | refine s_loadBs ?_ | refine s_loadHs ?_ | refine a7 ?_ | refine a8 ?_ | refine a9 ?_ | refine RW.storeR rfl rfl rfl rfl (by first | rfl | (simp [allOne, cellsL, one1]; done) | (simp [allOne, cellsL, one1]; first | assumption | (refine ⟨?_, ?_⟩ <;> assumption))) rfl ?_ | refine a10 ?_ | refine RW.storeR1 rfl rfl (by first | rfl | exact IsSl.one1 (by assumption) | exact IsSl.one1 (SliceRep.isSl (by assumption))) rfl rfl ?_)
  refine RW.alloc rfl rfl rfl (fun b12 => ?_)
  repeat (first | refine a1 ?_ | refine a3 ?_ | refine a4 ?_ | refine a5 ?_ | refine a6 ?_ | refine s_build ?_ | refine s_loadBs ?_ | refine s_loadHs ?_ | refine a7 ?_ | refine a8 ?_ | refine a9 ?_ | refine RW.storeR rfl rfl rfl rfl (by first | rfl | (simp [allOne, cellsL, one1]; done) | (simp [allOne, cellsL, one1]; first | assumption | (refine ⟨?_, ?_⟩ <;> assumption))) rfl ?_ | refine a10 ?_ | refine RW.storeR1 rfl rfl (by first | rfl | exact IsSl.one1 (by assumption) | exact IsSl.one1 (SliceRep.isSl (by assumption))) rfl rfl ?_)
  refine RW.callV rfl (hM4 H7 vg hg7) rfl rfl ?_
  rintro _ _ rfl
  repeat (first | refine a1 ?_ | refine a3 ?_ | refine a4 ?_ | refine a5 ?_ | refine a6 ?_ | refine s_build ?_ | refine s_loadBs ?_ | refine s_loadHs ?_ | refine a7 ?_ | refine a8 ?_ | refine a9 ?_ | refine RW.storeR rfl rfl rfl rfl (by first | rfl | (simp [allOne, cellsL, one1]; done) | (simp [allOne, cellsL, one1]; first | assumption | (refine ⟨?_, ?_⟩ <;> assumption))) rfl ?_ | refine a10 ?_ | refine RW.storeR1 rfl rfl (by first | rfl | exact IsSl.one1 (by assumption) | exact IsSl.one1 (SliceRep.isSl (by assumption))) rfl rfl ?_)
  refine RW.alloc rfl rfl rfl (fun b15 => ?_)
  repeat (first | refine a1 ?_ | refine a3 ?_ | refine a4 ?_ | refine a5 ?_ | refine a6 ?_ | refine s_build ?_ | refine s_loadBs ?_ | refine s_loadHs ?_ | refine a7 ?_ | refine a8 ?_ | refine a9 ?_ | refine RW.storeR rfl rfl rfl rfl (by first | rfl | (simp [allOne, cellsL, one1]; done) | (simp [allOne, cellsL, one1]; first | assumption | (refine ⟨?_, ?_⟩ <;> assumption))) rfl ?_ | refine a10 ?_ | refine RW.storeR1 rfl rfl (by first | rfl | exact IsSl.one1 (by assumption) | exact IsSl.one1 (SliceRep.isSl (by assumption))) rfl rfl ?_)
  refine RW.callV rfl (hM5 H7) rfl rfl ?_
  rintro _ _ rfl
  repeat (first | refine a1 ?_ | refine a3 ?_ | refine a4 ?_ | refine a5 ?_ | refine a6 ?_ | refine s_build ?_ | refine s_loadBs ?_ | refine s_loadHs ?_ | refine a7 ?_ | refine a8 ?_ | refine a9 ?_ | refine RW.storeR rfl rfl rfl rfl (by first | rfl | (simp [allOne, cellsL, one1]; done) | (simp [allOne, cellsL, one1]; first | assumption | (refine ⟨?_, ?_⟩ <;> assumption))) rfl ?_ | refine a10 ?_ | refine RW.storeR1 rfl rfl (by first | rfl | exact IsSl.one1 (by assumption) | exact IsSl.one1 (SliceRep.isSl (by assumption))) rfl rfl ?_)
  refine RW.alloc rfl rfl rfl (fun b18 => ?_)
  repeat (first | refine a1 ?_ | refine a3 ?_ | refine a4 ?_ | refine a5 ?_ | refine a6 ?_ | refine s_build ?_ | refine s_loadBs ?_ | refine s_loadHs ?_ | refine a7 ?_ | refine a8 ?_ | refine a9 ?_ | refine RW.storeR rfl rfl rfl rfl (by first | rfl | (simp [allOne, cellsL, one1]; done) | (simp [allOne, cellsL, one1]; first | assumption | (refine ⟨?_, ?_⟩ <;> assumption))) rfl ?_ | refine a10 ?_ | refine RW.storeR1 rfl rfl (by first | rfl | exact IsSl.one1 (by assumption) | exact IsSl.one1 (SliceRep.isSl (by assumption))) rfl rfl ?_)
  refine RW.call rfl (hO1 H7 vg v1 hg7 ((hone.mono hle6).mono hle7)) rfl rfl ?_
  rintro _ H8 ⟨vc, rfl, hvc⟩ hle8
  have hvc1 := hvc.isSl.one1
  repeat (first | refine a1 ?_ | refine a3 ?_ | refine a4 ?_ | refine a5 ?_ | refine a6 ?_ | refine s_build ?_ | refine s_loadBs ?_ | refine s_loadHs ?_ | refine a7 ?_ | refine a8 ?_ | refine a9 ?_ | refine RW.storeR rfl rfl rfl rfl (by first | rfl | (simp [allOne, cellsL, one1]; done) | (simp [allOne, cellsL, one1]; first | assumption | (refine ⟨?_, ?_⟩ <;> assumption))) rfl ?_ | refine a10 ?_ | refine RW.storeR1 rfl rfl (by first | rfl | exact IsSl.one1 (by assumption) | exact IsSl.one1 (SliceRep.isSl (by assumption))) rfl rfl ?_)
  refine RW.alloc rfl rfl rfl (fun b21 => ?_)
  repeat (first | refine a1 ?_ | refine a3 ?_ | refine a4 ?_ | refine a5 ?_ | refine a6 ?_ | refine s_build ?_ | refine s_loadBs ?_ | refine s_loadHs ?_ | refine a7 ?_ | refine a8 ?_ | refine a9 ?_ | refine RW.storeR rfl rfl rfl rfl (by first | rfl | (simp [allOne, cellsL, one1]; done) | (simp [allOne, cellsL, one1]; first | assumption | (refine ⟨?_, ?_⟩ <;> assumption))) rfl ?_ | refine a10 ?_ | refine RW.storeR1 rfl rfl (by first | rfl | exact IsSl.one1 (by assumption) | exact IsSl.one1 (SliceRep.isSl (by assumption))) rfl rfl ?_)
  refine RW.buildSlice rfl rfl rfl rfl rfl rfl rfl (fun v77 hv77 => ?_)
  obtain ⟨A77, c77, rfl, _, _⟩ := hv77
  repeat (first | refine a1 ?_ | refine a3 ?_ | refine a4 ?_ | refine a5 ?_ | refine a6 ?_ | refine s_build ?_ | refine s_loadBs ?_ | refine s_loadHs ?_ | refine a7 ?_ | refine a8 ?_ | refine a9 ?_ | refine RW.storeR rfl rfl rfl rfl (by first | rfl | (simp [allOne, cellsL, one1]; done) | (simp [allOne, cellsL, one1]; first | assumption | (refine ⟨?_, ?_⟩ <;> assumption))) rfl ?_ | refine a10 ?_ | refine RW.storeR1 rfl rfl (by first | rfl | exact IsSl.one1 (by assumption) | exact IsSl.one1 (SliceRep.isSl (by assumption))) rfl rfl ?_)
  refine RW.freeze (H := H8) (.slice A77 1 c77) hM (fun H9 hle9 hs9 hc9 => ?_)
  have hlast : SliceRep H9 CandL (.slice A77 1 c77) [cB] := SliceRep.of_row (ys := [cB]) hs9 rfl ⟨_, _, rfl, ⟨_, rfl, (((hgB5.mono hle6).mono hle7).mono hle8).mono hle9⟩, rfl⟩ (Snap.le.refl _) hc9
  refine RW.callV rfl (hO2 H9 vg (.slice A77 1 c77) ((hg7.mono hle8).mono hle9) hlast) rfl rfl ?_
  rintro _ _ rfl
  clear hc9
  repeat (first | refine a1 ?_ | refine a3 ?_ | refine a4 ?_ | refine a5 ?_ | refine a6 ?_ | refine s_build ?_ | refine s_loadBs ?_ | refine s_loadHs ?_ | refine a7 ?_ | refine a8 ?_ | refine a9 ?_ | refine RW.storeR rfl rfl rfl rfl (by first | rfl | (simp [allOne, cellsL, one1]; done) | (simp [allOne, cellsL, one1]; first | assumption | (refine ⟨?_, ?_⟩ <;> assumption))) rfl ?_ | refine a10 ?_ | refine RW.storeR1 rfl rfl (by first | rfl | exact IsSl.one1 (by assumption) | exact IsSl.one1 (SliceRep.isSl (by assumption))) rfl rfl ?_)
  refine RW.alloc rfl rfl rfl (fun b23 => ?_)
  repeat (first | refine a1 ?_ | refine a3 ?_ | refine a4 ?_ | refine a5 ?_ | refine a6 ?_ | refine s_build ?_ | refine s_loadBs ?_ | refine s_loadHs ?_ | refine a7 ?_ | refine a8 ?_ | refine a9 ?_ | refine RW.storeR rfl rfl rfl rfl (by first | rfl | (simp [allOne, cellsL, one1]; done) | (simp [allOne, cellsL, one1]; first | assumption | (refine ⟨?_, ?_⟩ <;> assumption))) rfl ?_ | refine a10 ?_ | refine RW.storeR1 rfl rfl (by first | rfl | exact IsSl.one1 (by assumption) | exact IsSl.one1 (SliceRep.isSl (by assumption))) rfl rfl ?_)
  have hle69 := (hle7.trans hle8).trans hle9
  have one9 := (hone.mono hle6).mono hle69
  have both9 := (hboth.mono hle6).mono hle69
  have va9 := hva.mono hle69
  have vh9 := hvh.mono hle69
  have vb9 := (hvb.mono hle8).mono hle9
  have vc9 := hvc.mono hle9
  have hS1 : Pure Try.prog 16 #[.agg #[va, .bool false], .agg #[v1, .bool false]] H9 (fun _ r => r = .bool true) := (rsame_c va9 one9).mono fun _ _ _ h => by rw [h]; rfl
  have hS2 : Pure Try.prog 16 #[.agg #[vb, .bool true], .agg #[v2, .bool true]] H9 (fun _ r => r = .bool true) := (rsame_c vb9 both9).mono fun _ _ _ h => by rw [h]; rfl
  have hS3 : Pure Try.prog 16 #[.agg #[vc, .bool true], .agg #[v2, .bool true]] H9 (fun _ r => r = .bool true) := (rsame_c vc9 both9).mono fun _ _ _ h => by rw [h]; rfl
  have hP1 : Pure Try.prog 12 #[.agg #[v1, .bool false], .agg #[v2, .bool true]] H9 (fun _ r => r = .bool true) := (prefix_c one9 both9).mono fun _ _ _ h => by rw [h, show prefR [cA] false [cA, cB] true = true by decide]
  have hP2 : Pure Try.prog 12 #[.agg #[v2, .bool true], .agg #[v1, .bool false]] H9 (fun _ r => r = .bool false) := (prefix_c both9 one9).mono fun _ _ _ h => by rw [h, show prefR [cA, cB] true [cA] false = false by decide]
  have hP3 : Pure Try.prog 12 #[.agg #[.slice none 0 0, .bool false], .agg #[v1, .bool false]] H9 (fun _ r => r = .bool true) := (prefix_c (xs := []) SliceRep.nil one9).mono fun _ _ _ h => by rw [h, show prefR [] false [cA] false = true by decide]
  have hP4 : Pure Try.prog 12 #[.agg #[.slice none 0 0, .bool true], .agg #[v1, .bool false]] H9 (fun _ r => r = .bool false) := (prefix_c (xs := []) SliceRep.nil one9).mono fun _ _ _ h => by rw [h, show prefR [] true [cA] false = false by decide]
  have hP5 : Pure Try.prog 12 #[.agg #[v2, .bool true], .agg #[v2, .bool true]] H9 (fun _ r => r = .bool true) := (prefix_c both9 both9).mono fun _ _ _ h => by rw [h, show prefR [cA, cB] true [cA, cB] true = true by decide]
  refine RW.callV rfl (hS1) rfl rfl ?_
  rintro _ _ rfl
  repeat (first | refine a1 ?_ | refine a3 ?_ | refine a4 ?_ | refine a5 ?_ | refine a6 ?_ | refine s_build ?_ | refine s_loadBs ?_ | refine s_loadHs ?_ | refine a7 ?_ | refine a8 ?_ | refine a9 ?_ | refine RW.storeR rfl rfl rfl rfl (by first | rfl | (simp [allOne, cellsL, one1]; done) | (simp [allOne, cellsL, one1]; first | assumption | (refine ⟨?_, ?_⟩ <;> assumption))) rfl ?_ | refine a10 ?_ | refine RW.storeR1 rfl rfl (by first | rfl | exact IsSl.one1 (by assumption) | exact IsSl.one1 (SliceRep.isSl (by assumption))) rfl rfl ?_)
  refine RW.callV rfl (hS2) rfl rfl ?_
  rintro _ _ rfl
  repeat (first | refine a1 ?_ | refine a3 ?_ | refine a4 ?_ | refine a5 ?_ | refine a6 ?_ | refine s_build ?_ | refine s_loadBs ?_ | refine s_loadHs ?_ | refine a7 ?_ | refine a8 ?_ | refine a9 ?_ | refine RW.storeR rfl rfl rfl rfl (by first | rfl | (simp [allOne, cellsL, one1]; done) | (simp [allOne, cellsL, one1]; first | assumption | (refine ⟨?_, ?_⟩ <;> assumption))) rfl ?_ | refine a10 ?_ | refine RW.storeR1 rfl rfl (by first | rfl | exact IsSl.one1 (by assumption) | exact IsSl.one1 (SliceRep.isSl (by assumption))) rfl rfl ?_)
  refine RW.callV rfl (hS3) rfl rfl ?_
  rintro _ _ rfl
  repeat (first | refine a1 ?_ | refine a3 ?_ | refine a4 ?_ | refine a5 ?_ | refine a6 ?_ | refine s_build ?_ | refine s_loadBs ?_ | refine s_loadHs ?_ | refine a7 ?_ | refine a8 ?_ | refine a9 ?_ | refine RW.storeR rfl rfl rfl rfl (by first | rfl | (simp [allOne, cellsL, one1]; done) | (simp [allOne, cellsL, one1]; first | assumption | (refine ⟨?_, ?_⟩ <;> assumption))) rfl ?_ | refine a10 ?_ | refine RW.storeR1 rfl rfl (by first | rfl | exact IsSl.one1 (by assumption) | exact IsSl.one1 (SliceRep.isSl (by assumption))) rfl rfl ?_)
  refine RW.buildSlice rfl rfl rfl rfl rfl rfl rfl (fun v126 hv126 => ?_)
  refine RW.freeze (H := H9) v126 hM (fun Ha126 hlea hsa hca => ?_)
  have hh126 : SliceRep Ha126 I64 v126 [2, 1, 0] := SliceRep.of_row hsa rfl (ints_rep Ha126 [2, 1, 0]) (Snap.le.refl _) hca
  have hI : Pure Try.prog 14 #[vh, v126] Ha126 (fun _ r => r = .bool true) := (ints_c (vh9.mono hlea) hh126).mono fun _ _ _ h => by rw [h]; rfl
  refine RW.callV rfl (hI) rfl rfl ?_
  rintro _ _ rfl
  clear hca hsa hlea
  repeat (first | refine a1 ?_ | refine a3 ?_ | refine a4 ?_ | refine a5 ?_ | refine a6 ?_ | refine s_build ?_ | refine s_loadBs ?_ | refine s_loadHs ?_ | refine a7 ?_ | refine a8 ?_ | refine a9 ?_ | refine RW.storeR rfl rfl rfl rfl (by first | rfl | (simp [allOne, cellsL, one1]; done) | (simp [allOne, cellsL, one1]; first | assumption | (refine ⟨?_, ?_⟩ <;> assumption))) rfl ?_ | refine a10 ?_ | refine RW.storeR1 rfl rfl (by first | rfl | exact IsSl.one1 (by assumption) | exact IsSl.one1 (SliceRep.isSl (by assumption))) rfl rfl ?_)
  refine RW.callV rfl (hP1) rfl rfl ?_
  rintro _ _ rfl
  repeat (first | refine a1 ?_ | refine a3 ?_ | refine a4 ?_ | refine a5 ?_ | refine a6 ?_ | refine s_build ?_ | refine s_loadBs ?_ | refine s_loadHs ?_ | refine a7 ?_ | refine a8 ?_ | refine a9 ?_ | refine RW.storeR rfl rfl rfl rfl (by first | rfl | (simp [allOne, cellsL, one1]; done) | (simp [allOne, cellsL, one1]; first | assumption | (refine ⟨?_, ?_⟩ <;> assumption))) rfl ?_ | refine a10 ?_ | refine RW.storeR1 rfl rfl (by first | rfl | exact IsSl.one1 (by assumption) | exact IsSl.one1 (SliceRep.isSl (by assumption))) rfl rfl ?_)
  refine RW.callV rfl (hP2) rfl rfl ?_
  rintro _ _ rfl
  repeat (first | refine a1 ?_ | refine a3 ?_ | refine a4 ?_ | refine a5 ?_ | refine a6 ?_ | refine s_build ?_ | refine s_loadBs ?_ | refine s_loadHs ?_ | refine a7 ?_ | refine a8 ?_ | refine a9 ?_ | refine RW.storeR rfl rfl rfl rfl (by first | rfl | (simp [allOne, cellsL, one1]; done) | (simp [allOne, cellsL, one1]; first | assumption | (refine ⟨?_, ?_⟩ <;> assumption))) rfl ?_ | refine a10 ?_ | refine RW.storeR1 rfl rfl (by first | rfl | exact IsSl.one1 (by assumption) | exact IsSl.one1 (SliceRep.isSl (by assumption))) rfl rfl ?_)
  refine RW.callV rfl (hP3) rfl rfl ?_
  rintro _ _ rfl
  repeat (first | refine a1 ?_ | refine a3 ?_ | refine a4 ?_ | refine a5 ?_ | refine a6 ?_ | refine s_build ?_ | refine s_loadBs ?_ | refine s_loadHs ?_ | refine a7 ?_ | refine a8 ?_ | refine a9 ?_ | refine RW.storeR rfl rfl rfl rfl (by first | rfl | (simp [allOne, cellsL, one1]; done) | (simp [allOne, cellsL, one1]; first | assumption | (refine ⟨?_, ?_⟩ <;> assumption))) rfl ?_ | refine a10 ?_ | refine RW.storeR1 rfl rfl (by first | rfl | exact IsSl.one1 (by assumption) | exact IsSl.one1 (SliceRep.isSl (by assumption))) rfl rfl ?_)
  refine RW.callV rfl (hP4) rfl rfl ?_
  rintro _ _ rfl
  repeat (first | refine a1 ?_ | refine a3 ?_ | refine a4 ?_ | refine a5 ?_ | refine a6 ?_ | refine s_build ?_ | refine s_loadBs ?_ | refine s_loadHs ?_ | refine a7 ?_ | refine a8 ?_ | refine a9 ?_ | refine RW.storeR rfl rfl rfl rfl (by first | rfl | (simp [allOne, cellsL, one1]; done) | (simp [allOne, cellsL, one1]; first | assumption | (refine ⟨?_, ?_⟩ <;> assumption))) rfl ?_ | refine a10 ?_ | refine RW.storeR1 rfl rfl (by first | rfl | exact IsSl.one1 (by assumption) | exact IsSl.one1 (SliceRep.isSl (by assumption))) rfl rfl ?_)
  refine RW.callV rfl (hP5) rfl rfl ?_
  rintro _ _ rfl
  repeat (first | refine a1 ?_ | refine a3 ?_ | refine a4 ?_ | refine a5 ?_ | refine a6 ?_ | refine s_build ?_ | refine s_loadBs ?_ | refine s_loadHs ?_ | refine a7 ?_ | refine a8 ?_ | refine a9 ?_ | refine RW.storeR rfl rfl rfl rfl (by first | rfl | (simp [allOne, cellsL, one1]; done) | (simp [allOne, cellsL, one1]; first | assumption | (refine ⟨?_, ?_⟩ <;> assumption))) rfl ?_ | refine a10 ?_ | refine RW.storeR1 rfl rfl (by first | rfl | exact IsSl.one1 (by assumption) | exact IsSl.one1 (SliceRep.isSl (by assumption))) rfl rfl ?_)
  refine Runs.ret1 Try.func9 Try.results9 rfl (fun w hm => hR _ w _ H _ (List.mem_cons_self ..) (Snap.le.refl _) ?_ hm)
  rfl
end Go.Proofs.Ytjdhcblofkkibaa

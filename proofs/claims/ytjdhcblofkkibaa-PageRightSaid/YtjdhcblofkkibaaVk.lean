/-
  The law PageRight. Conditions: the arguments' form.
-/
import Derived.Test.YtjdhcblofkkibaaVg
namespace Go.Proofs.Ytjdhcblofkkibaa
open Go Go.RowKit

theorem QF.min3 {P : Program} {l : Env} {x y z : Operand} {ts : Array TypeId} {k : IntKind} {a b c : Int} (hx : opv l x = some (.int k a)) (hy : opv l y = some (.int k b)) (hz : opv l z = some (.int k c)) : QF P l (.call ⟨.builtin .min, #[x, y, z], ts⟩) (.int k (if c < (if b < a then b else a) then c else (if b < a then b else a))) := by
  intro o ho ρ hρ w
  simp [execOp, ho, resolve, invoke, builtin, hρ _ _ hx, hρ _ _ hy, hρ _ _ hz, Builtin.min_, Builtin.min2]
set_option maxHeartbeats 8000000 in
theorem right19_c {H : Snap} {n w0 w1 w2 w3 : Int} {vL : Value} {xs : List (Int × Int × Int)} (hl : SliceRep H TriL vL xs) (hn : isByte n) (hx : ∀ x ∈ xs, triOk x) (h0 : isByte w0) (h1 : isByte w1) (h2 : isByte w2) (h3 : isByte w3) :
    Pure Try.prog 8 #[.agg #[.int .u8 n, vL], .agg #[.int .u8 w0, .int .u8 w1, .int .u8 w2, .int .u8 w3]] H (fun _ r => r = .bool true) := by
  have hg := made_valid n hx
  have hgl14 := madeL_length n xs
  have hT := made_tree n xs
  unfold isByte at h0 h1 h2 h3
  refine Pure.intro Try.func8 rfl Try.ntmps8 rfl (fun E R hM hR => ?_)
  repeat (first | refine a1 ?_ | refine a3 ?_ | refine a4 ?_ | refine a5 ?_ | refine a6 ?_ | refine s_loadBs ?_ | refine s_loadHs ?_ | refine s_indexArrT ?_ | refine s_indexArrB ?_ | refine s_loadB ?_ | refine s_loadH ?_ | refine s_loadR ?_ | refine s_rem ?_ | refine s_convI ?_ | refine s_fieldB ?_ | refine s_fieldV ?_ | refine s_len ?_ | refine s_lenR ?_ | refine s_quo ?_ | refine s_min ?_ | refine s_addI ?_ | refine s_eqlB ?_ | refine a7 ?_ | refine a8 ?_ | refine a9 ?_ | refine RW.storeR rfl rfl rfl rfl (by first | rfl | (simp [allOne, cellsL, one1]; done) | (simp [allOne, cellsL, one1]; first | assumption | (refine ⟨?_, ?_⟩ <;> assumption))) rfl ?_ | refine a10 ?_ | refine RW.storeR1 rfl rfl (by first | rfl | exact IsSl.one1 (by assumption) | exact IsSl.one1 (SliceRep.isSl (by assumption))) rfl rfl ?_)
  refine RW.box rfl rfl rfl rfl (fun b2 => ?_)
  refine RW.box rfl rfl rfl rfl (fun b3 => ?_)
  repeat (first | refine a1 ?_ | refine a3 ?_ | refine a4 ?_ | refine a5 ?_ | refine a6 ?_ | refine s_loadBs ?_ | refine s_loadHs ?_ | refine s_indexArrT ?_ | refine s_indexArrB ?_ | refine s_loadB ?_ | refine s_loadH ?_ | refine s_loadR ?_ | refine s_rem ?_ | refine s_convI ?_ | refine s_fieldB ?_ | refine s_fieldV ?_ | refine s_len ?_ | refine s_lenR ?_ | refine s_quo ?_ | refine s_min ?_ | refine s_addI ?_ | refine s_eqlB ?_ | refine a7 ?_ | refine a8 ?_ | refine a9 ?_ | refine RW.storeR rfl rfl rfl rfl (by first | rfl | (simp [allOne, cellsL, one1]; done) | (simp [allOne, cellsL, one1]; first | assumption | (refine ⟨?_, ?_⟩ <;> assumption))) rfl ?_ | refine a10 ?_ | refine RW.storeR1 rfl rfl (by first | rfl | exact IsSl.one1 (by assumption) | exact IsSl.one1 (SliceRep.isSl (by assumption))) rfl rfl ?_)
  refine RW.callV rfl (sanity19_c (H := H)) rfl rfl ?_
  rintro _ _ rfl
  repeat (first | refine a1 ?_ | refine a3 ?_ | refine a4 ?_ | refine a5 ?_ | refine a6 ?_ | refine s_loadBs ?_ | refine s_loadHs ?_ | refine s_indexArrT ?_ | refine s_indexArrB ?_ | refine s_loadB ?_ | refine s_loadH ?_ | refine s_loadR ?_ | refine s_rem ?_ | refine s_convI ?_ | refine s_fieldB ?_ | refine s_fieldV ?_ | refine s_len ?_ | refine s_lenR ?_ | refine s_quo ?_ | refine s_min ?_ | refine s_addI ?_ | refine s_eqlB ?_ | refine a7 ?_ | refine a8 ?_ | refine a9 ?_ | refine RW.storeR rfl rfl rfl rfl (by first | rfl | (simp [allOne, cellsL, one1]; done) | (simp [allOne, cellsL, one1]; first | assumption | (refine ⟨?_, ?_⟩ <;> assumption))) rfl ?_ | refine a10 ?_ | refine RW.storeR1 rfl rfl (by first | rfl | exact IsSl.one1 (by assumption) | exact IsSl.one1 (SliceRep.isSl (by assumption))) rfl rfl ?_)
  refine RW.call rfl (made_c hl hn hx) rfl rfl ?_
  rintro _ Hg ⟨vg, rfl, hgl⟩ hleg
  generalize hGe : madeL n xs = gl at hgl hg hgl14 hT
  generalize hNe : madeN n = N at hg hT ⊢
  obtain ⟨N, rfl⟩ : ∃ M : Nat, N = (M : Int) := ⟨N.toNat, by have := hg.1; omega⟩
  rw [Int.toNat_natCast] at hT
  have hN1 := hg.1
  have hN2 := hg.2.1
  have hall := hg.2.2.2
  have hvg1 := hgl.isSl.one1
  have hfew : (waysG gl N N 0).length ≤ 168 := ways_few hall hgl14 N 0
  have hao : (allW gl N).length = (waysG gl N N 0).length := ordered_length _
  refine RW.alloc rfl rfl rfl (fun b6 => ?_)
  repeat (first | refine a1 ?_ | refine a3 ?_ | refine a4 ?_ | refine a5 ?_ | refine a6 ?_ | refine s_loadBs ?_ | refine s_loadHs ?_ | refine s_indexArrT ?_ | refine s_indexArrB ?_ | refine s_loadB ?_ | refine s_loadH ?_ | refine s_loadR ?_ | refine s_rem ?_ | refine s_convI ?_ | refine s_fieldB ?_ | refine s_fieldV ?_ | refine s_len ?_ | refine s_lenR ?_ | refine s_quo ?_ | refine s_min ?_ | refine s_addI ?_ | refine s_eqlB ?_ | refine a7 ?_ | refine a8 ?_ | refine a9 ?_ | refine RW.storeR rfl rfl rfl rfl (by first | rfl | (simp [allOne, cellsL, one1]; done) | (simp [allOne, cellsL, one1]; first | assumption | (refine ⟨?_, ?_⟩ <;> assumption))) rfl ?_ | refine a10 ?_ | refine RW.storeR1 rfl rfl (by first | rfl | exact IsSl.one1 (by assumption) | exact IsSl.one1 (SliceRep.isSl (by assumption))) rfl rfl ?_)
  obtain ⟨k, hk⟩ : ∃ k : Nat, w0 % 51 = (k : Int) := ⟨(w0 % 51).toNat, by omega⟩
  obtain ⟨s, hs⟩ : ∃ s : Nat, w1 = (s : Int) := ⟨w1.toNat, by omega⟩
  obtain ⟨k2, hk2⟩ : ∃ k : Nat, w2 % 51 = (k : Int) := ⟨(w2 % 51).toNat, by omega⟩
  obtain ⟨s3, hs3⟩ : ∃ s : Nat, w3 = (s : Int) := ⟨w3.toNat, by omega⟩
  subst hs
  subst hs3
  rw [hk]
  repeat (first | refine a1 ?_ | refine a3 ?_ | refine a4 ?_ | refine a5 ?_ | refine a6 ?_ | refine s_loadBs ?_ | refine s_loadHs ?_ | refine s_indexArrT ?_ | refine s_indexArrB ?_ | refine s_loadB ?_ | refine s_loadH ?_ | refine s_loadR ?_ | refine s_rem ?_ | refine s_convI ?_ | refine s_fieldB ?_ | refine s_fieldV ?_ | refine s_len ?_ | refine s_lenR ?_ | refine s_quo ?_ | refine s_min ?_ | refine s_addI ?_ | refine s_eqlB ?_ | refine a7 ?_ | refine a8 ?_ | refine a9 ?_ | refine RW.storeR rfl rfl rfl rfl (by first | rfl | (simp [allOne, cellsL, one1]; done) | (simp [allOne, cellsL, one1]; first | assumption | (refine ⟨?_, ?_⟩ <;> assumption))) rfl ?_ | refine a10 ?_ | refine RW.storeR1 rfl rfl (by first | rfl | exact IsSl.one1 (by assumption) | exact IsSl.one1 (SliceRep.isSl (by assumption))) rfl rfl ?_)
  have hk50 : k ≤ 50 := by omega
  have hk250 : k2 ≤ 50 := by omega
  have hs255 : s ≤ 255 := by omega
  have hs3255 : s3 ≤ 255 := by omega
  have hM0 := made19_c (N := N) (k := k) (s := s) hgl hg hT (by omega) (by omega)
  obtain ⟨q, hq⟩ : ∃ q, q = s / N := ⟨_, rfl⟩
  obtain ⟨q3, hq3⟩ : ∃ q, q = s3 / N := ⟨_, rfl⟩
  have hqi : (s : Int) / (N : Int) = (q : Int) := by rw [hq]; simp
  have hqi3 : (s3 : Int) / (N : Int) = (q3 : Int) := by rw [hq3]; simp
  rw [← hq] at hM0
  obtain ⟨m, hm⟩ : ∃ m, m = min k q := ⟨_, rfl⟩
  rw [← hm] at hM0
  refine RW.call rfl (hM0) rfl rfl ?_
  rintro _ Ha ⟨va, vha, rfl, hva, hvha⟩ hlea
  have hva1 := hva.isSl.one1
  have hvha1 := hvha.isSl.one1
  have hvas := hva.isSl
  have hlm : ((allW gl N).take m).length = min m (allW gl N).length := List.length_take
  obtain ⟨A, hA⟩ : ∃ A, A = (allW gl N).length := ⟨_, rfl⟩
  have hA168 : A ≤ 168 := by omega
  rw [hlm, ← hA] at hvas
  repeat (first | refine a1 ?_ | refine a3 ?_ | refine a4 ?_ | refine a5 ?_ | refine a6 ?_ | refine s_loadBs ?_ | refine s_loadHs ?_ | refine s_indexArrT ?_ | refine s_indexArrB ?_ | refine s_loadB ?_ | refine s_loadH ?_ | refine s_loadR ?_ | refine s_rem ?_ | refine s_convI ?_ | refine s_fieldB ?_ | refine s_fieldV ?_ | refine s_len ?_ | refine s_lenR ?_ | refine s_quo ?_ | refine s_min ?_ | refine s_addI ?_ | refine s_eqlB ?_ | refine a7 ?_ | refine a8 ?_ | refine a9 ?_ | refine RW.storeR rfl rfl rfl rfl (by first | rfl | (simp [allOne, cellsL, one1]; done) | (simp [allOne, cellsL, one1]; first | assumption | (refine ⟨?_, ?_⟩ <;> assumption))) rfl ?_ | refine a10 ?_ | refine RW.storeR1 rfl rfl (by first | rfl | exact IsSl.one1 (by assumption) | exact IsSl.one1 (SliceRep.isSl (by assumption))) rfl rfl ?_)
  refine RW.alloc rfl rfl rfl (fun b7 => ?_)
  repeat (first | refine a1 ?_ | refine a3 ?_ | refine a4 ?_ | refine a5 ?_ | refine a6 ?_ | refine s_loadBs ?_ | refine s_loadHs ?_ | refine s_indexArrT ?_ | refine s_indexArrB ?_ | refine s_loadB ?_ | refine s_loadH ?_ | refine s_loadR ?_ | refine s_rem ?_ | refine s_convI ?_ | refine s_fieldB ?_ | refine s_fieldV ?_ | refine s_len ?_ | refine s_lenR ?_ | refine s_quo ?_ | refine s_min ?_ | refine s_addI ?_ | refine s_eqlB ?_ | refine a7 ?_ | refine a8 ?_ | refine a9 ?_ | refine RW.storeR rfl rfl rfl rfl (by first | rfl | (simp [allOne, cellsL, one1]; done) | (simp [allOne, cellsL, one1]; first | assumption | (refine ⟨?_, ?_⟩ <;> assumption))) rfl ?_ | refine a10 ?_ | refine RW.storeR1 rfl rfl (by first | rfl | exact IsSl.one1 (by assumption) | exact IsSl.one1 (SliceRep.isSl (by assumption))) rfl rfl ?_)
  have h50 : ¬ (50 : Int) < ((min m A : Nat) : Int) := by omega
  rw [decide_eq_false h50]
  repeat (first | refine a1 ?_ | refine a3 ?_ | refine a4 ?_ | refine a5 ?_ | refine a6 ?_ | refine s_loadBs ?_ | refine s_loadHs ?_ | refine s_indexArrT ?_ | refine s_indexArrB ?_ | refine s_loadB ?_ | refine s_loadH ?_ | refine s_loadR ?_ | refine s_rem ?_ | refine s_convI ?_ | refine s_fieldB ?_ | refine s_fieldV ?_ | refine s_len ?_ | refine s_lenR ?_ | refine s_quo ?_ | refine s_min ?_ | refine s_addI ?_ | refine s_eqlB ?_ | refine a7 ?_ | refine a8 ?_ | refine a9 ?_ | refine RW.storeR rfl rfl rfl rfl (by first | rfl | (simp [allOne, cellsL, one1]; done) | (simp [allOne, cellsL, one1]; first | assumption | (refine ⟨?_, ?_⟩ <;> assumption))) rfl ?_ | refine a10 ?_ | refine RW.storeR1 rfl rfl (by first | rfl | exact IsSl.one1 (by assumption) | exact IsSl.one1 (SliceRep.isSl (by assumption))) rfl rfl ?_)
  have hgl2 := hgl.mono hlea
  have hNum : Pure Try.prog 21 #[.agg #[.int .i64 (N : Int), vg]] Ha (fun _ r => r = .int .i64 ((allW gl N).length : Int)) := (bnum_c (N := N) hgl2 hg).mono fun _ _ _ ⟨t, h, e⟩ => by
    rw [e, num_zero hg h, capN_few (by unfold nWays; omega), nWays, hao]
  rw [← hA] at hNum
  refine RW.callV rfl (hNum) rfl rfl ?_
  rintro _ _ rfl
  have hLx : ∀ m, ∀ x ∈ (allW gl N).take m, x.links.length ≤ 1000000 := fun m x hx => by have := allW_links hall (List.mem_of_mem_take hx); omega
  have hC1 := bcheck_c (N := (N : Int)) (w := wholeB (allW gl N) m) hgl2 hvha hva (by rw [hlm]; omega) (hLx m)
  have hcf : checkR N gl (pot gl N) ((allW gl N).take m) (wholeB (allW gl N) m) = (((min m A : Nat) : Int), 0) := by rw [hA]; exact check_first hg m
  rw [hcf] at hC1
  dsimp only at hC1
  repeat (first | refine a1 ?_ | refine a3 ?_ | refine a4 ?_ | refine a5 ?_ | refine a6 ?_ | refine s_loadBs ?_ | refine s_loadHs ?_ | refine s_indexArrT ?_ | refine s_indexArrB ?_ | refine s_loadB ?_ | refine s_loadH ?_ | refine s_loadR ?_ | refine s_rem ?_ | refine s_convI ?_ | refine s_fieldB ?_ | refine s_fieldV ?_ | refine s_len ?_ | refine s_lenR ?_ | refine s_quo ?_ | refine s_min ?_ | refine s_addI ?_ | refine s_eqlB ?_ | refine a7 ?_ | refine a8 ?_ | refine a9 ?_ | refine RW.storeR rfl rfl rfl rfl (by first | rfl | (simp [allOne, cellsL, one1]; done) | (simp [allOne, cellsL, one1]; first | assumption | (refine ⟨?_, ?_⟩ <;> assumption))) rfl ?_ | refine a10 ?_ | refine RW.storeR1 rfl rfl (by first | rfl | exact IsSl.one1 (by assumption) | exact IsSl.one1 (SliceRep.isSl (by assumption))) rfl rfl ?_)
  refine RW.q (QV.loadBp (c := [va, .bool (wholeB (allW gl N) m)]) rfl pre4) rfl rfl ?_
  repeat (first | refine a1 ?_ | refine a3 ?_ | refine a4 ?_ | refine a5 ?_ | refine a6 ?_ | refine s_loadBs ?_ | refine s_loadHs ?_ | refine s_indexArrT ?_ | refine s_indexArrB ?_ | refine s_loadB ?_ | refine s_loadH ?_ | refine s_loadR ?_ | refine s_rem ?_ | refine s_convI ?_ | refine s_fieldB ?_ | refine s_fieldV ?_ | refine s_len ?_ | refine s_lenR ?_ | refine s_quo ?_ | refine s_min ?_ | refine s_addI ?_ | refine s_eqlB ?_ | refine a7 ?_ | refine a8 ?_ | refine a9 ?_ | refine RW.storeR rfl rfl rfl rfl (by first | rfl | (simp [allOne, cellsL, one1]; done) | (simp [allOne, cellsL, one1]; first | assumption | (refine ⟨?_, ?_⟩ <;> assumption))) rfl ?_ | refine a10 ?_ | refine RW.storeR1 rfl rfl (by first | rfl | exact IsSl.one1 (by assumption) | exact IsSl.one1 (SliceRep.isSl (by assumption))) rfl rfl ?_)
  refine RW.callV rfl (hC1) rfl rfl ?_
  rintro _ _ rfl
  repeat (first | refine a1 ?_ | refine a3 ?_ | refine a4 ?_ | refine a5 ?_ | refine a6 ?_ | refine s_loadBs ?_ | refine s_loadHs ?_ | refine s_indexArrT ?_ | refine s_indexArrB ?_ | refine s_loadB ?_ | refine s_loadH ?_ | refine s_loadR ?_ | refine s_rem ?_ | refine s_convI ?_ | refine s_fieldB ?_ | refine s_fieldV ?_ | refine s_len ?_ | refine s_lenR ?_ | refine s_quo ?_ | refine s_min ?_ | refine s_addI ?_ | refine s_eqlB ?_ | refine a7 ?_ | refine a8 ?_ | refine a9 ?_ | refine RW.storeR rfl rfl rfl rfl (by first | rfl | (simp [allOne, cellsL, one1]; done) | (simp [allOne, cellsL, one1]; first | assumption | (refine ⟨?_, ?_⟩ <;> assumption))) rfl ?_ | refine a10 ?_ | refine RW.storeR1 rfl rfl (by first | rfl | exact IsSl.one1 (by assumption) | exact IsSl.one1 (SliceRep.isSl (by assumption))) rfl rfl ?_)
  refine Runs.regionD _ _ [] (fun x hx => List.mem_cons_of_mem _ hx) (List.Sublist.refl _) (by kernel_rfl) ?_
  (first | refine t_indexArrT 0 ?_ | refine t_indexArrB 0 ?_)
  (first | refine t_loadB 1 ?_ | refine t_loadH 1 ?_ | refine t_loadR 1 ?_)
  refine t_rem 2 ?_
  rw [hk]
  refine t_convI 3 ?_
  (first | refine t_indexArrT 4 ?_ | refine t_indexArrB 4 ?_)
  (first | refine t_loadB 5 ?_ | refine t_loadH 5 ?_ | refine t_loadR 5 ?_)
  refine t_convI 6 ?_
  (first | refine t_fieldB 7 ?_ | refine t_fieldV 7 ?_)
  (first | refine t_loadB 8 ?_ | refine t_loadH 8 ?_ | refine t_loadR 8 ?_)
  refine t_quo 9 ?_
  rw [hqi]
  refine d2 10 ?_
  refine DW.q 11 rfl (by kernel_rfl) (QF.min3 rfl rfl rfl).qv rfl rfl ?_
  have hw1 : (if (A : Int) < (if (q : Int) < (k : Int) then (q : Int) else (k : Int)) then (A : Int) else (if (q : Int) < (k : Int) then (q : Int) else (k : Int))) = ((min m A : Nat) : Int) := by
    repeat' split
    all_goals omega
  rw [hw1]
  refine d2 12 ?_
  refine DW.done (by kernel_rfl) ?_
  repeat (first | refine a1 ?_ | refine a3 ?_ | refine a4 ?_ | refine a5 ?_ | refine a6 ?_ | refine s_loadBs ?_ | refine s_loadHs ?_ | refine s_indexArrT ?_ | refine s_indexArrB ?_ | refine s_loadB ?_ | refine s_loadH ?_ | refine s_loadR ?_ | refine s_rem ?_ | refine s_convI ?_ | refine s_fieldB ?_ | refine s_fieldV ?_ | refine s_len ?_ | refine s_lenR ?_ | refine s_quo ?_ | refine s_min ?_ | refine s_addI ?_ | refine s_eqlB ?_ | refine a7 ?_ | refine a8 ?_ | refine a9 ?_ | refine RW.storeR rfl rfl rfl rfl (by first | rfl | (simp [allOne, cellsL, one1]; done) | (simp [allOne, cellsL, one1]; first | assumption | (refine ⟨?_, ?_⟩ <;> assumption))) rfl ?_ | refine a10 ?_ | refine RW.storeR1 rfl rfl (by first | rfl | exact IsSl.one1 (by assumption) | exact IsSl.one1 (SliceRep.isSl (by assumption))) rfl rfl ?_)
  refine RW.q (QV.loadBp (c := [va, .bool (wholeB (allW gl N) m)]) rfl pre4) rfl rfl ?_
  repeat (first | refine a1 ?_ | refine a3 ?_ | refine a4 ?_ | refine a5 ?_ | refine a6 ?_ | refine s_loadBs ?_ | refine s_loadHs ?_ | refine s_indexArrT ?_ | refine s_indexArrB ?_ | refine s_loadB ?_ | refine s_loadH ?_ | refine s_loadR ?_ | refine s_rem ?_ | refine s_convI ?_ | refine s_fieldB ?_ | refine s_fieldV ?_ | refine s_len ?_ | refine s_lenR ?_ | refine s_quo ?_ | refine s_min ?_ | refine s_addI ?_ | refine s_eqlB ?_ | refine a7 ?_ | refine a8 ?_ | refine a9 ?_ | refine RW.storeR rfl rfl rfl rfl (by first | rfl | (simp [allOne, cellsL, one1]; done) | (simp [allOne, cellsL, one1]; first | assumption | (refine ⟨?_, ?_⟩ <;> assumption))) rfl ?_ | refine a10 ?_ | refine RW.storeR1 rfl rfl (by first | rfl | exact IsSl.one1 (by assumption) | exact IsSl.one1 (SliceRep.isSl (by assumption))) rfl rfl ?_)
  rw [hk2]
  repeat (first | refine a1 ?_ | refine a3 ?_ | refine a4 ?_ | refine a5 ?_ | refine a6 ?_ | refine s_loadBs ?_ | refine s_loadHs ?_ | refine s_indexArrT ?_ | refine s_indexArrB ?_ | refine s_loadB ?_ | refine s_loadH ?_ | refine s_loadR ?_ | refine s_rem ?_ | refine s_convI ?_ | refine s_fieldB ?_ | refine s_fieldV ?_ | refine s_len ?_ | refine s_lenR ?_ | refine s_quo ?_ | refine s_min ?_ | refine s_addI ?_ | refine s_eqlB ?_ | refine a7 ?_ | refine a8 ?_ | refine a9 ?_ | refine RW.storeR rfl rfl rfl rfl (by first | rfl | (simp [allOne, cellsL, one1]; done) | (simp [allOne, cellsL, one1]; first | assumption | (refine ⟨?_, ?_⟩ <;> assumption))) rfl ?_ | refine a10 ?_ | refine RW.storeR1 rfl rfl (by first | rfl | exact IsSl.one1 (by assumption) | exact IsSl.one1 (SliceRep.isSl (by assumption))) rfl rfl ?_)
  have hO := pmore_c (N := N) (k := k2) (s := s3) (w := wholeB (allW gl N) m) hgl2 hg hT hva (by rw [hlm]; omega) (hLx m) (by omega) (by omega) (check_ok hg m)
  rw [hlm, ← hA, ← hq3] at hO
  obtain ⟨m2, hm2⟩ : ∃ m2, m2 = min (min m A + min k2 q3) 50 := ⟨_, rfl⟩
  rw [← hm2] at hO
  refine RW.call rfl (hO) rfl rfl ?_
  rintro _ Hb ⟨vb, rfl, hvb⟩ hleb
  have hvb1 := hvb.isSl.one1
  have hC2 := bcheck_c (N := (N : Int)) (w := wholeB (allW gl N) m2) (hgl2.mono hleb) (hvha.mono hleb) hvb (by rw [List.length_take]; omega) (hLx m2)
  have hcf2 : checkR N gl (pot gl N) ((allW gl N).take m2) (wholeB (allW gl N) m2) = (((min m2 A : Nat) : Int), 0) := by rw [hA]; exact check_first hg m2
  rw [hcf2] at hC2
  dsimp only at hC2
  repeat (first | refine a1 ?_ | refine a3 ?_ | refine a4 ?_ | refine a5 ?_ | refine a6 ?_ | refine s_loadBs ?_ | refine s_loadHs ?_ | refine s_indexArrT ?_ | refine s_indexArrB ?_ | refine s_loadB ?_ | refine s_loadH ?_ | refine s_loadR ?_ | refine s_rem ?_ | refine s_convI ?_ | refine s_fieldB ?_ | refine s_fieldV ?_ | refine s_len ?_ | refine s_lenR ?_ | refine s_quo ?_ | refine s_min ?_ | refine s_addI ?_ | refine s_eqlB ?_ | refine a7 ?_ | refine a8 ?_ | refine a9 ?_ | refine RW.storeR rfl rfl rfl rfl (by first | rfl | (simp [allOne, cellsL, one1]; done) | (simp [allOne, cellsL, one1]; first | assumption | (refine ⟨?_, ?_⟩ <;> assumption))) rfl ?_ | refine a10 ?_ | refine RW.storeR1 rfl rfl (by first | rfl | exact IsSl.one1 (by assumption) | exact IsSl.one1 (SliceRep.isSl (by assumption))) rfl rfl ?_)
  refine RW.alloc rfl rfl rfl (fun b12 => ?_)
  repeat (first | refine a1 ?_ | refine a3 ?_ | refine a4 ?_ | refine a5 ?_ | refine a6 ?_ | refine s_loadBs ?_ | refine s_loadHs ?_ | refine s_indexArrT ?_ | refine s_indexArrB ?_ | refine s_loadB ?_ | refine s_loadH ?_ | refine s_loadR ?_ | refine s_rem ?_ | refine s_convI ?_ | refine s_fieldB ?_ | refine s_fieldV ?_ | refine s_len ?_ | refine s_lenR ?_ | refine s_quo ?_ | refine s_min ?_ | refine s_addI ?_ | refine s_eqlB ?_ | refine a7 ?_ | refine a8 ?_ | refine a9 ?_ | refine RW.storeR rfl rfl rfl rfl (by first | rfl | (simp [allOne, cellsL, one1]; done) | (simp [allOne, cellsL, one1]; first | assumption | (refine ⟨?_, ?_⟩ <;> assumption))) rfl ?_ | refine a10 ?_ | refine RW.storeR1 rfl rfl (by first | rfl | exact IsSl.one1 (by assumption) | exact IsSl.one1 (SliceRep.isSl (by assumption))) rfl rfl ?_)
  refine RW.callV rfl (hC2) rfl rfl ?_
  rintro _ _ rfl
  repeat (first | refine a1 ?_ | refine a3 ?_ | refine a4 ?_ | refine a5 ?_ | refine a6 ?_ | refine s_loadBs ?_ | refine s_loadHs ?_ | refine s_indexArrT ?_ | refine s_indexArrB ?_ | refine s_loadB ?_ | refine s_loadH ?_ | refine s_loadR ?_ | refine s_rem ?_ | refine s_convI ?_ | refine s_fieldB ?_ | refine s_fieldV ?_ | refine s_len ?_ | refine s_lenR ?_ | refine s_quo ?_ | refine s_min ?_ | refine s_addI ?_ | refine s_eqlB ?_ | refine a7 ?_ | refine a8 ?_ | refine a9 ?_ | refine RW.storeR rfl rfl rfl rfl (by first | rfl | (simp [allOne, cellsL, one1]; done) | (simp [allOne, cellsL, one1]; first | assumption | (refine ⟨?_, ?_⟩ <;> assumption))) rfl ?_ | refine a10 ?_ | refine RW.storeR1 rfl rfl (by first | rfl | exact IsSl.one1 (by assumption) | exact IsSl.one1 (SliceRep.isSl (by assumption))) rfl rfl ?_)
  refine Runs.regionD _ _ [] (fun x hx => List.mem_cons_of_mem _ hx) (List.Sublist.refl _) (by kernel_rfl) ?_
  refine d2 0 ?_
  (first | refine t_indexArrT 1 ?_ | refine t_indexArrB 1 ?_)
  (first | refine t_loadB 2 ?_ | refine t_loadH 2 ?_ | refine t_loadR 2 ?_)
  refine t_rem 3 ?_
  rw [hk2]
  refine t_convI 4 ?_
  (first | refine t_indexArrT 5 ?_ | refine t_indexArrB 5 ?_)
  (first | refine t_loadB 6 ?_ | refine t_loadH 6 ?_ | refine t_loadR 6 ?_)
  refine t_convI 7 ?_
  (first | refine t_fieldB 8 ?_ | refine t_fieldV 8 ?_)
  (first | refine t_loadB 9 ?_ | refine t_loadH 9 ?_ | refine t_loadR 9 ?_)
  refine t_quo 10 ?_
  rw [hqi3]
  refine t_min 11 ?_
  have hw2 : (if (q3 : Int) < (k2 : Int) then (q3 : Int) else (k2 : Int)) = ((min k2 q3 : Nat) : Int) := by split <;> omega
  rw [hw2]
  refine t_addI 12 ?_
  refine d2 13 ?_
  refine DW.q 14 rfl (by kernel_rfl) (QF.min3 rfl rfl rfl).qv rfl rfl ?_
  have hw3 : (if (A : Int) < (if (50 : Int) < ((min m A : Nat) : Int) + ((min k2 q3 : Nat) : Int) then (50 : Int) else ((min m A : Nat) : Int) + ((min k2 q3 : Nat) : Int)) then (A : Int) else (if (50 : Int) < ((min m A : Nat) : Int) + ((min k2 q3 : Nat) : Int) then (50 : Int) else ((min m A : Nat) : Int) + ((min k2 q3 : Nat) : Int))) = ((min m2 A : Nat) : Int) := by
    repeat' split
    all_goals omega
  rw [hw3]
  refine d2 15 ?_
  refine DW.done (by kernel_rfl) ?_
  repeat (first | refine a1 ?_ | refine a3 ?_ | refine a4 ?_ | refine a5 ?_ | refine a6 ?_ | refine s_loadBs ?_ | refine s_loadHs ?_ | refine s_indexArrT ?_ | refine s_indexArrB ?_ | refine s_loadB ?_ | refine s_loadH ?_ | refine s_loadR ?_ | refine s_rem ?_ | refine s_convI ?_ | refine s_fieldB ?_ | refine s_fieldV ?_ | refine s_len ?_ | refine s_lenR ?_ | refine s_quo ?_ | refine s_min ?_ | refine s_addI ?_ | refine s_eqlB ?_ | refine a7 ?_ | refine a8 ?_ | refine a9 ?_ | refine RW.storeR rfl rfl rfl rfl (by first | rfl | (simp [allOne, cellsL, one1]; done) | (simp [allOne, cellsL, one1]; first | assumption | (refine ⟨?_, ?_⟩ <;> assumption))) rfl ?_ | refine a10 ?_ | refine RW.storeR1 rfl rfl (by first | rfl | exact IsSl.one1 (by assumption) | exact IsSl.one1 (SliceRep.isSl (by assumption))) rfl rfl ?_)
  rw [decide_eq_true (rfl : ((min m A : Nat) : Int) = ((min m A : Nat) : Int))]
  repeat (first | refine a1 ?_ | refine a3 ?_ | refine a4 ?_ | refine a5 ?_ | refine a6 ?_ | refine s_loadBs ?_ | refine s_loadHs ?_ | refine s_indexArrT ?_ | refine s_indexArrB ?_ | refine s_loadB ?_ | refine s_loadH ?_ | refine s_loadR ?_ | refine s_rem ?_ | refine s_convI ?_ | refine s_fieldB ?_ | refine s_fieldV ?_ | refine s_len ?_ | refine s_lenR ?_ | refine s_quo ?_ | refine s_min ?_ | refine s_addI ?_ | refine s_eqlB ?_ | refine a7 ?_ | refine a8 ?_ | refine a9 ?_ | refine RW.storeR rfl rfl rfl rfl (by first | rfl | (simp [allOne, cellsL, one1]; done) | (simp [allOne, cellsL, one1]; first | assumption | (refine ⟨?_, ?_⟩ <;> assumption))) rfl ?_ | refine a10 ?_ | refine RW.storeR1 rfl rfl (by first | rfl | exact IsSl.one1 (by assumption) | exact IsSl.one1 (SliceRep.isSl (by assumption))) rfl rfl ?_)
  have hwb : wholeB (allW gl N) m = decide (((min m A : Nat) : Int) = (A : Int)) := by
    unfold wholeB; rw [← hA, decide_eq_decide]; omega
  rw [hwb]
  generalize decide (((min m A : Nat) : Int) = (A : Int)) = bb
  rw [show (bb == bb) = true from by cases bb <;> rfl]
  repeat (first | refine a1 ?_ | refine a3 ?_ | refine a4 ?_ | refine a5 ?_ | refine a6 ?_ | refine s_loadBs ?_ | refine s_loadHs ?_ | refine s_indexArrT ?_ | refine s_indexArrB ?_ | refine s_loadB ?_ | refine s_loadH ?_ | refine s_loadR ?_ | refine s_rem ?_ | refine s_convI ?_ | refine s_fieldB ?_ | refine s_fieldV ?_ | refine s_len ?_ | refine s_lenR ?_ | refine s_quo ?_ | refine s_min ?_ | refine s_addI ?_ | refine s_eqlB ?_ | refine a7 ?_ | refine a8 ?_ | refine a9 ?_ | refine RW.storeR rfl rfl rfl rfl (by first | rfl | (simp [allOne, cellsL, one1]; done) | (simp [allOne, cellsL, one1]; first | assumption | (refine ⟨?_, ?_⟩ <;> assumption))) rfl ?_ | refine a10 ?_ | refine RW.storeR1 rfl rfl (by first | rfl | exact IsSl.one1 (by assumption) | exact IsSl.one1 (SliceRep.isSl (by assumption))) rfl rfl ?_)
  refine Runs.ret1 Try.func8 Try.results8 rfl (fun w hm => hR _ w _ H _ (List.mem_cons_self ..) (Snap.le.refl _) ?_ hm)
  rw [decide_eq_true rfl]
end Go.Proofs.Ytjdhcblofkkibaa

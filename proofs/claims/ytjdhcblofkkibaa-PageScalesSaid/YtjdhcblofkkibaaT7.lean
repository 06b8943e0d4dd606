/-
  The least costs to the last node. Conditions: the graph is valid.
-/
import Derived.Test.YtjdhcblofkkibaaT6
namespace Go.Proofs.Ytjdhcblofkkibaa
open Go Go.RowKit

def farI : Int := 1152921504606846976
/-- One more link for the least cost. -/
def stepL (t : List Int) (a : Int) (x : Lnk) : Int := if tv t x.t < 1152921504606846976 then (if tv t x.t + x.c < a then tv t x.t + x.c else a) else a
def leastT (gl : List Lnk) (t : List Int) (n : Int) : Int := gl.foldl (fun a x => if x.f = n then stepL t a x else a) farI
def IsLeast (N : Nat) (gl : List Lnk) (m : Nat) (t : List Int) : Prop :=
  t.length = N ∧ (∀ j : Int, 0 ≤ j → 0 ≤ tv t j ∧ tv t j ≤ farI) ∧ (∀ j : Nat, m ≤ j → j + 1 < N → tv t (j : Int) = leastT gl t (j : Int)) ∧ tv t ((N : Int) - 1) = 0
theorem leastT_set {gl : List Lnk} {N : Int} {t : List Int} {m : Nat} {v : Int} {j : Int} (hg : ∀ x ∈ gl, okL N x) (hm : m < t.length) (hj : (m : Int) ≤ j) : leastT gl (t.set m v) j = leastT gl t j := by
  unfold leastT
  refine foldl_congr _ _ fun a x hx => ?_
  have := hg x hx
  unfold okL at this
  by_cases hf : x.f = j
  · have e : tv (t.set m v) x.t = tv t x.t := by rw [tv_set (by omega) hm, if_neg (by omega)]
    rw [if_pos hf, if_pos hf, stepL, stepL, e]
  · rw [if_neg hf, if_neg hf]
theorem IsLeast.next {N : Nat} {gl : List Lnk} {m : Nat} {t : List Int} (hg : ∀ x ∈ gl, okL (N : Int) x) (h : IsLeast N gl (m + 1) t) (hm : m + 1 < N) (hb : 0 ≤ leastT gl t (m : Int) ∧ leastT gl t (m : Int) ≤ farI) :
    IsLeast N gl m (t.set m (leastT gl t (m : Int))) := by
  obtain ⟨h1, h2, h3, h4⟩ := h
  have hmt : m < t.length := by omega
  refine ⟨by simpa using h1, fun j hj => ?_, fun j hj hjN => ?_, ?_⟩
  · rw [tv_set hj hmt]; split
    · exact hb
    · exact h2 j hj
  · rw [tv_set (by omega) hmt, leastT_set hg hmt (by omega)]
    by_cases e : (j : Int) = (m : Int)
    · rw [if_pos e, e]
    · rw [if_neg e]; exact h3 j (by omega) hjN
  · rw [tv_set (by omega) hmt, if_neg (by omega)]; exact h4
theorem stepL_bound {t : List Int} {a : Int} {x : Lnk} (ha : 0 ≤ a ∧ a ≤ farI) (h : 0 ≤ tv t x.t ∧ tv t x.t ≤ farI) (hx : 0 ≤ x.c) : 0 ≤ stepL t a x ∧ stepL t a x ≤ farI := by
  unfold stepL; split
  · split <;> omega
  · omega

set_option maxHeartbeats 1000000 in
theorem least_c {H : Snap} {vl : Value} {N : Nat} {gl : List Lnk} {vo : Value} (hl : SliceRep H LinkL vl gl) (hvo : SliceRep H (SlL I64) vo (outsOf N gl)) (hg : validG N gl) :
    Pure Try.prog 53 #[.agg #[.int .i64 (N : Int), vl], vo] H (fun H' r => ∃ t, IsLeast N gl 0 t ∧ SliceRep H' I64 r t) := by
  have hb := hl.isSl.bound
  have hg' := hg
  obtain ⟨hN1, hN2, hlen, hall⟩ := hg
  obtain ⟨M, rfl⟩ : ∃ M, N = M + 1 := ⟨N - 1, by omega⟩
  have e1 : ((M + 1 : Nat) : Int) - 1 = (M : Int) := by omega
  have e2 : ((M + 1 : Nat) : Int) - 2 = (M : Int) - 1 := by omega
  refine Pure.intro Try.func53 rfl Try.ntmps53 rfl (fun E R hM hR => ?_)
  repeat (first | refine a1 ?_ | refine a3 ?_ | refine a4 ?_ | refine a5 ?_ | refine a6 ?_ | refine s_fieldB ?_ | refine s_fieldV ?_ | refine s_loadB ?_ | refine s_loadH ?_ | refine s_loadR ?_ | refine s_subI ?_ | refine s_index ?_ | refine s_indexR ?_ | refine s_len ?_ | refine s_lenR ?_ | refine s_addI ?_ | refine s_min ?_ | refine a7 ?_ | refine a8 ?_ | refine a9 ?_ | refine RW.storeR rfl rfl rfl rfl (by first | rfl | (simp [allOne, cellsL, one1]; done) | (simp [allOne, cellsL, one1]; first | assumption | (refine ⟨?_, ?_⟩ <;> assumption))) rfl ?_ | refine a10 ?_ | refine RW.storeR1 rfl rfl (by first | rfl | exact IsSl.one1 (by assumption) | exact IsSl.one1 (SliceRep.isSl (by assumption))) rfl rfl ?_)
  refine RW.box rfl rfl rfl rfl (fun b1 => ?_)
  repeat (first | refine a1 ?_ | refine a3 ?_ | refine a4 ?_ | refine a5 ?_ | refine a6 ?_ | refine s_fieldB ?_ | refine s_fieldV ?_ | refine s_loadB ?_ | refine s_loadH ?_ | refine s_loadR ?_ | refine s_subI ?_ | refine s_index ?_ | refine s_indexR ?_ | refine s_len ?_ | refine s_lenR ?_ | refine s_addI ?_ | refine s_min ?_ | refine a7 ?_ | refine a8 ?_ | refine a9 ?_ | refine RW.storeR rfl rfl rfl rfl (by first | rfl | (simp [allOne, cellsL, one1]; done) | (simp [allOne, cellsL, one1]; first | assumption | (refine ⟨?_, ?_⟩ <;> assumption))) rfl ?_ | refine a10 ?_ | refine RW.storeR1 rfl rfl (by first | rfl | exact IsSl.one1 (by assumption) | exact IsSl.one1 (SliceRep.isSl (by assumption))) rfl rfl ?_)
  refine RW.make rfl rfl rfl (by decide) (by omega) (by omega) rfl rfl (fun v3 hv3 => ?_)
  rw [encI_zero]
  repeat (first | refine a1 ?_ | refine a3 ?_ | refine a4 ?_ | refine a5 ?_ | refine a6 ?_ | refine s_fieldB ?_ | refine s_fieldV ?_ | refine s_loadB ?_ | refine s_loadH ?_ | refine s_loadR ?_ | refine s_subI ?_ | refine s_index ?_ | refine s_indexR ?_ | refine s_len ?_ | refine s_lenR ?_ | refine s_addI ?_ | refine s_min ?_ | refine a7 ?_ | refine a8 ?_ | refine a9 ?_ | refine RW.storeR rfl rfl rfl rfl (by first | rfl | (simp [allOne, cellsL, one1]; done) | (simp [allOne, cellsL, one1]; first | assumption | (refine ⟨?_, ?_⟩ <;> assumption))) rfl ?_ | refine a10 ?_ | refine RW.storeR1 rfl rfl (by first | rfl | exact IsSl.one1 (by assumption) | exact IsSl.one1 (SliceRep.isSl (by assumption))) rfl rfl ?_)
  rw [e2]
  refine Runs.loop (fun (s : Nat × List Int) => s.1 ≤ M ∧ IsLeast (M + 1) gl s.1 s.2) (fun s => s.1) (fun _ => [H])
    (fun s => [.row 3 1 v3 (M + 1) (encI s.2), .blk b1 29 [.int .i64 ((M + 1 : Nat) : Int), vl]])
    (fun s => [(1, vo), (2, .pointer (some ⟨b1, 0, none⟩)), (5, v3), (6, .int .i64 ((s.1 : Int) - 1))]) (M, List.replicate (M + 1) 0) ⟨Nat.le_refl _, ?_⟩ (fun h => by
      refine Runs.weak (h) (by repeat (first | exact trivial | refine And.intro rfl ?_)) (fun x hx => List.mem_cons_of_mem _ (SubH.h x hx)) (by repeat (first | exact List.nil_sublist _ | exact List.Sublist.refl _ | refine List.Sublist.cons_cons _ ?_ | refine List.Sublist.cons _ ?_))) ?_
  · exact ⟨by simp, fun j hj => by rw [tv_zero]; unfold farI; omega, fun j h1 h2 => absurd h2 (by dsimp only at h1; omega), tv_zero _ _⟩
  rintro ⟨n, t⟩ ⟨hn, hI⟩ ih
  dsimp only at hn hI ⊢
  have hbo := hvo.isSl
  rw [outsOf_length] at hbo
  repeat (first | refine a1 ?_ | refine a3 ?_ | refine a4 ?_ | refine a5 ?_ | refine a6 ?_ | refine s_fieldB ?_ | refine s_fieldV ?_ | refine s_loadB ?_ | refine s_loadH ?_ | refine s_loadR ?_ | refine s_subI ?_ | refine s_index ?_ | refine s_indexR ?_ | refine s_len ?_ | refine s_lenR ?_ | refine s_addI ?_ | refine s_min ?_ | refine a7 ?_ | refine a8 ?_ | refine a9 ?_ | refine RW.storeR rfl rfl rfl rfl (by first | rfl | (simp [allOne, cellsL, one1]; done) | (simp [allOne, cellsL, one1]; first | assumption | (refine ⟨?_, ?_⟩ <;> assumption))) rfl ?_ | refine a10 ?_ | refine RW.storeR1 rfl rfl (by first | rfl | exact IsSl.one1 (by assumption) | exact IsSl.one1 (SliceRep.isSl (by assumption))) rfl rfl ?_)
  refine Runs.cond_d rfl (fun hge => ?_) (fun hge => ?_)
  · obtain ⟨m, rfl⟩ : ∃ m, n = m + 1 := ⟨n - 1, by omega⟩
    have e3 : ((m + 1 : Nat) : Int) - 1 = (m : Int) := by omega
    rw [e3]
    have hmt : m < t.length := by rw [hI.1]; omega
    obtain ⟨vm, hvm, hcm⟩ := hvo.sl (outsOf_at (N := M + 1) (gl := gl) (i := m) (by omega))
    have hbm := hvm.isSl.bound
    have hfold := outOf_fold (fun a x => stepL t a x) gl (m : Int) farI
    repeat (first | refine a1 ?_ | refine a3 ?_ | refine a4 ?_ | refine a5 ?_ | refine a6 ?_ | refine s_fieldB ?_ | refine s_fieldV ?_ | refine s_loadB ?_ | refine s_loadH ?_ | refine s_loadR ?_ | refine s_subI ?_ | refine s_index ?_ | refine s_indexR ?_ | refine s_len ?_ | refine s_lenR ?_ | refine s_addI ?_ | refine s_min ?_ | refine a7 ?_ | refine a8 ?_ | refine a9 ?_ | refine RW.storeR rfl rfl rfl rfl (by first | rfl | (simp [allOne, cellsL, one1]; done) | (simp [allOne, cellsL, one1]; first | assumption | (refine ⟨?_, ?_⟩ <;> assumption))) rfl ?_ | refine a10 ?_ | refine RW.storeR1 rfl rfl (by first | rfl | exact IsSl.one1 (by assumption) | exact IsSl.one1 (SliceRep.isSl (by assumption))) rfl rfl ?_)
    refine RW.storeR1 rfl rfl rfl (encI_set hmt) rfl ?_
    repeat (first | refine a1 ?_ | refine a3 ?_ | refine a4 ?_ | refine a5 ?_ | refine a6 ?_ | refine s_fieldB ?_ | refine s_fieldV ?_ | refine s_loadB ?_ | refine s_loadH ?_ | refine s_loadR ?_ | refine s_subI ?_ | refine s_index ?_ | refine s_indexR ?_ | refine s_len ?_ | refine s_lenR ?_ | refine s_addI ?_ | refine s_min ?_ | refine a7 ?_ | refine a8 ?_ | refine a9 ?_ | refine RW.storeR rfl rfl rfl rfl (by first | rfl | (simp [allOne, cellsL, one1]; done) | (simp [allOne, cellsL, one1]; first | assumption | (refine ⟨?_, ?_⟩ <;> assumption))) rfl ?_ | refine a10 ?_ | refine RW.storeR1 rfl rfl (by first | rfl | exact IsSl.one1 (by assumption) | exact IsSl.one1 (SliceRep.isSl (by assumption))) rfl rfl ?_)
    refine Runs.loop (fun (s : Nat × Int) => s.1 ≤ (outOf gl (m : Int)).length ∧ s.2 = ((outOf gl (m : Int)).take s.1).foldl (fun a i => stepL t a (lnk gl i)) farI ∧ 0 ≤ s.2 ∧ s.2 ≤ farI) (fun s => (outOf gl (m : Int)).length - s.1) (fun _ => [H])
      (fun s => [.row 3 1 v3 (M + 1) (encI (t.set m s.2)), .blk b1 29 [.int .i64 ((M + 1 : Nat) : Int), vl]])
      (fun s => [(1, vo), (2, .pointer (some ⟨b1, 0, none⟩)), (5, v3), (6, .int .i64 (m : Int)), (26, vm), (27, .int .i64 ((outOf gl (m : Int)).length : Int)), (28, .int .i64 (s.1 : Int))]) (0, farI) ⟨Nat.zero_le _, rfl, by simp [farI], by simp [farI]⟩ (fun h => by
        refine Runs.weak (h) (by repeat (first | exact trivial | refine And.intro rfl ?_)) (fun x hx => List.mem_cons_of_mem _ (SubH.h x hx)) (by repeat (first | exact List.nil_sublist _ | exact List.Sublist.refl _ | refine List.Sublist.cons_cons _ ?_ | refine List.Sublist.cons _ ?_))) ?_
    rintro ⟨k, a⟩ ⟨hk, ha, hab⟩ ih2
    dsimp only at hk ha hab ⊢
    repeat (first | refine a1 ?_ | refine a3 ?_ | refine a4 ?_ | refine a5 ?_ | refine a6 ?_ | refine s_fieldB ?_ | refine s_fieldV ?_ | refine s_loadB ?_ | refine s_loadH ?_ | refine s_loadR ?_ | refine s_subI ?_ | refine s_index ?_ | refine s_indexR ?_ | refine s_len ?_ | refine s_lenR ?_ | refine s_addI ?_ | refine s_min ?_ | refine a7 ?_ | refine a8 ?_ | refine a9 ?_ | refine RW.storeR rfl rfl rfl rfl (by first | rfl | (simp [allOne, cellsL, one1]; done) | (simp [allOne, cellsL, one1]; first | assumption | (refine ⟨?_, ?_⟩ <;> assumption))) rfl ?_ | refine a10 ?_ | refine RW.storeR1 rfl rfl (by first | rfl | exact IsSl.one1 (by assumption) | exact IsSl.one1 (SliceRep.isSl (by assumption))) rfl rfl ?_)
    refine Runs.cond_d rfl (fun hlt => ?_) (fun hlt => ?_)
    · obtain ⟨oi, hoi⟩ : ∃ i, (outOf gl (m : Int))[k]? = some i := ⟨_, List.getElem?_eq_getElem (by omega)⟩
      obtain ⟨i, x, rfl, hx, hxf⟩ := outOf_at hoi
      have hxo := hall x (List.mem_of_getElem? hx)
      unfold okL at hxo
      have hil := (List.getElem?_eq_some_iff.1 hx).1
      obtain ⟨j, hj⟩ : ∃ j : Nat, x.t = (j : Int) := ⟨x.t.toNat, by omega⟩
      have hload : H.cell (vat vl (i * 4 + 1)) = some (.int .i64 (j : Int)) := by rw [← hj]; exact hl.flat hx (j := 1) rfl
      have hload3 : H.cell (vat vl (i * 4 + 3)) = some (.int .i64 x.c) := hl.flat hx (j := 3) rfl
      have hm1 : (encI (t.set m a))[m * 1]? = some (.int .i64 a) := by
        rw [encI_at1 (by simpa using hmt), tv_set (by omega) hmt, if_pos rfl]
      have hj1 : (encI (t.set m a))[j * 1]? = some (.int .i64 (tv t (j : Int))) := by
        rw [encI_at1 (by simp [hI.1]; omega), tv_set (by omega) hmt, if_neg (by omega)]
      have hjb := hI.2.1 (j : Int) (by omega)
      repeat (first | refine a1 ?_ | refine a3 ?_ | refine a4 ?_ | refine a5 ?_ | refine a6 ?_ | refine s_fieldB ?_ | refine s_fieldV ?_ | refine s_loadB ?_ | refine s_loadH ?_ | refine s_loadR ?_ | refine s_subI ?_ | refine s_index ?_ | refine s_indexR ?_ | refine s_len ?_ | refine s_lenR ?_ | refine s_addI ?_ | refine s_min ?_ | refine a7 ?_ | refine a8 ?_ | refine a9 ?_ | refine RW.storeR rfl rfl rfl rfl (by first | rfl | (simp [allOne, cellsL, one1]; done) | (simp [allOne, cellsL, one1]; first | assumption | (refine ⟨?_, ?_⟩ <;> assumption))) rfl ?_ | refine a10 ?_ | refine RW.storeR1 rfl rfl (by first | rfl | exact IsSl.one1 (by assumption) | exact IsSl.one1 (SliceRep.isSl (by assumption))) rfl rfl ?_)
      refine Runs.cond_d rfl (fun hfar => ?_) (fun hfar => ?_)
      · repeat (first | refine a1 ?_ | refine a3 ?_ | refine a4 ?_ | refine a5 ?_ | refine a6 ?_ | refine s_fieldB ?_ | refine s_fieldV ?_ | refine s_loadB ?_ | refine s_loadH ?_ | refine s_loadR ?_ | refine s_subI ?_ | refine s_index ?_ | refine s_indexR ?_ | refine s_len ?_ | refine s_lenR ?_ | refine s_addI ?_ | refine s_min ?_ | refine a7 ?_ | refine a8 ?_ | refine a9 ?_ | refine RW.storeR rfl rfl rfl rfl (by first | rfl | (simp [allOne, cellsL, one1]; done) | (simp [allOne, cellsL, one1]; first | assumption | (refine ⟨?_, ?_⟩ <;> assumption))) rfl ?_ | refine a10 ?_ | refine RW.storeR1 rfl rfl (by first | rfl | exact IsSl.one1 (by assumption) | exact IsSl.one1 (SliceRep.isSl (by assumption))) rfl rfl ?_)
        refine Runs.regionD _ _ [16] (fun x hx => List.mem_cons_of_mem _ hx) (List.Sublist.refl _) (by kernel_rfl) ?_
        refine d1 0 4 ?_
        (first | refine t_index 4 ?_ | refine t_indexR 4 ?_)
        (first | refine t_loadB 5 ?_ | refine t_loadH 5 ?_ | refine t_loadR 5 ?_)
        refine d2 6 ?_
        (first | refine t_fieldB 7 ?_ | refine t_fieldV 7 ?_)
        (first | refine t_loadB 8 ?_ | refine t_loadH 8 ?_ | refine t_loadR 8 ?_)
        refine d2 9 ?_
        (first | refine t_index 10 ?_ | refine t_indexR 10 ?_)
        (first | refine t_fieldB 11 ?_ | refine t_fieldV 11 ?_)
        (first | refine t_loadB 12 ?_ | refine t_loadH 12 ?_ | refine t_loadR 12 ?_)
        refine t_addI 13 ?_
        refine t_min 14 ?_
        (first | refine t_index 15 ?_ | refine t_indexR 15 ?_)
        (first | refine DW.storeR 16 rfl (by kernel_rfl) rfl rfl rfl (encI_set (by simpa using hmt)) rfl (by first | rfl | (simp [allOne, cellsL, one1]; done) | (simp [allOne, cellsL, one1]; first | assumption | (refine ⟨?_, ?_⟩ <;> assumption))) rfl ?_ | refine DW.storeR1 16 rfl (by kernel_rfl) rfl rfl rfl (by first | rfl | exact IsSl.one1 (by assumption) | exact IsSl.one1 (SliceRep.isSl (by assumption))) (encI_set (by simpa using hmt)) rfl ?_)
        refine DW.done (by kernel_rfl) ?_
        repeat (first | refine a1 ?_ | refine a3 ?_ | refine a4 ?_ | refine a5 ?_ | refine a6 ?_ | refine s_fieldB ?_ | refine s_fieldV ?_ | refine s_loadB ?_ | refine s_loadH ?_ | refine s_loadR ?_ | refine s_subI ?_ | refine s_index ?_ | refine s_indexR ?_ | refine s_len ?_ | refine s_lenR ?_ | refine s_addI ?_ | refine s_min ?_ | refine a7 ?_ | refine a8 ?_ | refine a9 ?_ | refine RW.storeR rfl rfl rfl rfl (by first | rfl | (simp [allOne, cellsL, one1]; done) | (simp [allOne, cellsL, one1]; first | assumption | (refine ⟨?_, ?_⟩ <;> assumption))) rfl ?_ | refine a10 ?_ | refine RW.storeR1 rfl rfl (by first | rfl | exact IsSl.one1 (by assumption) | exact IsSl.one1 (SliceRep.isSl (by assumption))) rfl rfl ?_)
        rw [List.set_set]
        have hstep : stepL t a x = if tv t (j : Int) + x.c < a then tv t (j : Int) + x.c else a := by rw [stepL, hj, if_pos hfar]
        refine Runs.weak (ih2 (k + 1, _) ⟨by dsimp only; omega, ?_, ?_⟩ (by dsimp only; omega)) (by repeat (first | exact trivial | refine And.intro rfl ?_)) (fun x hx => List.mem_cons_of_mem _ (SubH.h x hx)) (by repeat (first | exact List.nil_sublist _ | exact List.Sublist.refl _ | refine List.Sublist.cons_cons _ ?_ | refine List.Sublist.cons _ ?_))
        · dsimp only
          rw [foldl_take_succ hoi, ← ha, lnk_at hx, hstep]
          rfl
        · have := stepL_bound (x := x) hab (hI.2.1 x.t (by omega)) (by omega)
          rw [hstep] at this
          exact this
      · repeat (first | refine a1 ?_ | refine a3 ?_ | refine a4 ?_ | refine a5 ?_ | refine a6 ?_ | refine s_fieldB ?_ | refine s_fieldV ?_ | refine s_loadB ?_ | refine s_loadH ?_ | refine s_loadR ?_ | refine s_subI ?_ | refine s_index ?_ | refine s_indexR ?_ | refine s_len ?_ | refine s_lenR ?_ | refine s_addI ?_ | refine s_min ?_ | refine a7 ?_ | refine a8 ?_ | refine a9 ?_ | refine RW.storeR rfl rfl rfl rfl (by first | rfl | (simp [allOne, cellsL, one1]; done) | (simp [allOne, cellsL, one1]; first | assumption | (refine ⟨?_, ?_⟩ <;> assumption))) rfl ?_ | refine a10 ?_ | refine RW.storeR1 rfl rfl (by first | rfl | exact IsSl.one1 (by assumption) | exact IsSl.one1 (SliceRep.isSl (by assumption))) rfl rfl ?_)
        have hstep : stepL t a x = a := by rw [stepL, hj, if_neg hfar]
        refine Runs.weak (ih2 (k + 1, a) ⟨by dsimp only; omega, ?_, hab⟩ (by dsimp only; omega)) (by repeat (first | exact trivial | refine And.intro rfl ?_)) (fun x hx => List.mem_cons_of_mem _ (SubH.h x hx)) (by repeat (first | exact List.nil_sublist _ | exact List.Sublist.refl _ | refine List.Sublist.cons_cons _ ?_ | refine List.Sublist.cons _ ?_))
        dsimp only
        rw [foldl_take_succ hoi, ← ha, lnk_at hx, hstep]
    · have hke : (outOf gl (m : Int)).take k = outOf gl (m : Int) := List.take_of_length_le (by omega)
      rw [hke] at ha
      repeat (first | refine a1 ?_ | refine a3 ?_ | refine a4 ?_ | refine a5 ?_ | refine a6 ?_ | refine s_fieldB ?_ | refine s_fieldV ?_ | refine s_loadB ?_ | refine s_loadH ?_ | refine s_loadR ?_ | refine s_subI ?_ | refine s_index ?_ | refine s_indexR ?_ | refine s_len ?_ | refine s_lenR ?_ | refine s_addI ?_ | refine s_min ?_ | refine a7 ?_ | refine a8 ?_ | refine a9 ?_ | refine RW.storeR rfl rfl rfl rfl (by first | rfl | (simp [allOne, cellsL, one1]; done) | (simp [allOne, cellsL, one1]; first | assumption | (refine ⟨?_, ?_⟩ <;> assumption))) rfl ?_ | refine a10 ?_ | refine RW.storeR1 rfl rfl (by first | rfl | exact IsSl.one1 (by assumption) | exact IsSl.one1 (SliceRep.isSl (by assumption))) rfl rfl ?_)
      refine Runs.weak (ih (m, t.set m a) ⟨by dsimp only; omega, ?_⟩ (by dsimp only; omega)) (by repeat (first | exact trivial | refine And.intro rfl ?_)) (fun x hx => List.mem_cons_of_mem _ (SubH.h x hx)) (by repeat (first | exact List.nil_sublist _ | exact List.Sublist.refl _ | refine List.Sublist.cons_cons _ ?_ | refine List.Sublist.cons _ ?_))
      dsimp only
      rw [ha, hfold] at hab ⊢
      exact hI.next hall (by omega) hab
  · obtain rfl : n = 0 := by omega
    repeat (first | refine a1 ?_ | refine a3 ?_ | refine a4 ?_ | refine a5 ?_ | refine a6 ?_ | refine s_fieldB ?_ | refine s_fieldV ?_ | refine s_loadB ?_ | refine s_loadH ?_ | refine s_loadR ?_ | refine s_subI ?_ | refine s_index ?_ | refine s_indexR ?_ | refine s_len ?_ | refine s_lenR ?_ | refine s_addI ?_ | refine s_min ?_ | refine a7 ?_ | refine a8 ?_ | refine a9 ?_ | refine RW.storeR rfl rfl rfl rfl (by first | rfl | (simp [allOne, cellsL, one1]; done) | (simp [allOne, cellsL, one1]; first | assumption | (refine ⟨?_, ?_⟩ <;> assumption))) rfl ?_ | refine a10 ?_ | refine RW.storeR1 rfl rfl (by first | rfl | exact IsSl.one1 (by assumption) | exact IsSl.one1 (SliceRep.isSl (by assumption))) rfl rfl ?_)
    refine Runs.freeze (H := H) v3 hM (fun H2 hle2 hs2 hc2 => ?_)
    refine Runs.ret1 Try.func53 Try.results53 rfl (fun w hm => hR _ w _ H2 _ (by simp) (hle2) ?_ hm)
    exact ⟨t, hI, SliceRep.of_row hs2 hI.1.symm (ints_rep H2 t) (Snap.le.refl _) hc2⟩

end Go.Proofs.Ytjdhcblofkkibaa

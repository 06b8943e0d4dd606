/-
  The numbers of ways of both sides, and the least costs. Conditions: the graph is valid.
-/
import Derived.Test.YtjdhcblofkkibaaT5
namespace Go.Proofs.Ytjdhcblofkkibaa
open Go Go.RowKit

def lnk (gl : List Lnk) (i : Int) : Lnk := gl[i.toNat]?.getD ⟨0, 0, 0, 0⟩
theorem lnk_at {gl : List Lnk} {k : Nat} {x : Lnk} (h : gl[k]? = some x) : lnk gl (k : Int) = x := by simp [lnk, h]
theorem outFrom_map (n : Int) : ∀ (gl pre : List Lnk), (outFrom pre.length n gl).map (lnk (pre ++ gl)) = gl.filter (fun x => decide (x.f = n))
  | [], pre => rfl
  | x :: r, pre => by
    have ih := outFrom_map n r (pre ++ [x])
    simp only [List.append_assoc, List.cons_append, List.nil_append, List.length_append, List.length_cons, List.length_nil, Nat.zero_add] at ih
    unfold outFrom
    by_cases h : x.f = n
    · rw [if_pos h, List.map_cons, ih, List.filter_cons, if_pos (by simpa using h)]
      congr 1
      exact lnk_at (by simp)
    · rw [if_neg h, ih, List.filter_cons, if_neg (by simpa using h)]
theorem outOf_map (n : Int) (gl : List Lnk) : (outOf gl n).map (lnk gl) = gl.filter (fun x => decide (x.f = n)) := outFrom_map n gl []
theorem outOf_at {gl : List Lnk} {n : Int} {k : Nat} {i : Int} (h : (outOf gl n)[k]? = some i) : ∃ j x, i = ((j : Nat) : Int) ∧ gl[j]? = some x ∧ x.f = n := by
  obtain ⟨j, x, h1, h2, h3⟩ := (outFrom_mem gl 0 i).1 (List.mem_of_getElem? h)
  exact ⟨j, x, by simpa using h3, h1, h2⟩
theorem foldl_if {α β : Type} (p : β → Prop) [DecidablePred p] (g : α → β → α) : ∀ (l : List β) (a : α), l.foldl (fun a x => if p x then g a x else a) a = (l.filter (fun x => decide (p x))).foldl g a
  | [], a => rfl
  | x :: r, a => by
    rw [List.foldl_cons, foldl_if p g r, List.filter_cons]
    by_cases h : p x <;> simp [h]
theorem outOf_fold {α : Type} (g : α → Lnk → α) (gl : List Lnk) (n : Int) (a : α) : (outOf gl n).foldl (fun a i => g a (lnk gl i)) a = gl.foldl (fun a x => if x.f = n then g a x else a) a := by
  rw [foldl_if, ← outOf_map, List.foldl_map]

/-- One more link for the number of ways. -/
def stepN (t : List Int) (a : Int) (x : Lnk) : Int := if 1000000000 < a + tv t x.t then 1000000000 else a + tv t x.t
def numT (gl : List Lnk) (t : List Int) (n : Int) : Int := gl.foldl (fun a x => if x.f = n then stepN t a x else a) 0
def IsNum (N : Nat) (gl : List Lnk) (m : Nat) (t : List Int) : Prop :=
  t.length = N ∧ (∀ j : Int, 0 ≤ j → 0 ≤ tv t j ∧ tv t j ≤ 1000000000) ∧ (∀ j : Nat, m ≤ j → j + 1 < N → tv t (j : Int) = numT gl t (j : Int)) ∧ tv t ((N : Int) - 1) = 1 ∧ ∀ j : Nat, j < m → j + 1 < N → tv t (j : Int) = 0
theorem numT_set {gl : List Lnk} {N : Int} {t : List Int} {m : Nat} {v : Int} {j : Int} (hg : ∀ x ∈ gl, okL N x) (hm : m < t.length) (hj : (m : Int) ≤ j) : numT gl (t.set m v) j = numT gl t j := by
  unfold numT
  refine foldl_congr _ _ fun a x hx => ?_
  have := hg x hx
  unfold okL at this
  by_cases hf : x.f = j
  · have e : tv (t.set m v) x.t = tv t x.t := by rw [tv_set (by omega) hm, if_neg (by omega)]
    rw [if_pos hf, if_pos hf, stepN, stepN, e]
  · rw [if_neg hf, if_neg hf]
theorem IsNum.next {N : Nat} {gl : List Lnk} {m : Nat} {t : List Int} (hg : ∀ x ∈ gl, okL (N : Int) x) (h : IsNum N gl (m + 1) t) (hm : m + 1 < N) (hb : 0 ≤ numT gl t (m : Int) ∧ numT gl t (m : Int) ≤ 1000000000) :
    IsNum N gl m (t.set m (numT gl t (m : Int))) := by
  obtain ⟨h1, h2, h3, h4, h5⟩ := h
  have hmt : m < t.length := by omega
  refine ⟨by simpa using h1, fun j hj => ?_, fun j hj hjN => ?_, ?_, fun j hj hjN => ?_⟩
  · rw [tv_set hj hmt]; split
    · exact hb
    · exact h2 j hj
  · rw [tv_set (by omega) hmt, numT_set hg hmt (by omega)]
    by_cases e : (j : Int) = (m : Int)
    · rw [if_pos e, e]
    · rw [if_neg e]; exact h3 j (by omega) hjN
  · rw [tv_set (by omega) hmt, if_neg (by omega)]; exact h4
  · rw [tv_set (by omega) hmt, if_neg (by omega)]; exact h5 j (by omega) hjN
theorem stepN_bound {t : List Int} {a : Int} {x : Lnk} (ha : 0 ≤ a ∧ a ≤ 1000000000) (h : 0 ≤ tv t x.t ∧ tv t x.t ≤ 1000000000) : 0 ≤ stepN t a x ∧ stepN t a x ≤ 1000000000 := by
  unfold stepN; split <;> omega
theorem foldN_bound {t : List Int} (h : ∀ j : Int, 0 ≤ j → 0 ≤ tv t j ∧ tv t j ≤ 1000000000) (n : Int) : ∀ (gl : List Lnk) (a : Int), (∀ x ∈ gl, 0 ≤ x.t) → 0 ≤ a ∧ a ≤ 1000000000 →
    0 ≤ gl.foldl (fun a x => if x.f = n then stepN t a x else a) a ∧ gl.foldl (fun a x => if x.f = n then stepN t a x else a) a ≤ 1000000000
  | [], a, _, ha => ha
  | x :: r, a, hg, ha => by
    rw [List.foldl_cons]
    refine foldN_bound h n r _ (fun y hy => hg y (List.mem_cons_of_mem _ hy)) ?_
    split
    · exact stepN_bound ha (h _ (hg x (List.mem_cons_self ..)))
    · exact ha
set_option maxHeartbeats 1000000 in
theorem bnum_c {H : Snap} {vl : Value} {N : Nat} {gl : List Lnk} (hl : SliceRep H LinkL vl gl) (hg : validG N gl) :
    Pure Try.prog 21 #[.agg #[.int .i64 (N : Int), vl]] H (fun _ r => ∃ t, IsNum N gl 0 t ∧ r = .int .i64 (tv t 0)) := by
  have hb := hl.isSl.bound
  have hg' := hg
  obtain ⟨hN1, hN2, hlen, hall⟩ := hg
  obtain ⟨M, rfl⟩ : ∃ M, N = M + 1 := ⟨N - 1, by omega⟩
  have e1 : ((M + 1 : Nat) : Int) - 1 = (M : Int) := by omega
  have e2 : ((M + 1 : Nat) : Int) - 2 = (M : Int) - 1 := by omega
  refine Pure.intro Try.func21 rfl Try.ntmps21 rfl (fun E R hM hR => ?_)
  repeat (first | refine a1 ?_ | refine a3 ?_ | refine a4 ?_ | refine a5 ?_ | refine a6 ?_ | refine s_loadBs ?_ | refine s_loadHs ?_ | refine s_fieldB ?_ | refine s_fieldV ?_ | refine s_loadB ?_ | refine s_loadH ?_ | refine s_loadR ?_ | refine s_subI ?_ | refine s_index ?_ | refine s_indexR ?_ | refine s_len ?_ | refine s_lenR ?_ | refine s_addI ?_ | refine s_min ?_ | refine s_indexT ?_ | refine s_indexRT ?_ | refine a7 ?_ | refine a8 ?_ | refine a9 ?_ | refine RW.storeR rfl rfl rfl rfl (by first | rfl | (simp [allOne, cellsL, one1]; done) | (simp [allOne, cellsL, one1]; first | assumption | (refine ⟨?_, ?_⟩ <;> assumption))) rfl ?_ | refine a10 ?_ | refine RW.storeR1 rfl rfl (by first | rfl | exact IsSl.one1 (by assumption) | exact IsSl.one1 (SliceRep.isSl (by assumption))) rfl rfl ?_)
  refine RW.box rfl rfl rfl rfl (fun b1 => ?_)
  repeat (first | refine a1 ?_ | refine a3 ?_ | refine a4 ?_ | refine a5 ?_ | refine a6 ?_ | refine s_loadBs ?_ | refine s_loadHs ?_ | refine s_fieldB ?_ | refine s_fieldV ?_ | refine s_loadB ?_ | refine s_loadH ?_ | refine s_loadR ?_ | refine s_subI ?_ | refine s_index ?_ | refine s_indexR ?_ | refine s_len ?_ | refine s_lenR ?_ | refine s_addI ?_ | refine s_min ?_ | refine s_indexT ?_ | refine s_indexRT ?_ | refine a7 ?_ | refine a8 ?_ | refine a9 ?_ | refine RW.storeR rfl rfl rfl rfl (by first | rfl | (simp [allOne, cellsL, one1]; done) | (simp [allOne, cellsL, one1]; first | assumption | (refine ⟨?_, ?_⟩ <;> assumption))) rfl ?_ | refine a10 ?_ | refine RW.storeR1 rfl rfl (by first | rfl | exact IsSl.one1 (by assumption) | exact IsSl.one1 (SliceRep.isSl (by assumption))) rfl rfl ?_)
  refine RW.call rfl (out_c hl hg') rfl rfl ?_
  rintro vo Ho hvo hle
  repeat (first | refine a1 ?_ | refine a3 ?_ | refine a4 ?_ | refine a5 ?_ | refine a6 ?_ | refine s_loadBs ?_ | refine s_loadHs ?_ | refine s_fieldB ?_ | refine s_fieldV ?_ | refine s_loadB ?_ | refine s_loadH ?_ | refine s_loadR ?_ | refine s_subI ?_ | refine s_index ?_ | refine s_indexR ?_ | refine s_len ?_ | refine s_lenR ?_ | refine s_addI ?_ | refine s_min ?_ | refine s_indexT ?_ | refine s_indexRT ?_ | refine a7 ?_ | refine a8 ?_ | refine a9 ?_ | refine RW.storeR rfl rfl rfl rfl (by first | rfl | (simp [allOne, cellsL, one1]; done) | (simp [allOne, cellsL, one1]; first | assumption | (refine ⟨?_, ?_⟩ <;> assumption))) rfl ?_ | refine a10 ?_ | refine RW.storeR1 rfl rfl (by first | rfl | exact IsSl.one1 (by assumption) | exact IsSl.one1 (SliceRep.isSl (by assumption))) rfl rfl ?_)
  refine RW.make rfl rfl rfl (by decide) (by omega) (by omega) rfl rfl (fun v3 hv3 => ?_)
  rw [encI_zero]
  repeat (first | refine a1 ?_ | refine a3 ?_ | refine a4 ?_ | refine a5 ?_ | refine a6 ?_ | refine s_loadBs ?_ | refine s_loadHs ?_ | refine s_fieldB ?_ | refine s_fieldV ?_ | refine s_loadB ?_ | refine s_loadH ?_ | refine s_loadR ?_ | refine s_subI ?_ | refine s_index ?_ | refine s_indexR ?_ | refine s_len ?_ | refine s_lenR ?_ | refine s_addI ?_ | refine s_min ?_ | refine s_indexT ?_ | refine s_indexRT ?_ | refine a7 ?_ | refine a8 ?_ | refine a9 ?_ | refine RW.storeR rfl rfl rfl rfl (by first | rfl | (simp [allOne, cellsL, one1]; done) | (simp [allOne, cellsL, one1]; first | assumption | (refine ⟨?_, ?_⟩ <;> assumption))) rfl ?_ | refine a10 ?_ | refine RW.storeR1 rfl rfl (by first | rfl | exact IsSl.one1 (by assumption) | exact IsSl.one1 (SliceRep.isSl (by assumption))) rfl rfl ?_)
  rw [e1]
  repeat (first | refine a1 ?_ | refine a3 ?_ | refine a4 ?_ | refine a5 ?_ | refine a6 ?_ | refine s_loadBs ?_ | refine s_loadHs ?_ | refine s_fieldB ?_ | refine s_fieldV ?_ | refine s_loadB ?_ | refine s_loadH ?_ | refine s_loadR ?_ | refine s_subI ?_ | refine s_index ?_ | refine s_indexR ?_ | refine s_len ?_ | refine s_lenR ?_ | refine s_addI ?_ | refine s_min ?_ | refine s_indexT ?_ | refine s_indexRT ?_ | refine a7 ?_ | refine a8 ?_ | refine a9 ?_ | refine RW.storeR rfl rfl rfl rfl (by first | rfl | (simp [allOne, cellsL, one1]; done) | (simp [allOne, cellsL, one1]; first | assumption | (refine ⟨?_, ?_⟩ <;> assumption))) rfl ?_ | refine a10 ?_ | refine RW.storeR1 rfl rfl (by first | rfl | exact IsSl.one1 (by assumption) | exact IsSl.one1 (SliceRep.isSl (by assumption))) rfl rfl ?_)
  refine RW.storeR1 rfl rfl rfl (encI_set (by simp)) rfl ?_
  repeat (first | refine a1 ?_ | refine a3 ?_ | refine a4 ?_ | refine a5 ?_ | refine a6 ?_ | refine s_loadBs ?_ | refine s_loadHs ?_ | refine s_fieldB ?_ | refine s_fieldV ?_ | refine s_loadB ?_ | refine s_loadH ?_ | refine s_loadR ?_ | refine s_subI ?_ | refine s_index ?_ | refine s_indexR ?_ | refine s_len ?_ | refine s_lenR ?_ | refine s_addI ?_ | refine s_min ?_ | refine s_indexT ?_ | refine s_indexRT ?_ | refine a7 ?_ | refine a8 ?_ | refine a9 ?_ | refine RW.storeR rfl rfl rfl rfl (by first | rfl | (simp [allOne, cellsL, one1]; done) | (simp [allOne, cellsL, one1]; first | assumption | (refine ⟨?_, ?_⟩ <;> assumption))) rfl ?_ | refine a10 ?_ | refine RW.storeR1 rfl rfl (by first | rfl | exact IsSl.one1 (by assumption) | exact IsSl.one1 (SliceRep.isSl (by assumption))) rfl rfl ?_)
  rw [e2]
  refine Runs.loop (fun (s : Nat × List Int) => s.1 ≤ M ∧ IsNum (M + 1) gl s.1 s.2) (fun s => s.1) (fun _ => [Ho, H])
    (fun s => [.row 3 1 v3 (M + 1) (encI s.2), .blk b1 29 [.int .i64 ((M + 1 : Nat) : Int), vl]])
    (fun s => [(1, .pointer (some ⟨b1, 0, none⟩)), (3, vo), (4, v3), (5, .int .i64 ((s.1 : Int) - 1))]) (M, (List.replicate (M + 1) 0).set M 1) ⟨Nat.le_refl _, ?_⟩ (fun h => by
      refine Runs.weak (h) (by repeat (first | exact trivial | refine And.intro rfl ?_)) (fun x hx => List.mem_cons_of_mem _ (SubH.h x hx)) (by repeat (first | exact List.nil_sublist _ | exact List.Sublist.refl _ | refine List.Sublist.cons_cons _ ?_ | refine List.Sublist.cons _ ?_))) ?_
  · refine ⟨by simp, fun j hj => ?_, fun j h1 h2 => absurd h2 (by dsimp only at h1; omega), ?_, fun j h1 h2 => ?_⟩
    · rw [tv_set hj (by simp), tv_zero]; split <;> omega
    · rw [tv_set (by omega) (by simp), if_pos (by omega)]
    · rw [tv_set (by omega) (by simp), if_neg (by dsimp only at h1; omega), tv_zero]
  rintro ⟨n, t⟩ ⟨hn, hI⟩ ih
  dsimp only at hn hI ⊢
  have hbo := hvo.isSl
  rw [outsOf_length] at hbo
  repeat (first | refine a1 ?_ | refine a3 ?_ | refine a4 ?_ | refine a5 ?_ | refine a6 ?_ | refine s_loadBs ?_ | refine s_loadHs ?_ | refine s_fieldB ?_ | refine s_fieldV ?_ | refine s_loadB ?_ | refine s_loadH ?_ | refine s_loadR ?_ | refine s_subI ?_ | refine s_index ?_ | refine s_indexR ?_ | refine s_len ?_ | refine s_lenR ?_ | refine s_addI ?_ | refine s_min ?_ | refine s_indexT ?_ | refine s_indexRT ?_ | refine a7 ?_ | refine a8 ?_ | refine a9 ?_ | refine RW.storeR rfl rfl rfl rfl (by first | rfl | (simp [allOne, cellsL, one1]; done) | (simp [allOne, cellsL, one1]; first | assumption | (refine ⟨?_, ?_⟩ <;> assumption))) rfl ?_ | refine a10 ?_ | refine RW.storeR1 rfl rfl (by first | rfl | exact IsSl.one1 (by assumption) | exact IsSl.one1 (SliceRep.isSl (by assumption))) rfl rfl ?_)
  refine Runs.cond_d rfl (fun hge => ?_) (fun hge => ?_)
  · obtain ⟨m, rfl⟩ : ∃ m, n = m + 1 := ⟨n - 1, by omega⟩
    have e3 : ((m + 1 : Nat) : Int) - 1 = (m : Int) := by omega
    rw [e3]
    have hmt : m < t.length := by rw [hI.1]; omega
    obtain ⟨vm, hvm, hcm⟩ := hvo.sl (outsOf_at (N := M + 1) (gl := gl) (i := m) (by omega))
    have hbm := hvm.isSl.bound
    have hfold := outOf_fold (fun a x => stepN t a x) gl (m : Int) 0
    repeat (first | refine a1 ?_ | refine a3 ?_ | refine a4 ?_ | refine a5 ?_ | refine a6 ?_ | refine s_loadBs ?_ | refine s_loadHs ?_ | refine s_fieldB ?_ | refine s_fieldV ?_ | refine s_loadB ?_ | refine s_loadH ?_ | refine s_loadR ?_ | refine s_subI ?_ | refine s_index ?_ | refine s_indexR ?_ | refine s_len ?_ | refine s_lenR ?_ | refine s_addI ?_ | refine s_min ?_ | refine s_indexT ?_ | refine s_indexRT ?_ | refine a7 ?_ | refine a8 ?_ | refine a9 ?_ | refine RW.storeR rfl rfl rfl rfl (by first | rfl | (simp [allOne, cellsL, one1]; done) | (simp [allOne, cellsL, one1]; first | assumption | (refine ⟨?_, ?_⟩ <;> assumption))) rfl ?_ | refine a10 ?_ | refine RW.storeR1 rfl rfl (by first | rfl | exact IsSl.one1 (by assumption) | exact IsSl.one1 (SliceRep.isSl (by assumption))) rfl rfl ?_)
    refine Runs.loop (fun (s : Nat × Int) => s.1 ≤ (outOf gl (m : Int)).length ∧ s.2 = ((outOf gl (m : Int)).take s.1).foldl (fun a i => stepN t a (lnk gl i)) 0 ∧ 0 ≤ s.2 ∧ s.2 ≤ 1000000000) (fun s => (outOf gl (m : Int)).length - s.1) (fun _ => [Ho, H])
      (fun s => [.row 3 1 v3 (M + 1) (encI (t.set m s.2)), .blk b1 29 [.int .i64 ((M + 1 : Nat) : Int), vl]])
      (fun s => [(1, .pointer (some ⟨b1, 0, none⟩)), (3, vo), (4, v3), (5, .int .i64 (m : Int)), (28, vm), (29, .int .i64 ((outOf gl (m : Int)).length : Int)), (30, .int .i64 (s.1 : Int))]) (0, 0) ⟨Nat.zero_le _, rfl, by simp, by simp⟩ (fun h => by
        have h0 : t.set m 0 = t := by
          have : t[m]? = some 0 := by rw [tv_at hmt, hI.2.2.2.2 m (by omega) (by omega)]
          obtain ⟨h1, h2⟩ := List.getElem?_eq_some_iff.1 this
          rw [← h2]; exact List.set_getElem_self h1
        dsimp only at h
        rw [h0] at h
        refine Runs.weak (h) (by repeat (first | exact trivial | refine And.intro rfl ?_)) (fun x hx => List.mem_cons_of_mem _ (SubH.h x hx)) (by repeat (first | exact List.nil_sublist _ | exact List.Sublist.refl _ | refine List.Sublist.cons_cons _ ?_ | refine List.Sublist.cons _ ?_))) ?_
    rintro ⟨k, a⟩ ⟨hk, ha, hab⟩ ih2
    dsimp only at hk ha hab ⊢
    repeat (first | refine a1 ?_ | refine a3 ?_ | refine a4 ?_ | refine a5 ?_ | refine a6 ?_ | refine s_loadBs ?_ | refine s_loadHs ?_ | refine s_fieldB ?_ | refine s_fieldV ?_ | refine s_loadB ?_ | refine s_loadH ?_ | refine s_loadR ?_ | refine s_subI ?_ | refine s_index ?_ | refine s_indexR ?_ | refine s_len ?_ | refine s_lenR ?_ | refine s_addI ?_ | refine s_min ?_ | refine s_indexT ?_ | refine s_indexRT ?_ | refine a7 ?_ | refine a8 ?_ | refine a9 ?_ | refine RW.storeR rfl rfl rfl rfl (by first | rfl | (simp [allOne, cellsL, one1]; done) | (simp [allOne, cellsL, one1]; first | assumption | (refine ⟨?_, ?_⟩ <;> assumption))) rfl ?_ | refine a10 ?_ | refine RW.storeR1 rfl rfl (by first | rfl | exact IsSl.one1 (by assumption) | exact IsSl.one1 (SliceRep.isSl (by assumption))) rfl rfl ?_)
    refine Runs.cond_d rfl (fun hlt => ?_) (fun hlt => ?_)
    · obtain ⟨oi, hoi⟩ : ∃ i, (outOf gl (m : Int))[k]? = some i := ⟨_, List.getElem?_eq_getElem (by omega)⟩
      obtain ⟨i, x, rfl, hx, hxf⟩ := outOf_at hoi
      have hxo := hall x (List.mem_of_getElem? hx)
      unfold okL at hxo
      have hil := (List.getElem?_eq_some_iff.1 hx).1
      obtain ⟨j, hj⟩ : ∃ j : Nat, x.t = (j : Int) := ⟨x.t.toNat, by omega⟩
      have hload : H.cell (vat vl (i * 4 + 1)) = some (.int .i64 (j : Int)) := by rw [← hj]; exact hl.flat hx (j := 1) rfl
      have hm1 : (encI (t.set m a))[m * 1]? = some (.int .i64 a) := by
        rw [encI_at1 (by simpa using hmt), tv_set (by omega) hmt, if_pos rfl]
      have hj1 : (encI (t.set m a))[j * 1]? = some (.int .i64 (tv t (j : Int))) := by
        rw [encI_at1 (by simp [hI.1]; omega), tv_set (by omega) hmt, if_neg (by omega)]
      have hjb := hI.2.1 (j : Int) (by omega)
      repeat (first | refine a1 ?_ | refine a3 ?_ | refine a4 ?_ | refine a5 ?_ | refine a6 ?_ | refine s_loadBs ?_ | refine s_loadHs ?_ | refine s_fieldB ?_ | refine s_fieldV ?_ | refine s_loadB ?_ | refine s_loadH ?_ | refine s_loadR ?_ | refine s_subI ?_ | refine s_index ?_ | refine s_indexR ?_ | refine s_len ?_ | refine s_lenR ?_ | refine s_addI ?_ | refine s_min ?_ | refine s_indexT ?_ | refine s_indexRT ?_ | refine a7 ?_ | refine a8 ?_ | refine a9 ?_ | refine RW.storeR rfl rfl rfl rfl (by first | rfl | (simp [allOne, cellsL, one1]; done) | (simp [allOne, cellsL, one1]; first | assumption | (refine ⟨?_, ?_⟩ <;> assumption))) rfl ?_ | refine a10 ?_ | refine RW.storeR1 rfl rfl (by first | rfl | exact IsSl.one1 (by assumption) | exact IsSl.one1 (SliceRep.isSl (by assumption))) rfl rfl ?_)
      refine Runs.regionD _ _ [18] (fun x hx => List.mem_cons_of_mem _ hx) (List.Sublist.refl _) (by kernel_rfl) ?_
      refine d1 0 4 ?_
      (first | refine t_index 4 ?_ | refine t_indexR 4 ?_)
      (first | refine t_loadB 5 ?_ | refine t_loadH 5 ?_ | refine t_loadR 5 ?_)
      refine d2 6 ?_
      (first | refine t_fieldB 7 ?_ | refine t_fieldV 7 ?_)
      (first | refine t_loadB 8 ?_ | refine t_loadH 8 ?_ | refine t_loadR 8 ?_)
      refine d2 9 ?_
      (first | refine t_index 10 ?_ | refine t_indexR 10 ?_)
      (first | refine t_fieldB 11 ?_ | refine t_fieldV 11 ?_)
      (first | refine t_loadB 12 ?_ | refine t_loadH 12 ?_ | refine t_loadR 12 ?_)
      (first | refine t_index 13 ?_ | refine t_indexR 13 ?_)
      (first | refine t_loadB 14 ?_ | refine t_loadH 14 ?_ | refine t_loadR 14 ?_)
      refine t_addI 15 ?_
      refine t_min 16 ?_
      (first | refine t_index 17 ?_ | refine t_indexR 17 ?_)
      (first | refine DW.storeR 18 rfl (by kernel_rfl) rfl rfl rfl (encI_set (by simpa using hmt)) rfl (by first | rfl | (simp [allOne, cellsL, one1]; done) | (simp [allOne, cellsL, one1]; first | assumption | (refine ⟨?_, ?_⟩ <;> assumption))) rfl ?_ | refine DW.storeR1 18 rfl (by kernel_rfl) rfl rfl rfl (by first | rfl | exact IsSl.one1 (by assumption) | exact IsSl.one1 (SliceRep.isSl (by assumption))) (encI_set (by simpa using hmt)) rfl ?_)
      refine DW.done (by kernel_rfl) ?_
      repeat (first | refine a1 ?_ | refine a3 ?_ | refine a4 ?_ | refine a5 ?_ | refine a6 ?_ | refine s_loadBs ?_ | refine s_loadHs ?_ | refine s_fieldB ?_ | refine s_fieldV ?_ | refine s_loadB ?_ | refine s_loadH ?_ | refine s_loadR ?_ | refine s_subI ?_ | refine s_index ?_ | refine s_indexR ?_ | refine s_len ?_ | refine s_lenR ?_ | refine s_addI ?_ | refine s_min ?_ | refine s_indexT ?_ | refine s_indexRT ?_ | refine a7 ?_ | refine a8 ?_ | refine a9 ?_ | refine RW.storeR rfl rfl rfl rfl (by first | rfl | (simp [allOne, cellsL, one1]; done) | (simp [allOne, cellsL, one1]; first | assumption | (refine ⟨?_, ?_⟩ <;> assumption))) rfl ?_ | refine a10 ?_ | refine RW.storeR1 rfl rfl (by first | rfl | exact IsSl.one1 (by assumption) | exact IsSl.one1 (SliceRep.isSl (by assumption))) rfl rfl ?_)
      rw [List.set_set]
      refine Runs.weak (ih2 (k + 1, _) ⟨by dsimp only; omega, ?_, ?_⟩ (by dsimp only; omega)) (by repeat (first | exact trivial | refine And.intro rfl ?_)) (fun x hx => List.mem_cons_of_mem _ (SubH.h x hx)) (by repeat (first | exact List.nil_sublist _ | exact List.Sublist.refl _ | refine List.Sublist.cons_cons _ ?_ | refine List.Sublist.cons _ ?_))
      · dsimp only
        rw [foldl_take_succ hoi, ← ha, lnk_at hx, stepN, hj]
        rfl
      · have := stepN_bound (x := x) hab (hI.2.1 x.t (by omega))
        rw [stepN, hj] at this
        exact this
    · have hke : (outOf gl (m : Int)).take k = outOf gl (m : Int) := List.take_of_length_le (by omega)
      rw [hke] at ha
      repeat (first | refine a1 ?_ | refine a3 ?_ | refine a4 ?_ | refine a5 ?_ | refine a6 ?_ | refine s_loadBs ?_ | refine s_loadHs ?_ | refine s_fieldB ?_ | refine s_fieldV ?_ | refine s_loadB ?_ | refine s_loadH ?_ | refine s_loadR ?_ | refine s_subI ?_ | refine s_index ?_ | refine s_indexR ?_ | refine s_len ?_ | refine s_lenR ?_ | refine s_addI ?_ | refine s_min ?_ | refine s_indexT ?_ | refine s_indexRT ?_ | refine a7 ?_ | refine a8 ?_ | refine a9 ?_ | refine RW.storeR rfl rfl rfl rfl (by first | rfl | (simp [allOne, cellsL, one1]; done) | (simp [allOne, cellsL, one1]; first | assumption | (refine ⟨?_, ?_⟩ <;> assumption))) rfl ?_ | refine a10 ?_ | refine RW.storeR1 rfl rfl (by first | rfl | exact IsSl.one1 (by assumption) | exact IsSl.one1 (SliceRep.isSl (by assumption))) rfl rfl ?_)
      refine Runs.weak (ih (m, t.set m a) ⟨by dsimp only; omega, ?_⟩ (by dsimp only; omega)) (by repeat (first | exact trivial | refine And.intro rfl ?_)) (fun x hx => List.mem_cons_of_mem _ (SubH.h x hx)) (by repeat (first | exact List.nil_sublist _ | exact List.Sublist.refl _ | refine List.Sublist.cons_cons _ ?_ | refine List.Sublist.cons _ ?_))
      dsimp only
      rw [ha, hfold] at hab ⊢
      exact hI.next hall (by omega) hab
  · obtain rfl : n = 0 := by omega
    have h0 : (encI t)[0 * 1]? = some (.int .i64 (tv t 0)) := encI_at1 (j := 0) (by rw [hI.1]; omega)
    repeat (first | refine a1 ?_ | refine a3 ?_ | refine a4 ?_ | refine a5 ?_ | refine a6 ?_ | refine s_loadBs ?_ | refine s_loadHs ?_ | refine s_fieldB ?_ | refine s_fieldV ?_ | refine s_loadB ?_ | refine s_loadH ?_ | refine s_loadR ?_ | refine s_subI ?_ | refine s_index ?_ | refine s_indexR ?_ | refine s_len ?_ | refine s_lenR ?_ | refine s_addI ?_ | refine s_min ?_ | refine s_indexT ?_ | refine s_indexRT ?_ | refine a7 ?_ | refine a8 ?_ | refine a9 ?_ | refine RW.storeR rfl rfl rfl rfl (by first | rfl | (simp [allOne, cellsL, one1]; done) | (simp [allOne, cellsL, one1]; first | assumption | (refine ⟨?_, ?_⟩ <;> assumption))) rfl ?_ | refine a10 ?_ | refine RW.storeR1 rfl rfl (by first | rfl | exact IsSl.one1 (by assumption) | exact IsSl.one1 (SliceRep.isSl (by assumption))) rfl rfl ?_)
    refine Runs.ret1 Try.func21 Try.results21 rfl (fun w hm => hR _ w _ H _ (List.mem_cons_self ..) (Snap.le.refl _) ?_ hm)
    exact ⟨t, hI, rfl⟩

end Go.Proofs.Ytjdhcblofkkibaa

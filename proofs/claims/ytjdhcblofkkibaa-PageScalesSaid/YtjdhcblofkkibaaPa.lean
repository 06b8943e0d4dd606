/-
  The potentials of a graph: the tables, and the contracts of what computes them. Conditions: none.
-/
import Derived.Test.YtjdhcblofkkibaaT7
import Derived.Test.YtjdhcblofkkibaaWk
namespace Go.Proofs.Ytjdhcblofkkibaa
open Go Go.RowKit

set_option maxHeartbeats 1000000 in
theorem leaving_c {H : Snap} {vl : Value} {N : Nat} {gl : List Lnk} (hl : SliceRep H LinkL vl gl) (hg : validG N gl) :
    Pure Try.prog 34 #[.agg #[.int .i64 (N : Int), vl]] H (fun H' r => SliceRep H' (SlL I64) r (outsOf N gl)) := by
  have hb := hl.isSl.bound
  obtain ⟨hN1, hN2, hlen, hall⟩ := hg
  refine Pure.intro Try.func34 rfl Try.ntmps34 rfl (fun E R hM hR => ?_)
  repeat (first | refine a1 ?_ | refine a3 ?_ | refine a4 ?_ | refine a5 ?_ | refine a6 ?_ | refine s_fieldB ?_ | refine s_fieldV ?_ | refine s_loadB ?_ | refine s_loadH ?_ | refine s_loadR ?_ | refine s_len ?_ | refine s_lenR ?_ | refine s_index ?_ | refine s_indexR ?_ | refine s_loadBs ?_ | refine s_loadHs ?_ | refine s_addI ?_ | refine a7 ?_ | refine a8 ?_ | refine a9 ?_ | refine RW.storeR rfl rfl rfl rfl (by first | rfl | (simp [allOne, cellsL, one1]; done) | (simp [allOne, cellsL, one1]; first | assumption | (refine ⟨?_, ?_⟩ <;> assumption))) rfl ?_ | refine a10 ?_ | refine RW.storeR1 rfl rfl (by first | rfl | exact IsSl.one1 (by assumption) | exact IsSl.one1 (SliceRep.isSl (by assumption))) rfl rfl ?_)
  refine RW.box rfl rfl rfl rfl (fun b1 => ?_)
  repeat (first | refine a1 ?_ | refine a3 ?_ | refine a4 ?_ | refine a5 ?_ | refine a6 ?_ | refine s_fieldB ?_ | refine s_fieldV ?_ | refine s_loadB ?_ | refine s_loadH ?_ | refine s_loadR ?_ | refine s_len ?_ | refine s_lenR ?_ | refine s_index ?_ | refine s_indexR ?_ | refine s_loadBs ?_ | refine s_loadHs ?_ | refine s_addI ?_ | refine a7 ?_ | refine a8 ?_ | refine a9 ?_ | refine RW.storeR rfl rfl rfl rfl (by first | rfl | (simp [allOne, cellsL, one1]; done) | (simp [allOne, cellsL, one1]; first | assumption | (refine ⟨?_, ?_⟩ <;> assumption))) rfl ?_ | refine a10 ?_ | refine RW.storeR1 rfl rfl (by first | rfl | exact IsSl.one1 (by assumption) | exact IsSl.one1 (SliceRep.isSl (by assumption))) rfl rfl ?_)
  refine RW.make rfl rfl rfl (by decide) (by omega) (by omega) rfl rfl (fun v3 hv3 => ?_)
  repeat (first | refine a1 ?_ | refine a3 ?_ | refine a4 ?_ | refine a5 ?_ | refine a6 ?_ | refine s_fieldB ?_ | refine s_fieldV ?_ | refine s_loadB ?_ | refine s_loadH ?_ | refine s_loadR ?_ | refine s_len ?_ | refine s_lenR ?_ | refine s_index ?_ | refine s_indexR ?_ | refine s_loadBs ?_ | refine s_loadHs ?_ | refine s_addI ?_ | refine a7 ?_ | refine a8 ?_ | refine a9 ?_ | refine RW.storeR rfl rfl rfl rfl (by first | rfl | (simp [allOne, cellsL, one1]; done) | (simp [allOne, cellsL, one1]; first | assumption | (refine ⟨?_, ?_⟩ <;> assumption))) rfl ?_ | refine a10 ?_ | refine RW.storeR1 rfl rfl (by first | rfl | exact IsSl.one1 (by assumption) | exact IsSl.one1 (SliceRep.isSl (by assumption))) rfl rfl ?_)
  refine Runs.addNils' N ?_
  refine Runs.perm List.perm_append_comm ?_
  simp only [List.cons_append, List.nil_append]
  refine Runs.loop (fun (s : Nat × List Value) => s.1 ≤ gl.length ∧ s.2.length = N) (fun s => gl.length - s.1) (fun _ => [H])
    (fun s => .row 34 1 v3 N s.2 :: .blk b1 29 [.int .i64 (N : Int), vl] :: inners s.2 (outsOf N (gl.take s.1)))
    (fun s => [(1, .pointer (some ⟨b1, 0, none⟩)), (3, v3), (10, vl), (11, .int .i64 (gl.length : Int)), (12, .int .i64 (s.1 : Int))]) (0, repL N [.slice none 0 0]) ⟨Nat.zero_le _, by simp [repL_length]⟩ ?_ ?_
  · intro h
    have h0 : outsOf N (gl.take 0) = List.replicate N [] := by
      apply List.ext_getElem?
      intro j
      by_cases hj : j < N
      · rw [outsOf_at hj]; simp [hj, outOf, outFrom]
      · rw [List.getElem?_eq_none (by rw [outsOf_length]; omega), List.getElem?_eq_none (by simp; omega)]
    dsimp only at h
    rw [h0] at h
    generalize inners (repL N [.slice none 0 0]) (List.replicate N []) = Q at h ⊢
    refine Runs.weak (h) (by repeat (first | exact trivial | refine And.intro rfl ?_)) (fun x hx => List.mem_cons_of_mem _ (SubH.h x hx)) (by repeat (first | exact List.nil_sublist _ | exact List.Sublist.refl _ | refine List.Sublist.cons_cons _ ?_ | refine List.Sublist.cons _ ?_))
  · rintro ⟨k, cs⟩ ⟨hk, hcl⟩ ih
    dsimp only at hk hcl ⊢
    have htk : (gl.take k).length = k := by simp; omega
    repeat (first | refine a1 ?_ | refine a3 ?_ | refine a4 ?_ | refine a5 ?_ | refine a6 ?_ | refine s_fieldB ?_ | refine s_fieldV ?_ | refine s_loadB ?_ | refine s_loadH ?_ | refine s_loadR ?_ | refine s_len ?_ | refine s_lenR ?_ | refine s_index ?_ | refine s_indexR ?_ | refine s_loadBs ?_ | refine s_loadHs ?_ | refine s_addI ?_ | refine a7 ?_ | refine a8 ?_ | refine a9 ?_ | refine RW.storeR rfl rfl rfl rfl (by first | rfl | (simp [allOne, cellsL, one1]; done) | (simp [allOne, cellsL, one1]; first | assumption | (refine ⟨?_, ?_⟩ <;> assumption))) rfl ?_ | refine a10 ?_ | refine RW.storeR1 rfl rfl (by first | rfl | exact IsSl.one1 (by assumption) | exact IsSl.one1 (SliceRep.isSl (by assumption))) rfl rfl ?_)
    refine Runs.cond_d rfl (fun hlt => ?_) (fun hlt => ?_)
    · obtain ⟨x, hx⟩ : ∃ x, gl[k]? = some x := ⟨_, List.getElem?_eq_getElem (by omega)⟩
      have hxo := hall x (List.mem_of_getElem? hx)
      unfold okL at hxo
      obtain ⟨i, hi⟩ : ∃ i : Nat, x.f = (i : Int) := ⟨x.f.toNat, by omega⟩
      have hiN : i < N := by omega
      have hload : ∀ j u, [Value.int .i64 x.f, .int .i64 x.t, .int .i64 x.lab, .int .i64 x.c][j]? = some u → H.cell (vat vl (k * 4 + j)) = some u := fun j u hu => hl.flat hx hu
      rw [hi] at hload
      obtain ⟨v, hv⟩ : ∃ v, cs[i]? = some v := ⟨_, List.getElem?_eq_getElem (by omega)⟩
      have hv' : cs[i * 1]? = some v := by rw [Nat.mul_one]; exact hv
      have hnx : outsOf N (gl.take (k + 1)) = (outsOf N (gl.take k)).set i (outOf (gl.take k) (i : Int) ++ [(k : Int)]) := by
        rw [take_snoc_of hx, outsOf_snoc hi, htk]
      repeat (first | refine a1 ?_ | refine a3 ?_ | refine a4 ?_ | refine a5 ?_ | refine a6 ?_ | refine s_fieldB ?_ | refine s_fieldV ?_ | refine s_loadB ?_ | refine s_loadH ?_ | refine s_loadR ?_ | refine s_len ?_ | refine s_lenR ?_ | refine s_index ?_ | refine s_indexR ?_ | refine s_loadBs ?_ | refine s_loadHs ?_ | refine s_addI ?_ | refine a7 ?_ | refine a8 ?_ | refine a9 ?_ | refine RW.storeR rfl rfl rfl rfl (by first | rfl | (simp [allOne, cellsL, one1]; done) | (simp [allOne, cellsL, one1]; first | assumption | (refine ⟨?_, ?_⟩ <;> assumption))) rfl ?_ | refine a10 ?_ | refine RW.storeR1 rfl rfl (by first | rfl | exact IsSl.one1 (by assumption) | exact IsSl.one1 (SliceRep.isSl (by assumption))) rfl rfl ?_)
      try refine RW.q (QV.loadHs rfl (hload)) rfl rfl ?_
      refine RW.alloc rfl rfl rfl (fun b5 => ?_)
      repeat (first | refine a1 ?_ | refine a3 ?_ | refine a4 ?_ | refine a5 ?_ | refine a6 ?_ | refine s_fieldB ?_ | refine s_fieldV ?_ | refine s_loadB ?_ | refine s_loadH ?_ | refine s_loadR ?_ | refine s_len ?_ | refine s_lenR ?_ | refine s_index ?_ | refine s_indexR ?_ | refine s_loadBs ?_ | refine s_loadHs ?_ | refine s_addI ?_ | refine a7 ?_ | refine a8 ?_ | refine a9 ?_ | refine RW.storeR rfl rfl rfl rfl (by first | rfl | (simp [allOne, cellsL, one1]; done) | (simp [allOne, cellsL, one1]; first | assumption | (refine ⟨?_, ?_⟩ <;> assumption))) rfl ?_ | refine a10 ?_ | refine RW.storeR1 rfl rfl (by first | rfl | exact IsSl.one1 (by assumption) | exact IsSl.one1 (SliceRep.isSl (by assumption))) rfl rfl ?_)
      refine Runs.perm (O' := .blk b5 58 [.int .i64 i, .int .i64 x.t, .int .i64 x.lab, .int .i64 x.c] :: .row 3 1 v (outOf (gl.take k) i).length ((outOf (gl.take k) i).map fun i => .int .i64 i) :: .row 34 1 v3 N cs :: .blk b1 29 [.int .i64 (N : Int), vl] :: inners (cs.eraseIdx i) ((outsOf N (gl.take k)).eraseIdx i)) ?_ ?_
      · refine List.Perm.cons _ ((List.Perm.cons _ (List.Perm.cons _ (inners_at cs _ i v _ hv (outsOf_at hiN)))).trans ?_)
        exact (List.Perm.cons _ (List.Perm.swap ..)).trans (List.Perm.swap ..)
      · have hset := fun v' => inners_set cs (outsOf N (gl.take k)) i v' (outOf (gl.take k) (i : Int) ++ [(k : Int)]) (by omega) (by rw [outsOf_length]; exact hiN)
        rw [← hnx] at hset
        generalize inners (cs.eraseIdx i) ((outsOf N (gl.take k)).eraseIdx i) = Q at hset ⊢
        refine Runs.rowSl v (fun hvs hv1 => ?_)
        have hol := outOf_length (gl.take k) i
        refine Runs.regionD _ (.blk b5 58 [.int .i64 i, .int .i64 x.t, .int .i64 x.lab, .int .i64 x.c] :: .row 34 1 v3 N cs :: .blk b1 29 [.int .i64 (N : Int), vl] :: Q) [12] (fun x hx => List.mem_cons_of_mem _ hx) SubO.h (by kernel_rfl) ?_
        refine d2 0 ?_
        (first | refine t_fieldB 1 ?_ | refine t_fieldV 1 ?_)
        (first | refine t_loadB 2 ?_ | refine t_loadH 2 ?_ | refine t_loadR 2 ?_)
        refine d2 3 ?_
        (first | refine t_fieldB 4 ?_ | refine t_fieldV 4 ?_)
        (first | refine t_loadB 5 ?_ | refine t_loadH 5 ?_ | refine t_loadR 5 ?_)
        (first | refine t_index 6 ?_ | refine t_indexR 6 ?_)
        (first | refine t_loadB 7 ?_ | refine t_loadH 7 ?_ | refine t_loadR 7 ?_)
        refine d2 8 ?_
        refine DW.buildSlice 9 rfl (by kernel_rfl) rfl rfl rfl rfl rfl rfl rfl (fun v9 hs9 => ?_)
        refine DW.appendR 10 rfl (by kernel_rfl) rfl rfl (by assumption) rfl rfl rfl (by decide) (by omega) (by omega) (fun _ => inferInstance) rfl rfl (fun _ => inferInstance) inferInstance (fun v10 hs10 => ?_)
        (first | refine t_index 11 ?_ | refine t_indexR 11 ?_)
        (first | refine DW.storeR 12 rfl (by kernel_rfl) rfl rfl rfl (by rw [Nat.mul_one]; exact setAt_set _ _ _ (by omega)) rfl (by first | rfl | (simp [allOne, cellsL, one1]; done) | (simp [allOne, cellsL, one1]; first | assumption | (refine ⟨?_, ?_⟩ <;> assumption))) rfl ?_ | refine DW.storeR1 12 rfl (by kernel_rfl) rfl rfl rfl (by first | rfl | exact IsSl.one1 (by assumption) | exact IsSl.one1 (SliceRep.isSl (by assumption))) (by rw [Nat.mul_one]; exact setAt_set _ _ _ (by omega)) rfl ?_)
        refine DW.done (by kernel_rfl) ?_
        repeat (first | refine a1 ?_ | refine a3 ?_ | refine a4 ?_ | refine a5 ?_ | refine a6 ?_ | refine s_fieldB ?_ | refine s_fieldV ?_ | refine s_loadB ?_ | refine s_loadH ?_ | refine s_loadR ?_ | refine s_len ?_ | refine s_lenR ?_ | refine s_index ?_ | refine s_indexR ?_ | refine s_loadBs ?_ | refine s_loadHs ?_ | refine s_addI ?_ | refine a7 ?_ | refine a8 ?_ | refine a9 ?_ | refine RW.storeR rfl rfl rfl rfl (by first | rfl | (simp [allOne, cellsL, one1]; done) | (simp [allOne, cellsL, one1]; first | assumption | (refine ⟨?_, ?_⟩ <;> assumption))) rfl ?_ | refine a10 ?_ | refine RW.storeR1 rfl rfl (by first | rfl | exact IsSl.one1 (by assumption) | exact IsSl.one1 (SliceRep.isSl (by assumption))) rfl rfl ?_)
        have h := ih (k + 1, cs.set i v10) ⟨by dsimp only; omega, by dsimp only; rw [List.length_set]; exact hcl⟩ (by dsimp only; omega)
        dsimp only at h
        replace h := Runs.perm ((List.Perm.swap ..).trans ((List.Perm.cons _ (List.Perm.swap ..)).trans (List.Perm.cons _ (List.Perm.cons _ (hset v10).symm)))) h
        rw [List.length_append, List.map_append] at h
        refine Runs.weak (h) (by repeat (first | exact trivial | refine And.intro rfl ?_)) (fun x hx => List.mem_cons_of_mem _ (SubH.h x hx)) (by repeat (first | exact List.nil_sublist _ | exact List.Sublist.refl _ | refine List.Sublist.cons_cons _ ?_ | refine List.Sublist.cons _ ?_))
    · have hke : gl.take k = gl := List.take_of_length_le (by omega)
      rw [hke]
      repeat (first | refine a1 ?_ | refine a3 ?_ | refine a4 ?_ | refine a5 ?_ | refine a6 ?_ | refine s_fieldB ?_ | refine s_fieldV ?_ | refine s_loadB ?_ | refine s_loadH ?_ | refine s_loadR ?_ | refine s_len ?_ | refine s_lenR ?_ | refine s_index ?_ | refine s_indexR ?_ | refine s_loadBs ?_ | refine s_loadHs ?_ | refine s_addI ?_ | refine a7 ?_ | refine a8 ?_ | refine a9 ?_ | refine RW.storeR rfl rfl rfl rfl (by first | rfl | (simp [allOne, cellsL, one1]; done) | (simp [allOne, cellsL, one1]; first | assumption | (refine ⟨?_, ?_⟩ <;> assumption))) rfl ?_ | refine a10 ?_ | refine RW.storeR1 rfl rfl (by first | rfl | exact IsSl.one1 (by assumption) | exact IsSl.one1 (SliceRep.isSl (by assumption))) rfl rfl ?_)
      refine Runs.perm (O' := inners cs (outsOf N gl) ++ [.row 34 1 v3 N cs, .blk b1 29 [.int .i64 (N : Int), vl]]) ?_ ?_
      · exact List.perm_append_comm (l₁ := [_, _])
      refine Runs.freezeInners (H := H) cs (outsOf N gl) (by rw [outsOf_length]; exact hcl) hM (fun H1 hle1 hc1 => ?_)
      refine Runs.freeze (H := H1) v3 hM (fun H2 hle2 hs2 hc2 => ?_)
      refine Runs.ret1 Try.func34 Try.results34 rfl (fun w hm => hR _ w _ H2 _ (by simp) (hle1.trans hle2) ?_ hm)
      exact SliceRep.of_row hs2 (outsOf_length N gl).symm hc1 hle2 hc2


/-- One more link for the potential of a node; -1 stands for none. -/
def stepP (t : List Int) (a : Int) (x : Lnk) : Int := if tv t x.t = -1 then a else (if a = -1 ∨ x.c + tv t x.t < a then x.c + tv t x.t else a)
def potT (gl : List Lnk) (t : List Int) (n : Int) : Int := gl.foldl (fun a x => if x.f = n then stepP t a x else a) (-1)
def potGo (gl : List Lnk) : Nat → List Int → List Int
  | 0, t => t
  | m + 1, t => potGo gl m (t.set m (potT gl t (m : Int)))
def pot (gl : List Lnk) (N : Nat) : List Int := potGo gl (N - 1) (List.replicate N 0)
def potL (N : Int) (gl : List Lnk) : List Int := if validG N gl then pot gl N.toNat else []
def potE (N : Int) (gl : List Lnk) : Int := if validG N gl then 0 else 150
def IsPot (N : Nat) (gl : List Lnk) (m : Nat) (t : List Int) : Prop :=
  t.length = N ∧ (∀ j : Int, 0 ≤ j → j < N → -1 ≤ tv t j ∧ tv t j ≤ ((N : Int) - 1 - j) * 1000000) ∧ (∀ j : Nat, m ≤ j → j + 1 < N → tv t (j : Int) = potT gl t (j : Int)) ∧ tv t ((N : Int) - 1) = 0
theorem potT_set {gl : List Lnk} {N : Int} {t : List Int} {m : Nat} {v : Int} {j : Int} (hg : ∀ x ∈ gl, okL N x) (hm : m < t.length) (hj : (m : Int) ≤ j) : potT gl (t.set m v) j = potT gl t j := by
  unfold potT
  refine foldl_congr _ _ fun a x hx => ?_
  have := hg x hx
  unfold okL at this
  by_cases hf : x.f = j
  · have e : tv (t.set m v) x.t = tv t x.t := by rw [tv_set (by omega) hm, if_neg (by omega)]
    rw [if_pos hf, if_pos hf, stepP, stepP, e]
  · rw [if_neg hf, if_neg hf]
theorem IsPot.next {N : Nat} {gl : List Lnk} {m : Nat} {t : List Int} (hg : ∀ x ∈ gl, okL (N : Int) x) (h : IsPot N gl (m + 1) t) (hm : m + 1 < N) (hb : -1 ≤ potT gl t (m : Int) ∧ potT gl t (m : Int) ≤ ((N : Int) - 1 - m) * 1000000) :
    IsPot N gl m (t.set m (potT gl t (m : Int))) := by
  obtain ⟨h1, h2, h3, h4⟩ := h
  have hmt : m < t.length := by omega
  refine ⟨by simpa using h1, fun j hj hjN => ?_, fun j hj hjN => ?_, ?_⟩
  · rw [tv_set hj hmt]; split
    · rename_i e; rw [e]; exact hb
    · exact h2 j hj hjN
  · rw [tv_set (by omega) hmt, potT_set hg hmt (by omega)]
    by_cases e : (j : Int) = (m : Int)
    · rw [if_pos e, e]
    · rw [if_neg e]; exact h3 j (by omega) hjN
  · rw [tv_set (by omega) hmt, if_neg (by omega)]; exact h4
theorem IsPot.zero (M : Nat) (gl : List Lnk) : IsPot (M + 1) gl M (List.replicate (M + 1) 0) :=
  ⟨by simp, fun j hj hjN => by rw [tv_zero]; omega, fun j h1 h2 => absurd h2 (by omega), tv_zero _ _⟩
theorem stepP_bound {t : List Int} {a B : Int} {x : Lnk} (ha : -1 ≤ a ∧ a ≤ B) (h : -1 ≤ tv t x.t ∧ tv t x.t + 1000000 ≤ B) (hx : 0 ≤ x.c ∧ x.c ≤ 1000000) : -1 ≤ stepP t a x ∧ stepP t a x ≤ B := by
  unfold stepP; split
  · exact ha
  · split <;> omega
theorem foldP_bound {t : List Int} {n B : Int} : ∀ (gl : List Lnk) (a : Int), -1 ≤ a ∧ a ≤ B → (∀ x ∈ gl, x.f = n → (-1 ≤ tv t x.t ∧ tv t x.t + 1000000 ≤ B) ∧ 0 ≤ x.c ∧ x.c ≤ 1000000) →
    -1 ≤ gl.foldl (fun a x => if x.f = n then stepP t a x else a) a ∧ gl.foldl (fun a x => if x.f = n then stepP t a x else a) a ≤ B
  | [], a, ha, _ => ha
  | x :: r, a, ha, h => by
    rw [List.foldl_cons]
    refine foldP_bound r _ ?_ fun y hy => h y (List.mem_cons_of_mem _ hy)
    split
    · rename_i hf
      have := h x (List.mem_cons_self ..) hf
      exact stepP_bound ha this.1 this.2
    · exact ha
theorem IsPot.bound {N : Nat} {gl : List Lnk} {m : Nat} {t : List Int} (hg : ∀ x ∈ gl, okL (N : Int) x) (h : IsPot N gl (m + 1) t) (hm : m + 1 < N) (k : Nat) :
    -1 ≤ (gl.take k).foldl (fun a x => if x.f = (m : Int) then stepP t a x else a) (-1) ∧ (gl.take k).foldl (fun a x => if x.f = (m : Int) then stepP t a x else a) (-1) ≤ ((N : Int) - 1 - m) * 1000000 := by
  refine foldP_bound _ _ (by omega) fun x hx hf => ?_
  have hxo := hg x (List.mem_of_mem_take hx)
  unfold okL at hxo
  have := h.2.1 x.t (by omega) (by omega)
  omega
theorem pot_is {N : Nat} {gl : List Lnk} (hg : ∀ x ∈ gl, okL (N : Int) x) (hN : 1 ≤ N) : IsPot N gl 0 (pot gl N) := by
  obtain ⟨M, rfl⟩ : ∃ M, N = M + 1 := ⟨N - 1, by omega⟩
  have key : ∀ (m : Nat) (t : List Int), m ≤ M → IsPot (M + 1) gl m t → IsPot (M + 1) gl 0 (potGo gl m t) := by
    intro m
    induction m with
    | zero => intro t _ h; exact h
    | succ m ih =>
      intro t hm h
      refine ih _ (by omega) (h.next hg (by omega) ?_)
      have := h.bound hg (by omega) gl.length
      rwa [List.take_length] at this
  exact key M _ (Nat.le_refl _) (IsPot.zero M gl)

set_option maxHeartbeats 2000000 in
theorem bpot_c {H : Snap} {vl : Value} {N : Int} {gl : List Lnk} (hl : SliceRep H LinkL vl gl) :
    Pure Try.prog 19 #[.agg #[.int .i64 N, vl]] H (fun H' r => ∃ v, r = .tuple #[v, .int .i64 (potE N gl)] ∧ SliceRep H' I64 v (potL N gl)) := by
  have hb := hl.isSl.bound
  by_cases hg : validG N gl
  case neg =>
    have e1 : potE N gl = 150 := by unfold potE; rw [if_neg hg]
    have e2 : potL N gl = [] := by unfold potL; rw [if_neg hg]
    rw [e1, e2]
    refine Pure.intro Try.func19 rfl Try.ntmps19 rfl (fun E R hM hR => ?_)
    repeat (first | refine a1 ?_ | refine a3 ?_ | refine a4 ?_ | refine a5 ?_ | refine a6 ?_ | refine s_loadBs ?_ | refine s_loadHs ?_ | refine s_fieldB ?_ | refine s_fieldV ?_ | refine s_loadB ?_ | refine s_loadH ?_ | refine s_loadR ?_ | refine s_subI ?_ | refine s_index ?_ | refine s_indexR ?_ | refine s_len ?_ | refine s_lenR ?_ | refine s_addI ?_ | refine a7 ?_ | refine a8 ?_ | refine a9 ?_ | refine RW.storeR rfl rfl rfl rfl (by first | rfl | (simp [allOne, cellsL, one1]; done) | (simp [allOne, cellsL, one1]; first | assumption | (refine ⟨?_, ?_⟩ <;> assumption))) rfl ?_ | refine a10 ?_ | refine RW.storeR1 rfl rfl (by first | rfl | exact IsSl.one1 (by assumption) | exact IsSl.one1 (SliceRep.isSl (by assumption))) rfl rfl ?_)
    refine RW.box rfl rfl rfl rfl (fun b1 => ?_)
    repeat (first | refine a1 ?_ | refine a3 ?_ | refine a4 ?_ | refine a5 ?_ | refine a6 ?_ | refine s_loadBs ?_ | refine s_loadHs ?_ | refine s_fieldB ?_ | refine s_fieldV ?_ | refine s_loadB ?_ | refine s_loadH ?_ | refine s_loadR ?_ | refine s_subI ?_ | refine s_index ?_ | refine s_indexR ?_ | refine s_len ?_ | refine s_lenR ?_ | refine s_addI ?_ | refine a7 ?_ | refine a8 ?_ | refine a9 ?_ | refine RW.storeR rfl rfl rfl rfl (by first | rfl | (simp [allOne, cellsL, one1]; done) | (simp [allOne, cellsL, one1]; first | assumption | (refine ⟨?_, ?_⟩ <;> assumption))) rfl ?_ | refine a10 ?_ | refine RW.storeR1 rfl rfl (by first | rfl | exact IsSl.one1 (by assumption) | exact IsSl.one1 (SliceRep.isSl (by assumption))) rfl rfl ?_)
    refine RW.callV rfl (bvalid_c hl) rfl rfl ?_
    rintro _ _ rfl
    rw [decide_eq_false hg]
    repeat (first | refine a1 ?_ | refine a3 ?_ | refine a4 ?_ | refine a5 ?_ | refine a6 ?_ | refine s_loadBs ?_ | refine s_loadHs ?_ | refine s_fieldB ?_ | refine s_fieldV ?_ | refine s_loadB ?_ | refine s_loadH ?_ | refine s_loadR ?_ | refine s_subI ?_ | refine s_index ?_ | refine s_indexR ?_ | refine s_len ?_ | refine s_lenR ?_ | refine s_addI ?_ | refine a7 ?_ | refine a8 ?_ | refine a9 ?_ | refine RW.storeR rfl rfl rfl rfl (by first | rfl | (simp [allOne, cellsL, one1]; done) | (simp [allOne, cellsL, one1]; first | assumption | (refine ⟨?_, ?_⟩ <;> assumption))) rfl ?_ | refine a10 ?_ | refine RW.storeR1 rfl rfl (by first | rfl | exact IsSl.one1 (by assumption) | exact IsSl.one1 (SliceRep.isSl (by assumption))) rfl rfl ?_)
    refine Runs.ret2 Try.func19 Try.results19 rfl rfl (fun w hm => hR _ w _ H _ (List.mem_cons_self ..) (Snap.le.refl _) ?_ hm)
    exact ⟨_, rfl, SliceRep.nil⟩
  have hg' := hg
  obtain ⟨hN1, hN2, hlen, hall⟩ := hg
  obtain ⟨M, rfl⟩ : ∃ M : Nat, N = ((M + 1 : Nat) : Int) := ⟨(N - 1).toNat, by omega⟩
  have f1 : potE ((M + 1 : Nat) : Int) gl = 0 := by unfold potE; rw [if_pos hg']
  have f2 : potL ((M + 1 : Nat) : Int) gl = pot gl (M + 1) := by unfold potL; rw [if_pos hg', Int.toNat_natCast]
  rw [f1, f2]
  have e2 : ((M + 1 : Nat) : Int) - 2 = (M : Int) - 1 := by omega
  refine Pure.intro Try.func19 rfl Try.ntmps19 rfl (fun E R hM hR => ?_)
  repeat (first | refine a1 ?_ | refine a3 ?_ | refine a4 ?_ | refine a5 ?_ | refine a6 ?_ | refine s_loadBs ?_ | refine s_loadHs ?_ | refine s_fieldB ?_ | refine s_fieldV ?_ | refine s_loadB ?_ | refine s_loadH ?_ | refine s_loadR ?_ | refine s_subI ?_ | refine s_index ?_ | refine s_indexR ?_ | refine s_len ?_ | refine s_lenR ?_ | refine s_addI ?_ | refine a7 ?_ | refine a8 ?_ | refine a9 ?_ | refine RW.storeR rfl rfl rfl rfl (by first | rfl | (simp [allOne, cellsL, one1]; done) | (simp [allOne, cellsL, one1]; first | assumption | (refine ⟨?_, ?_⟩ <;> assumption))) rfl ?_ | refine a10 ?_ | refine RW.storeR1 rfl rfl (by first | rfl | exact IsSl.one1 (by assumption) | exact IsSl.one1 (SliceRep.isSl (by assumption))) rfl rfl ?_)
  refine RW.box rfl rfl rfl rfl (fun b1 => ?_)
  repeat (first | refine a1 ?_ | refine a3 ?_ | refine a4 ?_ | refine a5 ?_ | refine a6 ?_ | refine s_loadBs ?_ | refine s_loadHs ?_ | refine s_fieldB ?_ | refine s_fieldV ?_ | refine s_loadB ?_ | refine s_loadH ?_ | refine s_loadR ?_ | refine s_subI ?_ | refine s_index ?_ | refine s_indexR ?_ | refine s_len ?_ | refine s_lenR ?_ | refine s_addI ?_ | refine a7 ?_ | refine a8 ?_ | refine a9 ?_ | refine RW.storeR rfl rfl rfl rfl (by first | rfl | (simp [allOne, cellsL, one1]; done) | (simp [allOne, cellsL, one1]; first | assumption | (refine ⟨?_, ?_⟩ <;> assumption))) rfl ?_ | refine a10 ?_ | refine RW.storeR1 rfl rfl (by first | rfl | exact IsSl.one1 (by assumption) | exact IsSl.one1 (SliceRep.isSl (by assumption))) rfl rfl ?_)
  refine RW.callV rfl (bvalid_c hl) rfl rfl ?_
  rintro _ _ rfl
  rw [decide_eq_true hg']
  repeat (first | refine a1 ?_ | refine a3 ?_ | refine a4 ?_ | refine a5 ?_ | refine a6 ?_ | refine s_loadBs ?_ | refine s_loadHs ?_ | refine s_fieldB ?_ | refine s_fieldV ?_ | refine s_loadB ?_ | refine s_loadH ?_ | refine s_loadR ?_ | refine s_subI ?_ | refine s_index ?_ | refine s_indexR ?_ | refine s_len ?_ | refine s_lenR ?_ | refine s_addI ?_ | refine a7 ?_ | refine a8 ?_ | refine a9 ?_ | refine RW.storeR rfl rfl rfl rfl (by first | rfl | (simp [allOne, cellsL, one1]; done) | (simp [allOne, cellsL, one1]; first | assumption | (refine ⟨?_, ?_⟩ <;> assumption))) rfl ?_ | refine a10 ?_ | refine RW.storeR1 rfl rfl (by first | rfl | exact IsSl.one1 (by assumption) | exact IsSl.one1 (SliceRep.isSl (by assumption))) rfl rfl ?_)
  refine RW.call rfl (leaving_c hl hg') rfl rfl ?_
  rintro vo H1 hvo hle1
  have hl1 := hl.mono hle1
  repeat (first | refine a1 ?_ | refine a3 ?_ | refine a4 ?_ | refine a5 ?_ | refine a6 ?_ | refine s_loadBs ?_ | refine s_loadHs ?_ | refine s_fieldB ?_ | refine s_fieldV ?_ | refine s_loadB ?_ | refine s_loadH ?_ | refine s_loadR ?_ | refine s_subI ?_ | refine s_index ?_ | refine s_indexR ?_ | refine s_len ?_ | refine s_lenR ?_ | refine s_addI ?_ | refine a7 ?_ | refine a8 ?_ | refine a9 ?_ | refine RW.storeR rfl rfl rfl rfl (by first | rfl | (simp [allOne, cellsL, one1]; done) | (simp [allOne, cellsL, one1]; first | assumption | (refine ⟨?_, ?_⟩ <;> assumption))) rfl ?_ | refine a10 ?_ | refine RW.storeR1 rfl rfl (by first | rfl | exact IsSl.one1 (by assumption) | exact IsSl.one1 (SliceRep.isSl (by assumption))) rfl rfl ?_)
  refine RW.make rfl rfl rfl (by decide) (by omega) (by omega) rfl rfl (fun v5 hv5 => ?_)
  rw [encI_zero]
  repeat (first | refine a1 ?_ | refine a3 ?_ | refine a4 ?_ | refine a5 ?_ | refine a6 ?_ | refine s_loadBs ?_ | refine s_loadHs ?_ | refine s_fieldB ?_ | refine s_fieldV ?_ | refine s_loadB ?_ | refine s_loadH ?_ | refine s_loadR ?_ | refine s_subI ?_ | refine s_index ?_ | refine s_indexR ?_ | refine s_len ?_ | refine s_lenR ?_ | refine s_addI ?_ | refine a7 ?_ | refine a8 ?_ | refine a9 ?_ | refine RW.storeR rfl rfl rfl rfl (by first | rfl | (simp [allOne, cellsL, one1]; done) | (simp [allOne, cellsL, one1]; first | assumption | (refine ⟨?_, ?_⟩ <;> assumption))) rfl ?_ | refine a10 ?_ | refine RW.storeR1 rfl rfl (by first | rfl | exact IsSl.one1 (by assumption) | exact IsSl.one1 (SliceRep.isSl (by assumption))) rfl rfl ?_)
  rw [e2]
  refine Runs.loop (fun (s : Nat × List Int) => s.1 ≤ M ∧ IsPot (M + 1) gl s.1 s.2 ∧ potGo gl s.1 s.2 = pot gl (M + 1)) (fun s => s.1) (fun _ => [H1])
    (fun s => [.row 3 1 v5 (M + 1) (encI s.2), .blk b1 29 [.int .i64 ((M + 1 : Nat) : Int), vl]])
    (fun s => [(1, .pointer (some ⟨b1, 0, none⟩)), (4, vo), (5, v5), (6, .int .i64 ((s.1 : Int) - 1))]) (M, List.replicate (M + 1) 0) ⟨Nat.le_refl _, IsPot.zero M gl, rfl⟩ (fun h => by
      refine Runs.weak (h) (by repeat (first | exact trivial | refine And.intro rfl ?_)) (fun x hx => List.mem_cons_of_mem _ (SubH.h x hx)) (by repeat (first | exact List.nil_sublist _ | exact List.Sublist.refl _ | refine List.Sublist.cons_cons _ ?_ | refine List.Sublist.cons _ ?_))) ?_
  rintro ⟨n, t⟩ ⟨hn, hI, hG⟩ ih
  dsimp only at hn hI hG ⊢
  have hbo := hvo.isSl
  rw [outsOf_length] at hbo
  repeat (first | refine a1 ?_ | refine a3 ?_ | refine a4 ?_ | refine a5 ?_ | refine a6 ?_ | refine s_loadBs ?_ | refine s_loadHs ?_ | refine s_fieldB ?_ | refine s_fieldV ?_ | refine s_loadB ?_ | refine s_loadH ?_ | refine s_loadR ?_ | refine s_subI ?_ | refine s_index ?_ | refine s_indexR ?_ | refine s_len ?_ | refine s_lenR ?_ | refine s_addI ?_ | refine a7 ?_ | refine a8 ?_ | refine a9 ?_ | refine RW.storeR rfl rfl rfl rfl (by first | rfl | (simp [allOne, cellsL, one1]; done) | (simp [allOne, cellsL, one1]; first | assumption | (refine ⟨?_, ?_⟩ <;> assumption))) rfl ?_ | refine a10 ?_ | refine RW.storeR1 rfl rfl (by first | rfl | exact IsSl.one1 (by assumption) | exact IsSl.one1 (SliceRep.isSl (by assumption))) rfl rfl ?_)
  refine Runs.cond_d rfl (fun hge => ?_) (fun hge => ?_)
  · obtain ⟨m, rfl⟩ : ∃ m, n = m + 1 := ⟨n - 1, by omega⟩
    have e3 : ((m + 1 : Nat) : Int) - 1 = (m : Int) := by omega
    rw [e3]
    have hmt : m < t.length := by rw [hI.1]; omega
    obtain ⟨vm, hvm, hcm⟩ := hvo.sl (outsOf_at (N := M + 1) (gl := gl) (i := m) (by omega))
    have hbm := hvm.isSl.bound
    have hfold := outOf_fold (fun a x => stepP t a x) gl (m : Int) (-1)
    repeat (first | refine a1 ?_ | refine a3 ?_ | refine a4 ?_ | refine a5 ?_ | refine a6 ?_ | refine s_loadBs ?_ | refine s_loadHs ?_ | refine s_fieldB ?_ | refine s_fieldV ?_ | refine s_loadB ?_ | refine s_loadH ?_ | refine s_loadR ?_ | refine s_subI ?_ | refine s_index ?_ | refine s_indexR ?_ | refine s_len ?_ | refine s_lenR ?_ | refine s_addI ?_ | refine a7 ?_ | refine a8 ?_ | refine a9 ?_ | refine RW.storeR rfl rfl rfl rfl (by first | rfl | (simp [allOne, cellsL, one1]; done) | (simp [allOne, cellsL, one1]; first | assumption | (refine ⟨?_, ?_⟩ <;> assumption))) rfl ?_ | refine a10 ?_ | refine RW.storeR1 rfl rfl (by first | rfl | exact IsSl.one1 (by assumption) | exact IsSl.one1 (SliceRep.isSl (by assumption))) rfl rfl ?_)
    refine RW.storeR1 rfl rfl rfl (encI_set hmt) rfl ?_
    repeat (first | refine a1 ?_ | refine a3 ?_ | refine a4 ?_ | refine a5 ?_ | refine a6 ?_ | refine s_loadBs ?_ | refine s_loadHs ?_ | refine s_fieldB ?_ | refine s_fieldV ?_ | refine s_loadB ?_ | refine s_loadH ?_ | refine s_loadR ?_ | refine s_subI ?_ | refine s_index ?_ | refine s_indexR ?_ | refine s_len ?_ | refine s_lenR ?_ | refine s_addI ?_ | refine a7 ?_ | refine a8 ?_ | refine a9 ?_ | refine RW.storeR rfl rfl rfl rfl (by first | rfl | (simp [allOne, cellsL, one1]; done) | (simp [allOne, cellsL, one1]; first | assumption | (refine ⟨?_, ?_⟩ <;> assumption))) rfl ?_ | refine a10 ?_ | refine RW.storeR1 rfl rfl (by first | rfl | exact IsSl.one1 (by assumption) | exact IsSl.one1 (SliceRep.isSl (by assumption))) rfl rfl ?_)
    refine Runs.loop (fun (s : Nat × Int) => s.1 ≤ (outOf gl (m : Int)).length ∧ s.2 = ((outOf gl (m : Int)).take s.1).foldl (fun a i => stepP t a (lnk gl i)) (-1) ∧ -1 ≤ s.2 ∧ s.2 ≤ (((M + 1 : Nat) : Int) - 1 - m) * 1000000) (fun s => (outOf gl (m : Int)).length - s.1) (fun _ => [H1])
      (fun s => [.row 3 1 v5 (M + 1) (encI (t.set m s.2)), .blk b1 29 [.int .i64 ((M + 1 : Nat) : Int), vl]])
      (fun s => [(1, .pointer (some ⟨b1, 0, none⟩)), (4, vo), (5, v5), (6, .int .i64 (m : Int)), (32, vm), (33, .int .i64 ((outOf gl (m : Int)).length : Int)), (34, .int .i64 (s.1 : Int))]) (0, -1) ⟨Nat.zero_le _, rfl, by simp, by dsimp only; omega⟩ (fun h => by
        refine Runs.weak (h) (by repeat (first | exact trivial | refine And.intro rfl ?_)) (fun x hx => List.mem_cons_of_mem _ (SubH.h x hx)) (by repeat (first | exact List.nil_sublist _ | exact List.Sublist.refl _ | refine List.Sublist.cons_cons _ ?_ | refine List.Sublist.cons _ ?_))) ?_
    rintro ⟨k, a⟩ ⟨hk, ha, hab⟩ ih2
    dsimp only at hk ha hab ⊢
    repeat (first | refine a1 ?_ | refine a3 ?_ | refine a4 ?_ | refine a5 ?_ | refine a6 ?_ | refine s_loadBs ?_ | refine s_loadHs ?_ | refine s_fieldB ?_ | refine s_fieldV ?_ | refine s_loadB ?_ | refine s_loadH ?_ | refine s_loadR ?_ | refine s_subI ?_ | refine s_index ?_ | refine s_indexR ?_ | refine s_len ?_ | refine s_lenR ?_ | refine s_addI ?_ | refine a7 ?_ | refine a8 ?_ | refine a9 ?_ | refine RW.storeR rfl rfl rfl rfl (by first | rfl | (simp [allOne, cellsL, one1]; done) | (simp [allOne, cellsL, one1]; first | assumption | (refine ⟨?_, ?_⟩ <;> assumption))) rfl ?_ | refine a10 ?_ | refine RW.storeR1 rfl rfl (by first | rfl | exact IsSl.one1 (by assumption) | exact IsSl.one1 (SliceRep.isSl (by assumption))) rfl rfl ?_)
    refine Runs.cond_d rfl (fun hlt => ?_) (fun hlt => ?_)
    · obtain ⟨oi, hoi⟩ : ∃ i, (outOf gl (m : Int))[k]? = some i := ⟨_, List.getElem?_eq_getElem (by omega)⟩
      obtain ⟨i, x, rfl, hx, hxf⟩ := outOf_at hoi
      have hxo := hall x (List.mem_of_getElem? hx)
      unfold okL at hxo
      have hil := (List.getElem?_eq_some_iff.1 hx).1
      obtain ⟨j, hj⟩ : ∃ j : Nat, x.t = (j : Int) := ⟨x.t.toNat, by omega⟩
      have hload : ∀ jj u, [Value.int .i64 x.f, .int .i64 x.t, .int .i64 x.lab, .int .i64 x.c][jj]? = some u → H1.cell (vat vl (i * 4 + jj)) = some u := fun jj u hu => hl1.flat hx hu
      rw [hj] at hload
      have hm1 : (encI (t.set m a))[m * 1]? = some (.int .i64 a) := by
        rw [encI_at1 (by simpa using hmt), tv_set (by omega) hmt, if_pos rfl]
      have hj1 : (encI (t.set m a))[j * 1]? = some (.int .i64 (tv t (j : Int))) := by
        rw [encI_at1 (by simp [hI.1]; omega), tv_set (by omega) hmt, if_neg (by omega)]
      have hjb := hI.2.1 (j : Int) (by omega) (by omega)
      have hnx : ∀ a', stepP t a x = a' → ((outOf gl (m : Int)).take (k + 1)).foldl (fun a i => stepP t a (lnk gl i)) (-1) = a' := fun a' h => by
        rw [foldl_take_succ hoi, ← ha, lnk_at hx, h]
      repeat (first | refine a1 ?_ | refine a3 ?_ | refine a4 ?_ | refine a5 ?_ | refine a6 ?_ | refine s_loadBs ?_ | refine s_loadHs ?_ | refine s_fieldB ?_ | refine s_fieldV ?_ | refine s_loadB ?_ | refine s_loadH ?_ | refine s_loadR ?_ | refine s_subI ?_ | refine s_index ?_ | refine s_indexR ?_ | refine s_len ?_ | refine s_lenR ?_ | refine s_addI ?_ | refine a7 ?_ | refine a8 ?_ | refine a9 ?_ | refine RW.storeR rfl rfl rfl rfl (by first | rfl | (simp [allOne, cellsL, one1]; done) | (simp [allOne, cellsL, one1]; first | assumption | (refine ⟨?_, ?_⟩ <;> assumption))) rfl ?_ | refine a10 ?_ | refine RW.storeR1 rfl rfl (by first | rfl | exact IsSl.one1 (by assumption) | exact IsSl.one1 (SliceRep.isSl (by assumption))) rfl rfl ?_)
      refine RW.alloc rfl rfl rfl (fun b9 => ?_)
      repeat (first | refine a1 ?_ | refine a3 ?_ | refine a4 ?_ | refine a5 ?_ | refine a6 ?_ | refine s_loadBs ?_ | refine s_loadHs ?_ | refine s_fieldB ?_ | refine s_fieldV ?_ | refine s_loadB ?_ | refine s_loadH ?_ | refine s_loadR ?_ | refine s_subI ?_ | refine s_index ?_ | refine s_indexR ?_ | refine s_len ?_ | refine s_lenR ?_ | refine s_addI ?_ | refine a7 ?_ | refine a8 ?_ | refine a9 ?_ | refine RW.storeR rfl rfl rfl rfl (by first | rfl | (simp [allOne, cellsL, one1]; done) | (simp [allOne, cellsL, one1]; first | assumption | (refine ⟨?_, ?_⟩ <;> assumption))) rfl ?_ | refine a10 ?_ | refine RW.storeR1 rfl rfl (by first | rfl | exact IsSl.one1 (by assumption) | exact IsSl.one1 (SliceRep.isSl (by assumption))) rfl rfl ?_)
      refine Runs.cond_d rfl (fun hno => ?_) (fun hno => ?_)
      · have hstep : stepP t a x = a := by rw [stepP, hj, if_pos hno]
        repeat (first | refine a1 ?_ | refine a3 ?_ | refine a4 ?_ | refine a5 ?_ | refine a6 ?_ | refine s_loadBs ?_ | refine s_loadHs ?_ | refine s_fieldB ?_ | refine s_fieldV ?_ | refine s_loadB ?_ | refine s_loadH ?_ | refine s_loadR ?_ | refine s_subI ?_ | refine s_index ?_ | refine s_indexR ?_ | refine s_len ?_ | refine s_lenR ?_ | refine s_addI ?_ | refine a7 ?_ | refine a8 ?_ | refine a9 ?_ | refine RW.storeR rfl rfl rfl rfl (by first | rfl | (simp [allOne, cellsL, one1]; done) | (simp [allOne, cellsL, one1]; first | assumption | (refine ⟨?_, ?_⟩ <;> assumption))) rfl ?_ | refine a10 ?_ | refine RW.storeR1 rfl rfl (by first | rfl | exact IsSl.one1 (by assumption) | exact IsSl.one1 (SliceRep.isSl (by assumption))) rfl rfl ?_)
        refine Runs.weak (ih2 (k + 1, a) ⟨by dsimp only; omega, (hnx a hstep).symm, hab⟩ (by dsimp only; omega)) (by repeat (first | exact trivial | refine And.intro rfl ?_)) (fun x hx => List.mem_cons_of_mem _ (SubH.h x hx)) (by repeat (first | exact List.nil_sublist _ | exact List.Sublist.refl _ | refine List.Sublist.cons_cons _ ?_ | refine List.Sublist.cons _ ?_))
      · repeat (first | refine a1 ?_ | refine a3 ?_ | refine a4 ?_ | refine a5 ?_ | refine a6 ?_ | refine s_loadBs ?_ | refine s_loadHs ?_ | refine s_fieldB ?_ | refine s_fieldV ?_ | refine s_loadB ?_ | refine s_loadH ?_ | refine s_loadR ?_ | refine s_subI ?_ | refine s_index ?_ | refine s_indexR ?_ | refine s_len ?_ | refine s_lenR ?_ | refine s_addI ?_ | refine a7 ?_ | refine a8 ?_ | refine a9 ?_ | refine RW.storeR rfl rfl rfl rfl (by first | rfl | (simp [allOne, cellsL, one1]; done) | (simp [allOne, cellsL, one1]; first | assumption | (refine ⟨?_, ?_⟩ <;> assumption))) rfl ?_ | refine a10 ?_ | refine RW.storeR1 rfl rfl (by first | rfl | exact IsSl.one1 (by assumption) | exact IsSl.one1 (SliceRep.isSl (by assumption))) rfl rfl ?_)
        refine Runs.regionD _ _ [] (fun x hx => List.mem_cons_of_mem _ hx) (List.Sublist.refl _) (by kernel_rfl) ?_
        (first | refine t_fieldB 0 ?_ | refine t_fieldV 0 ?_)
        (first | refine t_loadB 1 ?_ | refine t_loadH 1 ?_ | refine t_loadR 1 ?_)
        refine d2 2 ?_
        (first | refine t_fieldB 3 ?_ | refine t_fieldV 3 ?_)
        (first | refine t_loadB 4 ?_ | refine t_loadH 4 ?_ | refine t_loadR 4 ?_)
        (first | refine t_index 5 ?_ | refine t_indexR 5 ?_)
        (first | refine t_loadB 6 ?_ | refine t_loadH 6 ?_ | refine t_loadR 6 ?_)
        refine t_addI 7 ?_
        refine d2 8 ?_
        refine DW.done (by kernel_rfl) ?_
        repeat (first | refine a1 ?_ | refine a3 ?_ | refine a4 ?_ | refine a5 ?_ | refine a6 ?_ | refine s_loadBs ?_ | refine s_loadHs ?_ | refine s_fieldB ?_ | refine s_fieldV ?_ | refine s_loadB ?_ | refine s_loadH ?_ | refine s_loadR ?_ | refine s_subI ?_ | refine s_index ?_ | refine s_indexR ?_ | refine s_len ?_ | refine s_lenR ?_ | refine s_addI ?_ | refine a7 ?_ | refine a8 ?_ | refine a9 ?_ | refine RW.storeR rfl rfl rfl rfl (by first | rfl | (simp [allOne, cellsL, one1]; done) | (simp [allOne, cellsL, one1]; first | assumption | (refine ⟨?_, ?_⟩ <;> assumption))) rfl ?_ | refine a10 ?_ | refine RW.storeR1 rfl rfl (by first | rfl | exact IsSl.one1 (by assumption) | exact IsSl.one1 (SliceRep.isSl (by assumption))) rfl rfl ?_)
        have hsb := stepP_bound (x := x) hab (show -1 ≤ tv t x.t ∧ tv t x.t + 1000000 ≤ (((M + 1 : Nat) : Int) - 1 - m) * 1000000 by rw [hj]; omega) (by omega)
        refine RW.dec 62 rfl (fun h1 => ?_) (fun h1 => ?_)
        · have hstep : stepP t a x = x.c + tv t (j : Int) := by rw [stepP, hj, if_neg hno, if_pos (.inl h1)]
          rw [hstep] at hsb
          repeat (first | refine a1 ?_ | refine a3 ?_ | refine a4 ?_ | refine a5 ?_ | refine a6 ?_ | refine s_loadBs ?_ | refine s_loadHs ?_ | refine s_fieldB ?_ | refine s_fieldV ?_ | refine s_loadB ?_ | refine s_loadH ?_ | refine s_loadR ?_ | refine s_subI ?_ | refine s_index ?_ | refine s_indexR ?_ | refine s_len ?_ | refine s_lenR ?_ | refine s_addI ?_ | refine a7 ?_ | refine a8 ?_ | refine a9 ?_ | refine RW.storeR rfl rfl rfl rfl (by first | rfl | (simp [allOne, cellsL, one1]; done) | (simp [allOne, cellsL, one1]; first | assumption | (refine ⟨?_, ?_⟩ <;> assumption))) rfl ?_ | refine a10 ?_ | refine RW.storeR1 rfl rfl (by first | rfl | exact IsSl.one1 (by assumption) | exact IsSl.one1 (SliceRep.isSl (by assumption))) rfl rfl ?_)
          refine RW.storeR1 rfl rfl rfl (encI_set (by simpa using hmt)) rfl ?_
          repeat (first | refine a1 ?_ | refine a3 ?_ | refine a4 ?_ | refine a5 ?_ | refine a6 ?_ | refine s_loadBs ?_ | refine s_loadHs ?_ | refine s_fieldB ?_ | refine s_fieldV ?_ | refine s_loadB ?_ | refine s_loadH ?_ | refine s_loadR ?_ | refine s_subI ?_ | refine s_index ?_ | refine s_indexR ?_ | refine s_len ?_ | refine s_lenR ?_ | refine s_addI ?_ | refine a7 ?_ | refine a8 ?_ | refine a9 ?_ | refine RW.storeR rfl rfl rfl rfl (by first | rfl | (simp [allOne, cellsL, one1]; done) | (simp [allOne, cellsL, one1]; first | assumption | (refine ⟨?_, ?_⟩ <;> assumption))) rfl ?_ | refine a10 ?_ | refine RW.storeR1 rfl rfl (by first | rfl | exact IsSl.one1 (by assumption) | exact IsSl.one1 (SliceRep.isSl (by assumption))) rfl rfl ?_)
          rw [List.set_set]
          refine Runs.weak (ih2 (k + 1, _) ⟨by dsimp only; omega, (hnx _ hstep).symm, hsb⟩ (by dsimp only; omega)) (by repeat (first | exact trivial | refine And.intro rfl ?_)) (fun x hx => List.mem_cons_of_mem _ (SubH.h x hx)) (by repeat (first | exact List.nil_sublist _ | exact List.Sublist.refl _ | refine List.Sublist.cons_cons _ ?_ | refine List.Sublist.cons _ ?_))
        · repeat (first | refine a1 ?_ | refine a3 ?_ | refine a4 ?_ | refine a5 ?_ | refine a6 ?_ | refine s_loadBs ?_ | refine s_loadHs ?_ | refine s_fieldB ?_ | refine s_fieldV ?_ | refine s_loadB ?_ | refine s_loadH ?_ | refine s_loadR ?_ | refine s_subI ?_ | refine s_index ?_ | refine s_indexR ?_ | refine s_len ?_ | refine s_lenR ?_ | refine s_addI ?_ | refine a7 ?_ | refine a8 ?_ | refine a9 ?_ | refine RW.storeR rfl rfl rfl rfl (by first | rfl | (simp [allOne, cellsL, one1]; done) | (simp [allOne, cellsL, one1]; first | assumption | (refine ⟨?_, ?_⟩ <;> assumption))) rfl ?_ | refine a10 ?_ | refine RW.storeR1 rfl rfl (by first | rfl | exact IsSl.one1 (by assumption) | exact IsSl.one1 (SliceRep.isSl (by assumption))) rfl rfl ?_)
          refine Runs.cond_d rfl (fun h2 => ?_) (fun h2 => ?_)
          · have hstep : stepP t a x = x.c + tv t (j : Int) := by rw [stepP, hj, if_neg hno, if_pos (.inr h2)]
            rw [hstep] at hsb
            repeat (first | refine a1 ?_ | refine a3 ?_ | refine a4 ?_ | refine a5 ?_ | refine a6 ?_ | refine s_loadBs ?_ | refine s_loadHs ?_ | refine s_fieldB ?_ | refine s_fieldV ?_ | refine s_loadB ?_ | refine s_loadH ?_ | refine s_loadR ?_ | refine s_subI ?_ | refine s_index ?_ | refine s_indexR ?_ | refine s_len ?_ | refine s_lenR ?_ | refine s_addI ?_ | refine a7 ?_ | refine a8 ?_ | refine a9 ?_ | refine RW.storeR rfl rfl rfl rfl (by first | rfl | (simp [allOne, cellsL, one1]; done) | (simp [allOne, cellsL, one1]; first | assumption | (refine ⟨?_, ?_⟩ <;> assumption))) rfl ?_ | refine a10 ?_ | refine RW.storeR1 rfl rfl (by first | rfl | exact IsSl.one1 (by assumption) | exact IsSl.one1 (SliceRep.isSl (by assumption))) rfl rfl ?_)
            refine RW.storeR1 rfl rfl rfl (encI_set (by simpa using hmt)) rfl ?_
            repeat (first | refine a1 ?_ | refine a3 ?_ | refine a4 ?_ | refine a5 ?_ | refine a6 ?_ | refine s_loadBs ?_ | refine s_loadHs ?_ | refine s_fieldB ?_ | refine s_fieldV ?_ | refine s_loadB ?_ | refine s_loadH ?_ | refine s_loadR ?_ | refine s_subI ?_ | refine s_index ?_ | refine s_indexR ?_ | refine s_len ?_ | refine s_lenR ?_ | refine s_addI ?_ | refine a7 ?_ | refine a8 ?_ | refine a9 ?_ | refine RW.storeR rfl rfl rfl rfl (by first | rfl | (simp [allOne, cellsL, one1]; done) | (simp [allOne, cellsL, one1]; first | assumption | (refine ⟨?_, ?_⟩ <;> assumption))) rfl ?_ | refine a10 ?_ | refine RW.storeR1 rfl rfl (by first | rfl | exact IsSl.one1 (by assumption) | exact IsSl.one1 (SliceRep.isSl (by assumption))) rfl rfl ?_)
            rw [List.set_set]
            refine Runs.weak (ih2 (k + 1, _) ⟨by dsimp only; omega, (hnx _ hstep).symm, hsb⟩ (by dsimp only; omega)) (by repeat (first | exact trivial | refine And.intro rfl ?_)) (fun x hx => List.mem_cons_of_mem _ (SubH.h x hx)) (by repeat (first | exact List.nil_sublist _ | exact List.Sublist.refl _ | refine List.Sublist.cons_cons _ ?_ | refine List.Sublist.cons _ ?_))
          · have hstep : stepP t a x = a := by rw [stepP, hj, if_neg hno, if_neg (by omega)]
            repeat (first | refine a1 ?_ | refine a3 ?_ | refine a4 ?_ | refine a5 ?_ | refine a6 ?_ | refine s_loadBs ?_ | refine s_loadHs ?_ | refine s_fieldB ?_ | refine s_fieldV ?_ | refine s_loadB ?_ | refine s_loadH ?_ | refine s_loadR ?_ | refine s_subI ?_ | refine s_index ?_ | refine s_indexR ?_ | refine s_len ?_ | refine s_lenR ?_ | refine s_addI ?_ | refine a7 ?_ | refine a8 ?_ | refine a9 ?_ | refine RW.storeR rfl rfl rfl rfl (by first | rfl | (simp [allOne, cellsL, one1]; done) | (simp [allOne, cellsL, one1]; first | assumption | (refine ⟨?_, ?_⟩ <;> assumption))) rfl ?_ | refine a10 ?_ | refine RW.storeR1 rfl rfl (by first | rfl | exact IsSl.one1 (by assumption) | exact IsSl.one1 (SliceRep.isSl (by assumption))) rfl rfl ?_)
            refine Runs.weak (ih2 (k + 1, a) ⟨by dsimp only; omega, (hnx _ hstep).symm, hab⟩ (by dsimp only; omega)) (by repeat (first | exact trivial | refine And.intro rfl ?_)) (fun x hx => List.mem_cons_of_mem _ (SubH.h x hx)) (by repeat (first | exact List.nil_sublist _ | exact List.Sublist.refl _ | refine List.Sublist.cons_cons _ ?_ | refine List.Sublist.cons _ ?_))
    · have hke : (outOf gl (m : Int)).take k = outOf gl (m : Int) := List.take_of_length_le (by omega)
      rw [hke, hfold] at ha
      have ha' : a = potT gl t (m : Int) := ha
      repeat (first | refine a1 ?_ | refine a3 ?_ | refine a4 ?_ | refine a5 ?_ | refine a6 ?_ | refine s_loadBs ?_ | refine s_loadHs ?_ | refine s_fieldB ?_ | refine s_fieldV ?_ | refine s_loadB ?_ | refine s_loadH ?_ | refine s_loadR ?_ | refine s_subI ?_ | refine s_index ?_ | refine s_indexR ?_ | refine s_len ?_ | refine s_lenR ?_ | refine s_addI ?_ | refine a7 ?_ | refine a8 ?_ | refine a9 ?_ | refine RW.storeR rfl rfl rfl rfl (by first | rfl | (simp [allOne, cellsL, one1]; done) | (simp [allOne, cellsL, one1]; first | assumption | (refine ⟨?_, ?_⟩ <;> assumption))) rfl ?_ | refine a10 ?_ | refine RW.storeR1 rfl rfl (by first | rfl | exact IsSl.one1 (by assumption) | exact IsSl.one1 (SliceRep.isSl (by assumption))) rfl rfl ?_)
      refine Runs.weak (ih (m, t.set m a) ⟨by dsimp only; omega, ?_, ?_⟩ (by dsimp only; omega)) (by repeat (first | exact trivial | refine And.intro rfl ?_)) (fun x hx => List.mem_cons_of_mem _ (SubH.h x hx)) (by repeat (first | exact List.nil_sublist _ | exact List.Sublist.refl _ | refine List.Sublist.cons_cons _ ?_ | refine List.Sublist.cons _ ?_))
      · dsimp only
        rw [ha'] at hab ⊢
        exact hI.next hall (by omega) hab
      · dsimp only
        rw [ha', ← hG, potGo]
  · obtain rfl : n = 0 := by omega
    repeat (first | refine a1 ?_ | refine a3 ?_ | refine a4 ?_ | refine a5 ?_ | refine a6 ?_ | refine s_loadBs ?_ | refine s_loadHs ?_ | refine s_fieldB ?_ | refine s_fieldV ?_ | refine s_loadB ?_ | refine s_loadH ?_ | refine s_loadR ?_ | refine s_subI ?_ | refine s_index ?_ | refine s_indexR ?_ | refine s_len ?_ | refine s_lenR ?_ | refine s_addI ?_ | refine a7 ?_ | refine a8 ?_ | refine a9 ?_ | refine RW.storeR rfl rfl rfl rfl (by first | rfl | (simp [allOne, cellsL, one1]; done) | (simp [allOne, cellsL, one1]; first | assumption | (refine ⟨?_, ?_⟩ <;> assumption))) rfl ?_ | refine a10 ?_ | refine RW.storeR1 rfl rfl (by first | rfl | exact IsSl.one1 (by assumption) | exact IsSl.one1 (SliceRep.isSl (by assumption))) rfl rfl ?_)
    refine Runs.freeze (H := H1) v5 hM (fun H2 hle2 hs2 hc2 => ?_)
    refine Runs.ret2 Try.func19 Try.results19 rfl rfl (fun w hm => hR _ w _ H2 _ (by simp) (hle1.trans hle2) ?_ hm)
    have hG' : t = pot gl (M + 1) := hG
    exact ⟨_, rfl, SliceRep.of_row hs2 (by rw [← hG', hI.1]) (by rw [← hG']; exact ints_rep H2 t) (Snap.le.refl _) hc2⟩

end Go.Proofs.Ytjdhcblofkkibaa

/-
  The links that leave each node. Conditions: the graph is valid.
-/
import Derived.Test.YtjdhcblofkkibaaT4
namespace Go.Proofs.Ytjdhcblofkkibaa
open Go Go.RowKit

/-- The numbers of the links that leave a node, the first of them being number i. -/
def outFrom (i : Nat) (n : Int) : List Lnk → List Int
  | [] => []
  | x :: r => if x.f = n then (i : Int) :: outFrom (i + 1) n r else outFrom (i + 1) n r
def outOf (gl : List Lnk) (n : Int) : List Int := outFrom 0 n gl
theorem outFrom_snoc (n : Int) (x : Lnk) : ∀ (gl : List Lnk) (i : Nat), outFrom i n (gl ++ [x]) = outFrom i n gl ++ if x.f = n then [((i + gl.length : Nat) : Int)] else []
  | [], i => by simp [outFrom]
  | y :: r, i => by
    simp only [List.cons_append, outFrom, outFrom_snoc n x r (i + 1), List.length_cons]
    have : i + 1 + r.length = i + (r.length + 1) := by omega
    rw [this]
    split <;> simp
theorem outOf_snoc (gl : List Lnk) (n : Int) (x : Lnk) : outOf (gl ++ [x]) n = outOf gl n ++ if x.f = n then [(gl.length : Int)] else [] := by
  unfold outOf; rw [outFrom_snoc]; simp
theorem outFrom_mem {n : Int} : ∀ (gl : List Lnk) (i : Nat) (j : Int), j ∈ outFrom i n gl ↔ ∃ k x, gl[k]? = some x ∧ x.f = n ∧ j = ((i + k : Nat) : Int)
  | [], i, j => by simp [outFrom]
  | y :: r, i, j => by
    have ih := outFrom_mem (n := n) r (i + 1) j
    unfold outFrom
    constructor
    · intro h
      split at h
      · rcases List.mem_cons.1 h with rfl | h
        · exact ⟨0, y, rfl, by assumption, by simp⟩
        · obtain ⟨k, x, h1, h2, h3⟩ := ih.1 h
          exact ⟨k + 1, x, by simpa using h1, h2, by rw [h3]; congr 1; omega⟩
      · obtain ⟨k, x, h1, h2, h3⟩ := ih.1 h
        exact ⟨k + 1, x, by simpa using h1, h2, by rw [h3]; congr 1; omega⟩
    · rintro ⟨k, x, h1, h2, h3⟩
      cases k with
      | zero =>
        simp at h1; subst h1
        rw [if_pos h2, h3]; simp
      | succ k =>
        have h4 : j ∈ outFrom (i + 1) n r := ih.2 ⟨k, x, by simpa using h1, h2, by rw [h3]; congr 1; omega⟩
        split
        · exact List.mem_cons_of_mem _ h4
        · exact h4
theorem outOf_length (gl : List Lnk) (n : Int) : (outOf gl n).length ≤ gl.length := by
  have : ∀ (gl : List Lnk) (i : Nat), (outFrom i n gl).length ≤ gl.length := by
    intro gl
    induction gl with
    | nil => intro i; simp [outFrom]
    | cons x r ih =>
      intro i
      unfold outFrom
      have := ih (i + 1)
      split <;> simp <;> omega
  exact this gl 0

/-- Rows of ours, one for each list of numbers. -/
def inners : List Value → List (List Int) → List Own
  | v :: vs, x :: xs => .row 3 1 v x.length (x.map fun i => .int .i64 i) :: inners vs xs
  | _, _ => []
theorem inners_append : ∀ (a : List Value) (x : List (List Int)) (b : List Value) (y : List (List Int)), a.length = x.length → inners (a ++ b) (x ++ y) = inners a x ++ inners b y
  | [], [], b, y, _ => rfl
  | [], _ :: _, _, _, h => by simp at h
  | _ :: _, [], _, _, h => by simp at h
  | v :: a, x :: xs, b, y, h => by simp only [List.cons_append, inners]; rw [inners_append a xs b y (by simpa using h)]
theorem Mem.freezeInners {E : Ent} {w : World} (hM : E.M = []) : ∀ (vs : List Value) (xss : List (List Int)) (Hs : List Snap) (H : Snap) (O : List Own), vs.length = xss.length → H ∈ Hs → Mem E w Hs (inners vs xss ++ O) →
    ∃ H', H.le H' ∧ Mem E w (H' :: Hs) O ∧ CellsRep H' (SlL I64) xss vs
  | [], [], Hs, H, O, _, hH, hm => ⟨H, Snap.le.refl H, hm.sub (by
      intro x hx
      rcases List.mem_cons.1 hx with rfl | hx
      · exact List.mem_cons_of_mem _ hH
      · exact List.mem_cons_of_mem _ hx) (List.Sublist.refl _), rfl⟩
  | [], _ :: _, _, _, _, h, _, _ => by simp at h
  | _ :: _, [], _, _, _, h, _, _ => by simp at h
  | v :: vs, x :: xss, Hs, H, O, hl, hH, hm => by
    have i : InH Hs H := ⟨hH⟩
    obtain ⟨H1, h1, h2, h3, h4⟩ := Mem.freezeRow (H := H) (v := v) (O := .row 3 1 v x.length (x.map fun i => .int .i64 i) :: (inners vs xss ++ O)) hM hm
    obtain ⟨H2, h5, h6, h7⟩ := Mem.freezeInners hM vs xss (H1 :: Hs) H1 O (by simpa using hl) (List.mem_cons_self ..) h4
    refine ⟨H2, h1.trans h5, h6.sub ?_ (List.Sublist.refl _), [v], vs, rfl, ⟨v, rfl, ?_⟩, h7⟩
    · intro y hy
      rcases List.mem_cons.1 hy with rfl | hy
      · exact List.mem_cons_of_mem _ (List.mem_cons_self ..)
      · exact List.mem_cons_of_mem _ (List.mem_cons_of_mem _ (List.mem_cons_of_mem _ hy))
    · exact (SliceRep.of_row h2 rfl (ints_rep H1 x) (Snap.le.refl _) h3).mono h5
theorem Runs.freezeInners {P : Program} {f : FuncId} {n : Nat} {E : Ent} {R : Value → World → Prop} {k : List Item} {Hs : List Snap} {O : List Own} {l : Env} {H : Snap} (vs : List Value) (xss : List (List Int)) (hl : vs.length = xss.length) [i : InH Hs H] (hM : E.M = [])
    (h : ∀ H', H.le H' → CellsRep H' (SlL I64) xss vs → Runs P f n E R k (H' :: Hs) O l) : Runs P f n E R k Hs (inners vs xss ++ O) l := by
  intro w hm
  obtain ⟨H', h1, h2, h3⟩ := hm.freezeInners hM vs xss Hs H O hl i.h
  exact h H' h1 h3 w h2

def outsOf (N : Nat) (gl : List Lnk) : List (List Int) := (List.range N).map fun (n : Nat) => outOf gl (n : Int)
theorem outsOf_length (N : Nat) (gl : List Lnk) : (outsOf N gl).length = N := by simp [outsOf]
theorem outsOf_at {N : Nat} {gl : List Lnk} {i : Nat} (h : i < N) : (outsOf N gl)[i]? = some (outOf gl (i : Int)) := by simp [outsOf, h]
theorem outsOf_snoc {N i : Nat} {gl : List Lnk} {x : Lnk} (hx : x.f = (i : Int)) : outsOf N (gl ++ [x]) = (outsOf N gl).set i (outOf gl (i : Int) ++ [(gl.length : Int)]) := by
  apply List.ext_getElem?
  intro j
  rw [List.getElem?_set]
  by_cases hj : j < N
  · rw [outsOf_at hj, outsOf_at hj, outOf_snoc, outsOf_length]
    by_cases hij : i = j
    · subst hij; simp [hj, hx]
    · rw [if_neg (by rw [hx]; omega), if_neg hij]; simp
  · rw [List.getElem?_eq_none (by rw [outsOf_length]; omega), outsOf_length]
    by_cases hij : i = j
    · subst hij; rw [if_pos rfl, if_neg hj]
    · rw [if_neg hij, List.getElem?_eq_none (by rw [outsOf_length]; omega)]

theorem inners_at : ∀ (cs : List Value) (xss : List (List Int)) (i : Nat) (v : Value) (x : List Int), cs[i]? = some v → xss[i]? = some x →
    (inners cs xss).Perm (.row 3 1 v x.length (x.map fun i => .int .i64 i) :: inners (cs.eraseIdx i) (xss.eraseIdx i))
  | [], _, _, _, _, h, _ => by simp at h
  | _ :: _, [], _, _, _, _, h => by simp at h
  | c :: cs, y :: ys, 0, v, x, h1, h2 => by
    simp at h1 h2; subst h1; subst h2
    exact List.Perm.refl _
  | c :: cs, y :: ys, i + 1, v, x, h1, h2 => by
    simp only [List.eraseIdx_cons_succ, inners]
    exact (List.Perm.cons _ (inners_at cs ys i v x (by simpa using h1) (by simpa using h2))).trans (List.Perm.swap ..)
theorem inners_set (cs : List Value) (xss : List (List Int)) (i : Nat) (v : Value) (x : List Int) (h1 : i < cs.length) (h2 : i < xss.length) :
    (inners (cs.set i v) (xss.set i x)).Perm (.row 3 1 v x.length (x.map fun i => .int .i64 i) :: inners (cs.eraseIdx i) (xss.eraseIdx i)) := by
  have := inners_at (cs.set i v) (xss.set i x) i v x (by simp [h1]) (by simp [h2])
  rwa [List.eraseIdx_set_eq, List.eraseIdx_set_eq] at this
theorem Mem.addNils {E : Ent} {w : World} {Hs : List Snap} {O : List Own} (hm : Mem E w Hs O) : ∀ N, Mem E w Hs (inners (repL N [.slice none 0 0]) (List.replicate N []) ++ O)
  | 0 => hm
  | N + 1 => (hm.addNils N).addNil 3 1
theorem Runs.addNils' {P : Program} {f : FuncId} {n : Nat} {E : Ent} {R : Value → World → Prop} {k : List Item} {Hs : List Snap} {O : List Own} {l : Env} (N : Nat) (h : Runs P f n E R k Hs (inners (repL N [.slice none 0 0]) (List.replicate N []) ++ O) l) : Runs P f n E R k Hs O l :=
  fun w hm => h w (hm.addNils N)
set_option maxHeartbeats 1000000 in
theorem out_c {H : Snap} {vl : Value} {N : Nat} {gl : List Lnk} (hl : SliceRep H LinkL vl gl) (hg : validG N gl) :
    Pure Try.prog 44 #[.agg #[.int .i64 (N : Int), vl]] H (fun H' r => SliceRep H' (SlL I64) r (outsOf N gl)) := by
  have hb := hl.isSl.bound
  obtain ⟨hN1, hN2, hlen, hall⟩ := hg
  refine Pure.intro Try.func44 rfl Try.ntmps44 rfl (fun E R hM hR => ?_)
  repeat (first | refine a1 ?_ | refine a3 ?_ | refine a4 ?_ | refine a5 ?_ | refine a6 ?_ | refine s_fieldB ?_ | refine s_fieldV ?_ | refine s_loadB ?_ | refine s_loadH ?_ | refine s_loadR ?_ | refine s_len ?_ | refine s_lenR ?_ | refine s_index ?_ | refine s_indexR ?_ | refine s_loadBs ?_ | refine s_loadHs ?_ | refine s_addI ?_ | refine a7 ?_ | refine a8 ?_ | refine a9 ?_ | refine RW.storeR rfl rfl rfl rfl (by first | rfl | (simp [allOne, cellsL, one1]; done) | (simp [allOne, cellsL, one1]; first | assumption | (refine ⟨?_, ?_⟩ <;> assumption))) rfl ?_ | refine a10 ?_ | refine RW.storeR1 rfl rfl (by first | rfl | exact IsSl.one1 (by assumption) | exact IsSl.one1 (SliceRep.isSl (by assumption))) rfl rfl ?_)
  refine RW.box rfl rfl rfl rfl (fun b1 => ?_)
  repeat (first | refine a1 ?_ | refine a3 ?_ | refine a4 ?_ | refine a5 ?_ | refine a6 ?_ | refine s_fieldB ?_ | refine s_fieldV ?_ | refine s_loadB ?_ | refine s_loadH ?_ | refine s_loadR ?_ | refine s_len ?_ | refine s_lenR ?_ | refine s_index ?_ | refine s_indexR ?_ | refine s_loadBs ?_ | refine s_loadHs ?_ | refine s_addI ?_ | refine a7 ?_ | refine a8 ?_ | refine a9 ?_ | refine RW.storeR rfl rfl rfl rfl (by first | rfl | (simp [allOne, cellsL, one1]; done) | (simp [allOne, cellsL, one1]; first | assumption | (refine ⟨?_, ?_⟩ <;> assumption))) rfl ?_ | refine a10 ?_ | refine RW.storeR1 rfl rfl (by first | rfl | exact IsSl.one1 (by assumption) | exact IsSl.one1 (SliceRep.isSl (by assumption))) rfl rfl ?_)
  refine RW.make rfl rfl rfl (by decide) (by omega) (by omega) rfl rfl (fun v3 hv3 => ?_)
  repeat (first | refine a1 ?_ | refine a3 ?_ | refine a4 ?_ | refine a5 ?_ | refine a6 ?_ | refine s_fieldB ?_ | refine s_fieldV ?_ | refine s_loadB ?_ | refine s_loadH ?_ | refine s_loadR ?_ | refine s_len ?_ | refine s_lenR ?_ | refine s_index ?_ | refine s_indexR ?_ | refine s_loadBs ?_ | refine s_loadHs ?_ | refine s_addI ?_ | refine a7 ?_ | refine a8 ?_ | refine a9 ?_ | refine RW.storeR rfl rfl rfl rfl (by first | rfl | (simp [allOne, cellsL, one1]; done) | (simp [allOne, cellsL, one1]; first | assumption | (refine ⟨?_, ?_⟩ <;> assumption))) rfl ?_ | refine a10 ?_ | refine RW.storeR1 rfl rfl (by first | rfl | exact IsSl.one1 (by assumption) | exact IsSl.one1 (SliceRep.isSl (by assumption))) rfl rfl ?_)
  refine Runs.addNils' N ?_
  refine Runs.perm List.perm_append_comm ?_
  simp only [List.cons_append, List.nil_append]
  refine Runs.loop (fun (s : Nat × List Value) => s.1 ≤ gl.length ∧ s.2.length = N) (fun s => gl.length - s.1) (fun _ => [H])
    (fun s => .row 34 1 v3 N s.2 :: .blk b1 29 [.int .i64 (N : Int), vl] :: inners s.2 (outsOf N (gl.take s.1)))
    (fun s => [(1, .pointer (some ⟨b1, 0, none⟩)), (3, v3), (10, vl), (11, .int .i64 (gl.length : Int)), (12, .int .i64 (s.1 : Int))]) (0, repL N [.slice none 0 0]) ⟨Nat.zero_le _, by simp [repL_length]⟩ ?_ ?_
  · intro h
    have h0 : outsOf N (gl.take 0) = List.replicate N [] := by
      apply List.ext_getElem?
      intro j
      by_cases hj : j < N
      · rw [outsOf_at hj]; simp [hj, outOf, outFrom]
      · rw [List.getElem?_eq_none (by rw [outsOf_length]; omega), List.getElem?_eq_none (by simp; omega)]
    dsimp only at h
    rw [h0] at h
    generalize inners (repL N [.slice none 0 0]) (List.replicate N []) = Q at h ⊢
    refine Runs.weak (h) (by repeat (first | exact trivial | refine And.intro rfl ?_)) (fun x hx => List.mem_cons_of_mem _ (SubH.h x hx)) (by repeat (first | exact List.nil_sublist _ | exact List.Sublist.refl _ | refine List.Sublist.cons_cons _ ?_ | refine List.Sublist.cons _ ?_))
  · rintro ⟨k, cs⟩ ⟨hk, hcl⟩ ih
    dsimp only at hk hcl ⊢
    have htk : (gl.take k).length = k := by simp; omega
    repeat (first | refine a1 ?_ | refine a3 ?_ | refine a4 ?_ | refine a5 ?_ | refine a6 ?_ | refine s_fieldB ?_ | refine s_fieldV ?_ | refine s_loadB ?_ | refine s_loadH ?_ | refine s_loadR ?_ | refine s_len ?_ | refine s_lenR ?_ | refine s_index ?_ | refine s_indexR ?_ | refine s_loadBs ?_ | refine s_loadHs ?_ | refine s_addI ?_ | refine a7 ?_ | refine a8 ?_ | refine a9 ?_ | refine RW.storeR rfl rfl rfl rfl (by first | rfl | (simp [allOne, cellsL, one1]; done) | (simp [allOne, cellsL, one1]; first | assumption | (refine ⟨?_, ?_⟩ <;> assumption))) rfl ?_ | refine a10 ?_ | refine RW.storeR1 rfl rfl (by first | rfl | exact IsSl.one1 (by assumption) | exact IsSl.one1 (SliceRep.isSl (by assumption))) rfl rfl ?_)
    refine Runs.cond_d rfl (fun hlt => ?_) (fun hlt => ?_)
    · obtain ⟨x, hx⟩ : ∃ x, gl[k]? = some x := ⟨_, List.getElem?_eq_getElem (by omega)⟩
      have hxo := hall x (List.mem_of_getElem? hx)
      unfold okL at hxo
      obtain ⟨i, hi⟩ : ∃ i : Nat, x.f = (i : Int) := ⟨x.f.toNat, by omega⟩
      have hiN : i < N := by omega
      have hload : ∀ j u, [Value.int .i64 x.f, .int .i64 x.t, .int .i64 x.lab, .int .i64 x.c][j]? = some u → H.cell (vat vl (k * 4 + j)) = some u := fun j u hu => hl.flat hx hu
      rw [hi] at hload
      obtain ⟨v, hv⟩ : ∃ v, cs[i]? = some v := ⟨_, List.getElem?_eq_getElem (by omega)⟩
      have hv' : cs[i * 1]? = some v := by rw [Nat.mul_one]; exact hv
      have hnx : outsOf N (gl.take (k + 1)) = (outsOf N (gl.take k)).set i (outOf (gl.take k) (i : Int) ++ [(k : Int)]) := by
        rw [take_snoc_of hx, outsOf_snoc hi, htk]
      repeat (first | refine a1 ?_ | refine a3 ?_ | refine a4 ?_ | refine a5 ?_ | refine a6 ?_ | refine s_fieldB ?_ | refine s_fieldV ?_ | refine s_loadB ?_ | refine s_loadH ?_ | refine s_loadR ?_ | refine s_len ?_ | refine s_lenR ?_ | refine s_index ?_ | refine s_indexR ?_ | refine s_loadBs ?_ | refine s_loadHs ?_ | refine s_addI ?_ | refine a7 ?_ | refine a8 ?_ | refine a9 ?_ | refine RW.storeR rfl rfl rfl rfl (by first | rfl | (simp [allOne, cellsL, one1]; done) | (simp [allOne, cellsL, one1]; first | assumption | (refine ⟨?_, ?_⟩ <;> assumption))) rfl ?_ | refine a10 ?_ | refine RW.storeR1 rfl rfl (by first | rfl | exact IsSl.one1 (by assumption) | exact IsSl.one1 (SliceRep.isSl (by assumption))) rfl rfl ?_)
      try refine RW.q (QV.loadHs rfl (hload)) rfl rfl ?_
      refine RW.alloc rfl rfl rfl (fun b5 => ?_)
      repeat (first | refine a1 ?_ | refine a3 ?_ | refine a4 ?_ | refine a5 ?_ | refine a6 ?_ | refine s_fieldB ?_ | refine s_fieldV ?_ | refine s_loadB ?_ | refine s_loadH ?_ | refine s_loadR ?_ | refine s_len ?_ | refine s_lenR ?_ | refine s_index ?_ | refine s_indexR ?_ | refine s_loadBs ?_ | refine s_loadHs ?_ | refine s_addI ?_ | refine a7 ?_ | refine a8 ?_ | refine a9 ?_ | refine RW.storeR rfl rfl rfl rfl (by first | rfl | (simp [allOne, cellsL, one1]; done) | (simp [allOne, cellsL, one1]; first | assumption | (refine ⟨?_, ?_⟩ <;> assumption))) rfl ?_ | refine a10 ?_ | refine RW.storeR1 rfl rfl (by first | rfl | exact IsSl.one1 (by assumption) | exact IsSl.one1 (SliceRep.isSl (by assumption))) rfl rfl ?_)
      refine Runs.perm (O' := .blk b5 58 [.int .i64 i, .int .i64 x.t, .int .i64 x.lab, .int .i64 x.c] :: .row 3 1 v (outOf (gl.take k) i).length ((outOf (gl.take k) i).map fun i => .int .i64 i) :: .row 34 1 v3 N cs :: .blk b1 29 [.int .i64 (N : Int), vl] :: inners (cs.eraseIdx i) ((outsOf N (gl.take k)).eraseIdx i)) ?_ ?_
      · refine List.Perm.cons _ ((List.Perm.cons _ (List.Perm.cons _ (inners_at cs _ i v _ hv (outsOf_at hiN)))).trans ?_)
        exact (List.Perm.cons _ (List.Perm.swap ..)).trans (List.Perm.swap ..)
      · have hset := fun v' => inners_set cs (outsOf N (gl.take k)) i v' (outOf (gl.take k) (i : Int) ++ [(k : Int)]) (by omega) (by rw [outsOf_length]; exact hiN)
        rw [← hnx] at hset
        generalize inners (cs.eraseIdx i) ((outsOf N (gl.take k)).eraseIdx i) = Q at hset ⊢
        refine Runs.rowSl v (fun hvs hv1 => ?_)
        have hol := outOf_length (gl.take k) i
        refine Runs.regionD _ (.blk b5 58 [.int .i64 i, .int .i64 x.t, .int .i64 x.lab, .int .i64 x.c] :: .row 34 1 v3 N cs :: .blk b1 29 [.int .i64 (N : Int), vl] :: Q) [12] (fun x hx => List.mem_cons_of_mem _ hx) SubO.h (by kernel_rfl) ?_
        refine d2 0 ?_
        (first | refine t_fieldB 1 ?_ | refine t_fieldV 1 ?_)
        (first | refine t_loadB 2 ?_ | refine t_loadH 2 ?_ | refine t_loadR 2 ?_)
        refine d2 3 ?_
        (first | refine t_fieldB 4 ?_ | refine t_fieldV 4 ?_)
        (first | refine t_loadB 5 ?_ | refine t_loadH 5 ?_ | refine t_loadR 5 ?_)
        (first | refine t_index 6 ?_ | refine t_indexR 6 ?_)
        (first | refine t_loadB 7 ?_ | refine t_loadH 7 ?_ | refine t_loadR 7 ?_)
        refine d2 8 ?_
        refine DW.buildSlice 9 rfl (by kernel_rfl) rfl rfl rfl rfl rfl rfl rfl (fun v9 hs9 => ?_)
        refine DW.appendR 10 rfl (by kernel_rfl) rfl rfl (by assumption) rfl rfl rfl (by decide) (by omega) (by omega) (fun _ => inferInstance) rfl rfl (fun _ => inferInstance) inferInstance (fun v10 hs10 => ?_)
        (first | refine t_index 11 ?_ | refine t_indexR 11 ?_)
        (first | refine DW.storeR 12 rfl (by kernel_rfl) rfl rfl rfl (by rw [Nat.mul_one]; exact setAt_set _ _ _ (by omega)) rfl (by first | rfl | (simp [allOne, cellsL, one1]; done) | (simp [allOne, cellsL, one1]; first | assumption | (refine ⟨?_, ?_⟩ <;> assumption))) rfl ?_ | refine DW.storeR1 12 rfl (by kernel_rfl) rfl rfl rfl (by first | rfl | exact IsSl.one1 (by assumption) | exact IsSl.one1 (SliceRep.isSl (by assumption))) (by rw [Nat.mul_one]; exact setAt_set _ _ _ (by omega)) rfl ?_)
        refine DW.done (by kernel_rfl) ?_
        repeat (first | refine a1 ?_ | refine a3 ?_ | refine a4 ?_ | refine a5 ?_ | refine a6 ?_ | refine s_fieldB ?_ | refine s_fieldV ?_ | refine s_loadB ?_ | refine s_loadH ?_ | refine s_loadR ?_ | refine s_len ?_ | refine s_lenR ?_ | refine s_index ?_ | refine s_indexR ?_ | refine s_loadBs ?_ | refine s_loadHs ?_ | refine s_addI ?_ | refine a7 ?_ | refine a8 ?_ | refine a9 ?_ | refine RW.storeR rfl rfl rfl rfl (by first | rfl | (simp [allOne, cellsL, one1]; done) | (simp [allOne, cellsL, one1]; first | assumption | (refine ⟨?_, ?_⟩ <;> assumption))) rfl ?_ | refine a10 ?_ | refine RW.storeR1 rfl rfl (by first | rfl | exact IsSl.one1 (by assumption) | exact IsSl.one1 (SliceRep.isSl (by assumption))) rfl rfl ?_)
        have h := ih (k + 1, cs.set i v10) ⟨by dsimp only; omega, by dsimp only; rw [List.length_set]; exact hcl⟩ (by dsimp only; omega)
        dsimp only at h
        replace h := Runs.perm ((List.Perm.swap ..).trans ((List.Perm.cons _ (List.Perm.swap ..)).trans (List.Perm.cons _ (List.Perm.cons _ (hset v10).symm)))) h
        rw [List.length_append, List.map_append] at h
        refine Runs.weak (h) (by repeat (first | exact trivial | refine And.intro rfl ?_)) (fun x hx => List.mem_cons_of_mem _ (SubH.h x hx)) (by repeat (first | exact List.nil_sublist _ | exact List.Sublist.refl _ | refine List.Sublist.cons_cons _ ?_ | refine List.Sublist.cons _ ?_))
    · have hke : gl.take k = gl := List.take_of_length_le (by omega)
      rw [hke]
      repeat (first | refine a1 ?_ | refine a3 ?_ | refine a4 ?_ | refine a5 ?_ | refine a6 ?_ | refine s_fieldB ?_ | refine s_fieldV ?_ | refine s_loadB ?_ | refine s_loadH ?_ | refine s_loadR ?_ | refine s_len ?_ | refine s_lenR ?_ | refine s_index ?_ | refine s_indexR ?_ | refine s_loadBs ?_ | refine s_loadHs ?_ | refine s_addI ?_ | refine a7 ?_ | refine a8 ?_ | refine a9 ?_ | refine RW.storeR rfl rfl rfl rfl (by first | rfl | (simp [allOne, cellsL, one1]; done) | (simp [allOne, cellsL, one1]; first | assumption | (refine ⟨?_, ?_⟩ <;> assumption))) rfl ?_ | refine a10 ?_ | refine RW.storeR1 rfl rfl (by first | rfl | exact IsSl.one1 (by assumption) | exact IsSl.one1 (SliceRep.isSl (by assumption))) rfl rfl ?_)
      refine Runs.perm (O' := inners cs (outsOf N gl) ++ [.row 34 1 v3 N cs, .blk b1 29 [.int .i64 (N : Int), vl]]) ?_ ?_
      · exact List.perm_append_comm (l₁ := [_, _])
      refine Runs.freezeInners (H := H) cs (outsOf N gl) (by rw [outsOf_length]; exact hcl) hM (fun H1 hle1 hc1 => ?_)
      refine Runs.freeze (H := H1) v3 hM (fun H2 hle2 hs2 hc2 => ?_)
      refine Runs.ret1 Try.func44 Try.results44 rfl (fun w hm => hR _ w _ H2 _ (by simp) (hle1.trans hle2) ?_ hm)
      exact SliceRep.of_row hs2 (outsOf_length N gl).symm hc1 hle2 hc2

end Go.Proofs.Ytjdhcblofkkibaa

/-
  The law ProofMatchesReference. Conditions: the arguments' form.
-/
import Derived.Test.YthlolpckgffebaaPm
import Derived.Test.YthlolpckgffebaaT15
namespace Go.Proofs.Ythlolpckgffebaa
open Go Go.RowKit

theorem encL_cells : ∀ {gl : List Lnk} {k j : Nat} {x : Lnk} {u : Value}, gl[k]? = some x → [Value.int .i64 x.f, .int .i64 x.t, .int .i64 x.lab, .int .i64 x.c][j]? = some u → (encL gl)[k * 4 + j]? = some u
  | [], k, j, x, u, h, _ => by simp at h
  | y :: r, 0, j, x, u, h, hu => by
    simp at h; subst h
    have hj : j < 4 := (List.getElem?_eq_some_iff.1 hu).1
    rw [encL, List.flatMap_cons, Nat.zero_mul, Nat.zero_add, List.getElem?_append_left (by simpa using hj)]
    exact hu
  | y :: r, k + 1, j, x, u, h, hu => by
    rw [encL, List.flatMap_cons, List.getElem?_append_right (by simp; omega)]
    have e : (k + 1) * 4 + j - [Value.int .i64 y.f, .int .i64 y.t, .int .i64 y.lab, .int .i64 y.c].length = k * 4 + j := by simp; omega
    rw [e]
    exact encL_cells (gl := r) (by simpa using h) hu
theorem encL_len : ∀ r : List Lnk, (encL r).length = r.length * 4
  | [] => rfl
  | x :: r => by have := encL_len r; simp only [encL, List.flatMap_cons, List.length_append, List.length_cons, List.length_nil] at *; omega
theorem encL_put : ∀ {gl : List Lnk} {k j : Nat} {x x' : Lnk} {u : Value}, gl[k]? = some x → [Value.int .i64 x'.f, .int .i64 x'.t, .int .i64 x'.lab, .int .i64 x'.c] = [Value.int .i64 x.f, .int .i64 x.t, .int .i64 x.lab, .int .i64 x.c].set j u → j < 4 → setAt (encL gl) (k * 4 + j) u = some (encL (gl.set k x'))
  | [], k, j, x, x', u, h, _, _ => by simp at h
  | y :: r, 0, j, x, x', u, h, hu, hj => by
    simp at h; subst h
    rw [setAt_set _ _ _ (by simp [encL]; omega)]
    simp only [encL, List.flatMap_cons, List.set_cons_zero, Nat.zero_mul, Nat.zero_add]
    rw [hu, List.set_append_left _ _ (by simpa using hj)]
  | y :: r, k + 1, j, x, x', u, h, hu, hj => by
    have ih := encL_put (gl := r) (k := k) (x := x) (by simpa using h) hu hj
    have hk := (List.getElem?_eq_some_iff.1 h).1
    have hlen : (encL r).length = r.length * 4 := encL_len r
    have hb : k * 4 + j < (encL r).length := by rw [hlen]; simp at hk; omega
    rw [setAt_set _ _ _ hb] at ih
    simp only [Option.some.injEq] at ih
    rw [setAt_set _ _ _ (by simp only [encL, List.flatMap_cons] at *; simp; simp at hb; omega)]
    simp only [encL, List.flatMap_cons, List.set_cons_succ] at ih ⊢
    rw [List.set_append_right _ _ (by simp; omega)]
    have e : (k + 1) * 4 + j - [Value.int .i64 y.f, .int .i64 y.t, .int .i64 y.lab, .int .i64 y.c].length = k * 4 + j := by simp; omega
    rw [e, ih]

def GraphL : Lay (Int × List Lnk) where
  sz := 2
  rep H x c := ∃ v, c = [.int .i64 x.1, v] ∧ SliceRep H LinkL v x.2
  mono := by rintro H H' x c hle ⟨v, h1, h2⟩; exact ⟨v, h1, h2.mono hle⟩
  len := by rintro H x c ⟨v, rfl, _⟩; rfl
  one := by
    rintro H x c ⟨v, rfl, ⟨⟨A, cap, rfl, _⟩, _⟩⟩ u hu
    simp at hu
    rcases hu with rfl | rfl <;> rfl
theorem SliceRep.graph {H : Snap} {v : Value} {xs : List (Int × List Lnk)} (h : SliceRep H GraphL v xs) {k : Nat} {x : Int × List Lnk} (hx : xs[k]? = some x) :
    ∃ vl, SliceRep H LinkL vl x.2 ∧ ∀ j u, [.int .i64 x.1, vl][j]? = some u → H.cell (vat v (k * 2 + j)) = some u := by
  obtain ⟨c, ⟨vl, rfl, h1⟩, h2⟩ := h.at hx
  exact ⟨vl, h1, h2⟩

theorem right_pot (N : Int) (gl : List Lnk) : decide (rightP N gl (potL N gl)) = decide (potE N gl = 0) := by
  rw [decide_eq_decide]
  unfold rightP potL potE
  by_cases hg : validG N gl
  · simp [hg]
  · simp [hg]
def oddL (gl : List Lnk) (w0 w1 w2 : Int) : List Lnk :=
  match gl[(w0 % 256 % (gl.length : Int)).toNat]? with
  | some x => gl.set (w0 % 256 % (gl.length : Int)).toNat ⟨x.f, x.t + w1, x.lab, x.c + w2⟩
  | none => gl

set_option maxHeartbeats 4000000 in
theorem matches16_c {H : Snap} {n : Int} {vL vh : Value} {xs : List (Int × Int × Int)} {h : List Int} {w0 w1 w2 : Int} (hl : SliceRep H TriL vL xs) (hn : isByte n) (hx : ∀ x ∈ xs, triOk x) (hh : SliceRep H I64 vh h) (hw0 : isI8 w0) (hw1 : isI8 w1) (hw2 : isI8 w2) :
    Pure Try.prog 3 #[.agg #[.int .u8 n, vL], vh, .agg #[.int .i8 w0, .int .i8 w1, .int .i8 w2]] H (fun _ r => r = .bool true) := by
  have hg := made_valid n hx
  have hbh := hh.isSl.bound
  unfold isI8 at hw0 hw1 hw2
  refine Pure.intro Try.func3 rfl Try.ntmps3 rfl (fun E R hM hR => ?_)
  repeat (first | refine a1 ?_ | refine a3 ?_ | refine a4 ?_ | refine a5 ?_ | refine a6 ?_ | refine s_len ?_ | refine s_lenR ?_ | refine s_loadBs ?_ | refine s_loadHs ?_ | refine s_fieldB ?_ | refine s_fieldV ?_ | refine s_loadB ?_ | refine s_loadH ?_ | refine s_loadR ?_ | refine s_build ?_ | refine s_indexArrT ?_ | refine s_indexArrB ?_ | refine s_convI ?_ | refine s_rem ?_ | refine s_index ?_ | refine s_indexR ?_ | refine s_addI ?_ | refine s_neqB ?_ | refine s_conv ?_ | refine a7 ?_ | refine a8 ?_ | refine a9 ?_ | refine RW.storeR rfl rfl rfl rfl (by first | rfl | (simp [allOne, cellsL, one1]; done) | (simp [allOne, cellsL, one1]; first | assumption | (refine ⟨?_, ?_⟩ <;> assumption))) rfl ?_ | refine a10 ?_ | refine RW.storeR1 rfl rfl (by first | rfl | exact IsSl.one1 (by assumption) | exact IsSl.one1 (SliceRep.isSl (by assumption))) rfl rfl ?_)
  refine RW.box rfl rfl rfl rfl (fun b3 => ?_)
  refine RW.box rfl rfl rfl rfl (fun b5 => ?_)
  repeat (first | refine a1 ?_ | refine a3 ?_ | refine a4 ?_ | refine a5 ?_ | refine a6 ?_ | refine s_len ?_ | refine s_lenR ?_ | refine s_loadBs ?_ | refine s_loadHs ?_ | refine s_fieldB ?_ | refine s_fieldV ?_ | refine s_loadB ?_ | refine s_loadH ?_ | refine s_loadR ?_ | refine s_build ?_ | refine s_indexArrT ?_ | refine s_indexArrB ?_ | refine s_convI ?_ | refine s_rem ?_ | refine s_index ?_ | refine s_indexR ?_ | refine s_addI ?_ | refine s_neqB ?_ | refine s_conv ?_ | refine a7 ?_ | refine a8 ?_ | refine a9 ?_ | refine RW.storeR rfl rfl rfl rfl (by first | rfl | (simp [allOne, cellsL, one1]; done) | (simp [allOne, cellsL, one1]; first | assumption | (refine ⟨?_, ?_⟩ <;> assumption))) rfl ?_ | refine a10 ?_ | refine RW.storeR1 rfl rfl (by first | rfl | exact IsSl.one1 (by assumption) | exact IsSl.one1 (SliceRep.isSl (by assumption))) rfl rfl ?_)
  refine RW.callV rfl (sanity16_c (H := H)) rfl rfl ?_
  rintro _ _ rfl
  repeat (first | refine a1 ?_ | refine a3 ?_ | refine a4 ?_ | refine a5 ?_ | refine a6 ?_ | refine s_len ?_ | refine s_lenR ?_ | refine s_loadBs ?_ | refine s_loadHs ?_ | refine s_fieldB ?_ | refine s_fieldV ?_ | refine s_loadB ?_ | refine s_loadH ?_ | refine s_loadR ?_ | refine s_build ?_ | refine s_indexArrT ?_ | refine s_indexArrB ?_ | refine s_convI ?_ | refine s_rem ?_ | refine s_index ?_ | refine s_indexR ?_ | refine s_addI ?_ | refine s_neqB ?_ | refine s_conv ?_ | refine a7 ?_ | refine a8 ?_ | refine a9 ?_ | refine RW.storeR rfl rfl rfl rfl (by first | rfl | (simp [allOne, cellsL, one1]; done) | (simp [allOne, cellsL, one1]; first | assumption | (refine ⟨?_, ?_⟩ <;> assumption))) rfl ?_ | refine a10 ?_ | refine RW.storeR1 rfl rfl (by first | rfl | exact IsSl.one1 (by assumption) | exact IsSl.one1 (SliceRep.isSl (by assumption))) rfl rfl ?_)
  refine Runs.cond_d rfl (fun h8 => ?_) (fun h8 => ?_)
  · repeat (first | refine a1 ?_ | refine a3 ?_ | refine a4 ?_ | refine a5 ?_ | refine a6 ?_ | refine s_len ?_ | refine s_lenR ?_ | refine s_loadBs ?_ | refine s_loadHs ?_ | refine s_fieldB ?_ | refine s_fieldV ?_ | refine s_loadB ?_ | refine s_loadH ?_ | refine s_loadR ?_ | refine s_build ?_ | refine s_indexArrT ?_ | refine s_indexArrB ?_ | refine s_convI ?_ | refine s_rem ?_ | refine s_index ?_ | refine s_indexR ?_ | refine s_addI ?_ | refine s_neqB ?_ | refine s_conv ?_ | refine a7 ?_ | refine a8 ?_ | refine a9 ?_ | refine RW.storeR rfl rfl rfl rfl (by first | rfl | (simp [allOne, cellsL, one1]; done) | (simp [allOne, cellsL, one1]; first | assumption | (refine ⟨?_, ?_⟩ <;> assumption))) rfl ?_ | refine a10 ?_ | refine RW.storeR1 rfl rfl (by first | rfl | exact IsSl.one1 (by assumption) | exact IsSl.one1 (SliceRep.isSl (by assumption))) rfl rfl ?_)
    refine Runs.ret1 Try.func3 Try.results3 rfl (fun w hm => hR _ w _ H _ (List.mem_cons_self ..) (Snap.le.refl _) ?_ hm)
    rfl
  repeat (first | refine a1 ?_ | refine a3 ?_ | refine a4 ?_ | refine a5 ?_ | refine a6 ?_ | refine s_len ?_ | refine s_lenR ?_ | refine s_loadBs ?_ | refine s_loadHs ?_ | refine s_fieldB ?_ | refine s_fieldV ?_ | refine s_loadB ?_ | refine s_loadH ?_ | refine s_loadR ?_ | refine s_build ?_ | refine s_indexArrT ?_ | refine s_indexArrB ?_ | refine s_convI ?_ | refine s_rem ?_ | refine s_index ?_ | refine s_indexR ?_ | refine s_addI ?_ | refine s_neqB ?_ | refine s_conv ?_ | refine a7 ?_ | refine a8 ?_ | refine a9 ?_ | refine RW.storeR rfl rfl rfl rfl (by first | rfl | (simp [allOne, cellsL, one1]; done) | (simp [allOne, cellsL, one1]; first | assumption | (refine ⟨?_, ?_⟩ <;> assumption))) rfl ?_ | refine a10 ?_ | refine RW.storeR1 rfl rfl (by first | rfl | exact IsSl.one1 (by assumption) | exact IsSl.one1 (SliceRep.isSl (by assumption))) rfl rfl ?_)
  refine RW.call rfl (made_c hl hn hx) rfl rfl ?_
  rintro _ Hg ⟨vg, rfl, hgl⟩ hleg
  generalize hGe : madeL n xs = gl at hgl hg
  generalize hNe : madeN n = N at hg ⊢
  have hgv := hg
  obtain ⟨hN1, hN2, hlen, hall⟩ := hg
  have hvg1 := hgl.isSl.one1
  refine RW.alloc rfl rfl rfl (fun b8 => ?_)
  repeat (first | refine a1 ?_ | refine a3 ?_ | refine a4 ?_ | refine a5 ?_ | refine a6 ?_ | refine s_len ?_ | refine s_lenR ?_ | refine s_loadBs ?_ | refine s_loadHs ?_ | refine s_fieldB ?_ | refine s_fieldV ?_ | refine s_loadB ?_ | refine s_loadH ?_ | refine s_loadR ?_ | refine s_build ?_ | refine s_indexArrT ?_ | refine s_indexArrB ?_ | refine s_convI ?_ | refine s_rem ?_ | refine s_index ?_ | refine s_indexR ?_ | refine s_addI ?_ | refine s_neqB ?_ | refine s_conv ?_ | refine a7 ?_ | refine a8 ?_ | refine a9 ?_ | refine RW.storeR rfl rfl rfl rfl (by first | rfl | (simp [allOne, cellsL, one1]; done) | (simp [allOne, cellsL, one1]; first | assumption | (refine ⟨?_, ?_⟩ <;> assumption))) rfl ?_ | refine a10 ?_ | refine RW.storeR1 rfl rfl (by first | rfl | exact IsSl.one1 (by assumption) | exact IsSl.one1 (SliceRep.isSl (by assumption))) rfl rfl ?_)
  obtain ⟨Ag, cg, rfl, _, _⟩ := hgl.isSl
  refine Runs.regionD _ _ [8] (fun x hx => List.mem_cons_of_mem _ hx) (List.Sublist.refl _) (by kernel_rfl) ?_
  (first | refine t_fieldB 0 ?_ | refine t_fieldV 0 ?_)
  (first | refine t_loadB 1 ?_ | refine t_loadH 1 ?_ | refine t_loadR 1 ?_)
  (first | refine t_fieldB 3 ?_ | refine t_fieldV 3 ?_)
  (first | refine t_loadB 4 ?_ | refine t_loadH 4 ?_ | refine t_loadR 4 ?_)
  refine DW.float 7 rfl rfl ?_
  refine DWf.buildSlice 2 rfl rfl rfl (by kernel_rfl) (by kernel_rfl) rfl rfl rfl rfl rfl rfl rfl rfl rfl rfl (fun v26 hv26 => ?_)
  refine DWf.appendH 5 rfl rfl rfl (by kernel_rfl) (by kernel_rfl) rfl rfl rfl rfl rfl rfl rfl (hgl) (by rfl) rfl (by decide) (by omega) (by omega) (fun _ _ => inferInstance) (fun _ _ => inferInstance) inferInstance (fun ds v29 hds hv29 => ?_)
  obtain ⟨A29, c29, rfl, _, _⟩ := hv29
  refine DWf.qF 6 rfl rfl (by kernel_rfl) (QF.build rfl rfl) (fun _ => QF.build rfl rfl) rfl rfl ?_
  refine DWf.take rfl (by kernel_rfl) rfl rfl rfl (fun b9 => ?_)
  simp only [List.cons_append, List.nil_append]
  (first | refine DW.storeB 8 rfl (by kernel_rfl) rfl rfl rfl rfl (by first | rfl | (simp [allOne, cellsL, one1]; done) | (simp [allOne, cellsL, one1]; first | assumption | (refine ⟨?_, ?_⟩ <;> assumption))) rfl ?_ | refine DW.storeB1 8 rfl (by kernel_rfl) rfl rfl rfl (by first | rfl | exact IsSl.one1 (by assumption) | exact IsSl.one1 (SliceRep.isSl (by assumption))) rfl rfl ?_)
  refine DW.done (by kernel_rfl) ?_
  have hds' := flat_cells hds
  subst hds'
  rw [Nat.zero_add]
  generalize Value.slice Ag gl.length cg = vg at *
  have hs29 : IsSl (.slice A29 gl.length c29) gl.length := by
    refine ⟨A29, c29, rfl, ?_, ?_, ?_⟩
    · omega
    · rename_i h1; exact h1.1
    · rename_i h1; intro h2; exact h1.2 (by omega)
  generalize Value.slice A29 gl.length c29 = v29 at *
  have hg0 : 0 ≤ IntKind.u8.wrap w0 ∧ IntKind.u8.wrap w0 ≤ 255 := by simp [IntKind.wrap, IntKind.bits, IntKind.signed]; omega
  refine Runs.weak (Hs' := [Hg, H]) (O' := [.row 34 4 v29 gl.length (encL gl), .blk b8 31 [.int .i64 N, vg], .blk b5 27 [.int .i8 w0, .int .i8 w1, .int .i8 w2], .blk b9 31 [.int .i64 N, v29]]) (l' := [(1, vh), (5, .pointer (some ⟨b5, 0, none⟩)), (7, .bool true), (8, .pointer (some ⟨b8, 0, none⟩)), (9, .pointer (some ⟨b9, 0, none⟩))]) ?_ (by repeat (first | exact trivial | refine And.intro rfl ?_)) (fun x hx => List.mem_cons_of_mem _ (SubH.h x hx)) (by repeat (first | exact List.nil_sublist _ | exact List.Sublist.refl _ | refine List.Sublist.cons_cons _ ?_ | refine List.Sublist.cons _ ?_))
  repeat (first | refine a1 ?_ | refine a3 ?_ | refine a4 ?_ | refine a5 ?_ | refine a6 ?_ | refine s_len ?_ | refine s_lenR ?_ | refine s_loadBs ?_ | refine s_loadHs ?_ | refine s_fieldB ?_ | refine s_fieldV ?_ | refine s_loadB ?_ | refine s_loadH ?_ | refine s_loadR ?_ | refine s_build ?_ | refine s_indexArrT ?_ | refine s_indexArrB ?_ | refine s_convI ?_ | refine s_rem ?_ | refine s_index ?_ | refine s_indexR ?_ | refine s_addI ?_ | refine s_neqB ?_ | refine s_conv ?_ | refine a7 ?_ | refine a8 ?_ | refine a9 ?_ | refine RW.storeR rfl rfl rfl rfl (by first | rfl | (simp [allOne, cellsL, one1]; done) | (simp [allOne, cellsL, one1]; first | assumption | (refine ⟨?_, ?_⟩ <;> assumption))) rfl ?_ | refine a10 ?_ | refine RW.storeR1 rfl rfl (by first | rfl | exact IsSl.one1 (by assumption) | exact IsSl.one1 (SliceRep.isSl (by assumption))) rfl rfl ?_)
  refine Runs.joinF (α := List Lnk) (fun o => o.length = gl.length) (fun _ => [Hg, H]) (fun o => [.row 34 4 v29 gl.length (encL o), .blk b8 31 [.int .i64 N, vg], .blk b9 31 [.int .i64 N, v29]]) (fun _ => [(1, vh), (7, .bool true), (8, .pointer (some ⟨b8, 0, none⟩)), (9, .pointer (some ⟨b9, 0, none⟩))]) (fun hj => ?_) ?_
  · refine Runs.cond_d rfl (fun hpos => ?_) (fun hpos => ?_)
    · repeat (first | refine a1 ?_ | refine a3 ?_ | refine a4 ?_ | refine a5 ?_ | refine a6 ?_ | refine s_len ?_ | refine s_lenR ?_ | refine s_loadBs ?_ | refine s_loadHs ?_ | refine s_fieldB ?_ | refine s_fieldV ?_ | refine s_loadB ?_ | refine s_loadH ?_ | refine s_loadR ?_ | refine s_build ?_ | refine s_indexArrT ?_ | refine s_indexArrB ?_ | refine s_convI ?_ | refine s_rem ?_ | refine s_index ?_ | refine s_indexR ?_ | refine s_addI ?_ | refine s_neqB ?_ | refine s_conv ?_ | refine a7 ?_ | refine a8 ?_ | refine a9 ?_ | refine RW.storeR rfl rfl rfl rfl (by first | rfl | (simp [allOne, cellsL, one1]; done) | (simp [allOne, cellsL, one1]; first | assumption | (refine ⟨?_, ?_⟩ <;> assumption))) rfl ?_ | refine a10 ?_ | refine RW.storeR1 rfl rfl (by first | rfl | exact IsSl.one1 (by assumption) | exact IsSl.one1 (SliceRep.isSl (by assumption))) rfl rfl ?_)
      generalize IntKind.u8.wrap w0 = A at *
      obtain ⟨i, hi⟩ : ∃ i : Nat, A % (gl.length : Int) = (i : Int) := ⟨(A % (gl.length : Int)).toNat, by
        have := Int.emod_nonneg A (b := (gl.length : Int)) (by omega)
        omega⟩
      have hil : i < gl.length := by
        have := Int.emod_lt_of_pos A (b := (gl.length : Int)) (by omega)
        omega
      rw [hi]
      obtain ⟨x, hxi⟩ : ∃ x, gl[i]? = some x := ⟨_, List.getElem?_eq_getElem hil⟩
      have hxo := hall x (List.mem_of_getElem? hxi)
      unfold okL at hxo
      have c1 : (encL gl)[i * 4 + 1]? = some (.int .i64 x.t) := encL_cells hxi rfl
      repeat (first | refine a1 ?_ | refine a3 ?_ | refine a4 ?_ | refine a5 ?_ | refine a6 ?_ | refine s_len ?_ | refine s_lenR ?_ | refine s_loadBs ?_ | refine s_loadHs ?_ | refine s_fieldB ?_ | refine s_fieldV ?_ | refine s_loadB ?_ | refine s_loadH ?_ | refine s_loadR ?_ | refine s_build ?_ | refine s_indexArrT ?_ | refine s_indexArrB ?_ | refine s_convI ?_ | refine s_rem ?_ | refine s_index ?_ | refine s_indexR ?_ | refine s_addI ?_ | refine s_neqB ?_ | refine s_conv ?_ | refine a7 ?_ | refine a8 ?_ | refine a9 ?_ | refine RW.storeR rfl rfl rfl rfl (by first | rfl | (simp [allOne, cellsL, one1]; done) | (simp [allOne, cellsL, one1]; first | assumption | (refine ⟨?_, ?_⟩ <;> assumption))) rfl ?_ | refine a10 ?_ | refine RW.storeR1 rfl rfl (by first | rfl | exact IsSl.one1 (by assumption) | exact IsSl.one1 (SliceRep.isSl (by assumption))) rfl rfl ?_)
      refine Runs.regionD _ _ [12] (fun x hx => List.mem_cons_of_mem _ hx) (List.Sublist.refl _) (by kernel_rfl) ?_
      (first | refine t_fieldB 0 ?_ | refine t_fieldV 0 ?_)
      (first | refine t_loadB 1 ?_ | refine t_loadH 1 ?_ | refine t_loadR 1 ?_)
      refine d2 2 ?_
      (first | refine t_index 3 ?_ | refine t_indexR 3 ?_)
      (first | refine t_fieldB 4 ?_ | refine t_fieldV 4 ?_)
      (first | refine t_loadB 5 ?_ | refine t_loadH 5 ?_ | refine t_loadR 5 ?_)
      (first | refine t_indexArrT 6 ?_ | refine t_indexArrB 6 ?_)
      (first | refine t_loadB 7 ?_ | refine t_loadH 7 ?_ | refine t_loadR 7 ?_)
      refine t_convI 8 ?_
      refine t_addI 9 ?_
      (first | refine t_index 10 ?_ | refine t_indexR 10 ?_)
      (first | refine t_fieldB 11 ?_ | refine t_fieldV 11 ?_)
      (first | refine DW.storeR 12 rfl (by kernel_rfl) rfl rfl rfl (encL_put (x' := ⟨x.f, x.t + w1, x.lab, x.c⟩) hxi rfl (by omega)) rfl (by first | rfl | (simp [allOne, cellsL, one1]; done) | (simp [allOne, cellsL, one1]; first | assumption | (refine ⟨?_, ?_⟩ <;> assumption))) rfl ?_ | refine DW.storeR1 12 rfl (by kernel_rfl) rfl rfl rfl (by first | rfl | exact IsSl.one1 (by assumption) | exact IsSl.one1 (SliceRep.isSl (by assumption))) (encL_put (x' := ⟨x.f, x.t + w1, x.lab, x.c⟩) hxi rfl (by omega)) rfl ?_)
      refine DW.done (by kernel_rfl) ?_
      have hxi2 : (gl.set i ⟨x.f, x.t + w1, x.lab, x.c⟩)[i]? = some ⟨x.f, x.t + w1, x.lab, x.c⟩ := by simp [hil]
      have c3 : (encL (gl.set i ⟨x.f, x.t + w1, x.lab, x.c⟩))[i * 4 + 3]? = some (.int .i64 x.c) := encL_cells hxi2 rfl
      repeat (first | refine a1 ?_ | refine a3 ?_ | refine a4 ?_ | refine a5 ?_ | refine a6 ?_ | refine s_len ?_ | refine s_lenR ?_ | refine s_loadBs ?_ | refine s_loadHs ?_ | refine s_fieldB ?_ | refine s_fieldV ?_ | refine s_loadB ?_ | refine s_loadH ?_ | refine s_loadR ?_ | refine s_build ?_ | refine s_indexArrT ?_ | refine s_indexArrB ?_ | refine s_convI ?_ | refine s_rem ?_ | refine s_index ?_ | refine s_indexR ?_ | refine s_addI ?_ | refine s_neqB ?_ | refine s_conv ?_ | refine a7 ?_ | refine a8 ?_ | refine a9 ?_ | refine RW.storeR rfl rfl rfl rfl (by first | rfl | (simp [allOne, cellsL, one1]; done) | (simp [allOne, cellsL, one1]; first | assumption | (refine ⟨?_, ?_⟩ <;> assumption))) rfl ?_ | refine a10 ?_ | refine RW.storeR1 rfl rfl (by first | rfl | exact IsSl.one1 (by assumption) | exact IsSl.one1 (SliceRep.isSl (by assumption))) rfl rfl ?_)
      refine Runs.regionD _ _ [12] (fun x hx => List.mem_cons_of_mem _ hx) (List.Sublist.refl _) (by kernel_rfl) ?_
      (first | refine t_fieldB 0 ?_ | refine t_fieldV 0 ?_)
      (first | refine t_loadB 1 ?_ | refine t_loadH 1 ?_ | refine t_loadR 1 ?_)
      refine d2 2 ?_
      (first | refine t_index 3 ?_ | refine t_indexR 3 ?_)
      (first | refine t_fieldB 4 ?_ | refine t_fieldV 4 ?_)
      (first | refine t_loadB 5 ?_ | refine t_loadH 5 ?_ | refine t_loadR 5 ?_)
      (first | refine t_indexArrT 6 ?_ | refine t_indexArrB 6 ?_)
      (first | refine t_loadB 7 ?_ | refine t_loadH 7 ?_ | refine t_loadR 7 ?_)
      refine t_convI 8 ?_
      refine t_addI 9 ?_
      (first | refine t_index 10 ?_ | refine t_indexR 10 ?_)
      (first | refine t_fieldB 11 ?_ | refine t_fieldV 11 ?_)
      (first | refine DW.storeR 12 rfl (by kernel_rfl) rfl rfl rfl (encL_put (x' := ⟨x.f, x.t + w1, x.lab, x.c + w2⟩) hxi2 rfl (by omega)) rfl (by first | rfl | (simp [allOne, cellsL, one1]; done) | (simp [allOne, cellsL, one1]; first | assumption | (refine ⟨?_, ?_⟩ <;> assumption))) rfl ?_ | refine DW.storeR1 12 rfl (by kernel_rfl) rfl rfl rfl (by first | rfl | exact IsSl.one1 (by assumption) | exact IsSl.one1 (SliceRep.isSl (by assumption))) (encL_put (x' := ⟨x.f, x.t + w1, x.lab, x.c + w2⟩) hxi2 rfl (by omega)) rfl ?_)
      refine DW.done (by kernel_rfl) ?_
      refine Runs.weak (hj ((gl.set i ⟨x.f, x.t + w1, x.lab, x.c⟩).set i ⟨x.f, x.t + w1, x.lab, x.c + w2⟩) (by simp)) (by repeat (first | exact trivial | refine And.intro rfl ?_)) (fun x hx => List.mem_cons_of_mem _ (SubH.h x hx)) (by repeat (first | exact List.nil_sublist _ | exact List.Sublist.refl _ | refine List.Sublist.cons_cons _ ?_ | refine List.Sublist.cons _ ?_))
    · refine Runs.skip ?_
      refine Runs.weak (hj gl rfl) (by repeat (first | exact trivial | refine And.intro rfl ?_)) (fun x hx => List.mem_cons_of_mem _ (SubH.h x hx)) (by repeat (first | exact List.nil_sublist _ | exact List.Sublist.refl _ | refine List.Sublist.cons_cons _ ?_ | refine List.Sublist.cons _ ?_))
  · rintro o ho
    repeat (first | refine a1 ?_ | refine a3 ?_ | refine a4 ?_ | refine a5 ?_ | refine a6 ?_ | refine s_len ?_ | refine s_lenR ?_ | refine s_loadBs ?_ | refine s_loadHs ?_ | refine s_fieldB ?_ | refine s_fieldV ?_ | refine s_loadB ?_ | refine s_loadH ?_ | refine s_loadR ?_ | refine s_build ?_ | refine s_indexArrT ?_ | refine s_indexArrB ?_ | refine s_convI ?_ | refine s_rem ?_ | refine s_index ?_ | refine s_indexR ?_ | refine s_addI ?_ | refine s_neqB ?_ | refine s_conv ?_ | refine a7 ?_ | refine a8 ?_ | refine a9 ?_ | refine RW.storeR rfl rfl rfl rfl (by first | rfl | (simp [allOne, cellsL, one1]; done) | (simp [allOne, cellsL, one1]; first | assumption | (refine ⟨?_, ?_⟩ <;> assumption))) rfl ?_ | refine a10 ?_ | refine RW.storeR1 rfl rfl (by first | rfl | exact IsSl.one1 (by assumption) | exact IsSl.one1 (SliceRep.isSl (by assumption))) rfl rfl ?_)
    have hv291 := hs29.one1
    have hbgl := hgl.isSl.bound
    refine RW.buildSlice rfl rfl rfl rfl rfl rfl rfl (fun v69 hv69 => ?_)
    refine RW.freeze (H := Hg) v29 hM (fun H1 hle1 hs1 hc1 => ?_)
    have hod : SliceRep H1 LinkL v29 o := SliceRep.of_row hs1 ho.symm (flat_rep o) (Snap.le.refl _) hc1
    refine RW.freeze (H := H1) v69 hM (fun H2 hle2 hs2 hc2 => ?_)
    have hgr : SliceRep H2 GraphL v69 [(N, gl), (N, o)] := SliceRep.of_row (ys := [(N, gl), (N, o)]) hs2 rfl ⟨_, _, rfl, ⟨_, rfl, (hgl.mono hle1).mono hle2⟩, ⟨_, _, rfl, ⟨_, rfl, hod.mono hle2⟩, rfl⟩⟩ (Snap.le.refl _) hc2
    have hh2 := ((hh.mono hleg).mono hle1).mono hle2
    have hs69 : IsSl v69 2 := hgr.isSl
    repeat (first | refine a1 ?_ | refine a3 ?_ | refine a4 ?_ | refine a5 ?_ | refine a6 ?_ | refine s_len ?_ | refine s_lenR ?_ | refine s_loadBs ?_ | refine s_loadHs ?_ | refine s_fieldB ?_ | refine s_fieldV ?_ | refine s_loadB ?_ | refine s_loadH ?_ | refine s_loadR ?_ | refine s_build ?_ | refine s_indexArrT ?_ | refine s_indexArrB ?_ | refine s_convI ?_ | refine s_rem ?_ | refine s_index ?_ | refine s_indexR ?_ | refine s_addI ?_ | refine s_neqB ?_ | refine s_conv ?_ | refine a7 ?_ | refine a8 ?_ | refine a9 ?_ | refine RW.storeR rfl rfl rfl rfl (by first | rfl | (simp [allOne, cellsL, one1]; done) | (simp [allOne, cellsL, one1]; first | assumption | (refine ⟨?_, ?_⟩ <;> assumption))) rfl ?_ | refine a10 ?_ | refine RW.storeR1 rfl rfl (by first | rfl | exact IsSl.one1 (by assumption) | exact IsSl.one1 (SliceRep.isSl (by assumption))) rfl rfl ?_)
    refine Runs.loop (fun k : Nat => k ≤ 2) (fun k => 2 - k) (fun _ => [H2, H]) (fun _ => []) (fun k => [(1, vh), (7, .bool true), (11, v69), (12, .int .i64 (k : Int))]) 0 (Nat.zero_le _) (fun h => by
      refine Runs.weak (h) (by repeat (first | exact trivial | refine And.intro rfl ?_)) (fun x hx => List.mem_cons_of_mem _ (SubH.h x hx)) (by repeat (first | exact List.nil_sublist _ | exact List.Sublist.refl _ | refine List.Sublist.cons_cons _ ?_ | refine List.Sublist.cons _ ?_))) ?_
    rintro k hk ih
    repeat (first | refine a1 ?_ | refine a3 ?_ | refine a4 ?_ | refine a5 ?_ | refine a6 ?_ | refine s_len ?_ | refine s_lenR ?_ | refine s_loadBs ?_ | refine s_loadHs ?_ | refine s_fieldB ?_ | refine s_fieldV ?_ | refine s_loadB ?_ | refine s_loadH ?_ | refine s_loadR ?_ | refine s_build ?_ | refine s_indexArrT ?_ | refine s_indexArrB ?_ | refine s_convI ?_ | refine s_rem ?_ | refine s_index ?_ | refine s_indexR ?_ | refine s_addI ?_ | refine s_neqB ?_ | refine s_conv ?_ | refine a7 ?_ | refine a8 ?_ | refine a9 ?_ | refine RW.storeR rfl rfl rfl rfl (by first | rfl | (simp [allOne, cellsL, one1]; done) | (simp [allOne, cellsL, one1]; first | assumption | (refine ⟨?_, ?_⟩ <;> assumption))) rfl ?_ | refine a10 ?_ | refine RW.storeR1 rfl rfl (by first | rfl | exact IsSl.one1 (by assumption) | exact IsSl.one1 (SliceRep.isSl (by assumption))) rfl rfl ?_)
    refine Runs.cond_d rfl (fun hlt => ?_) (fun hlt => ?_)
    · have hk2 : k < 2 := by omega
      obtain ⟨⟨M, G⟩, hG⟩ : ∃ x, ([(N, gl), (N, o)] : List (Int × List Lnk))[k]? = some x := ⟨_, List.getElem?_eq_getElem hk2⟩
      obtain ⟨vq, hvq, hload⟩ := hgr.graph hG
      dsimp only at hvq hload
      repeat (first | refine a1 ?_ | refine a3 ?_ | refine a4 ?_ | refine a5 ?_ | refine a6 ?_ | refine s_len ?_ | refine s_lenR ?_ | refine s_loadBs ?_ | refine s_loadHs ?_ | refine s_fieldB ?_ | refine s_fieldV ?_ | refine s_loadB ?_ | refine s_loadH ?_ | refine s_loadR ?_ | refine s_build ?_ | refine s_indexArrT ?_ | refine s_indexArrB ?_ | refine s_convI ?_ | refine s_rem ?_ | refine s_index ?_ | refine s_indexR ?_ | refine s_addI ?_ | refine s_neqB ?_ | refine s_conv ?_ | refine a7 ?_ | refine a8 ?_ | refine a9 ?_ | refine RW.storeR rfl rfl rfl rfl (by first | rfl | (simp [allOne, cellsL, one1]; done) | (simp [allOne, cellsL, one1]; first | assumption | (refine ⟨?_, ?_⟩ <;> assumption))) rfl ?_ | refine a10 ?_ | refine RW.storeR1 rfl rfl (by first | rfl | exact IsSl.one1 (by assumption) | exact IsSl.one1 (SliceRep.isSl (by assumption))) rfl rfl ?_)
      refine RW.call rfl (bpot_c (N := M) hvq) rfl rfl ?_
      rintro _ Ha ⟨va, rfl, hva⟩ hlea
      repeat (first | refine a1 ?_ | refine a3 ?_ | refine a4 ?_ | refine a5 ?_ | refine a6 ?_ | refine s_len ?_ | refine s_lenR ?_ | refine s_loadBs ?_ | refine s_loadHs ?_ | refine s_fieldB ?_ | refine s_fieldV ?_ | refine s_loadB ?_ | refine s_loadH ?_ | refine s_loadR ?_ | refine s_build ?_ | refine s_indexArrT ?_ | refine s_indexArrB ?_ | refine s_convI ?_ | refine s_rem ?_ | refine s_index ?_ | refine s_indexR ?_ | refine s_addI ?_ | refine s_neqB ?_ | refine s_conv ?_ | refine a7 ?_ | refine a8 ?_ | refine a9 ?_ | refine RW.storeR rfl rfl rfl rfl (by first | rfl | (simp [allOne, cellsL, one1]; done) | (simp [allOne, cellsL, one1]; first | assumption | (refine ⟨?_, ?_⟩ <;> assumption))) rfl ?_ | refine a10 ?_ | refine RW.storeR1 rfl rfl (by first | rfl | exact IsSl.one1 (by assumption) | exact IsSl.one1 (SliceRep.isSl (by assumption))) rfl rfl ?_)
      refine RW.call rfl (rpot_c (N := M) (hvq.mono hlea)) rfl rfl ?_
      rintro _ Hb ⟨vb, rfl, hvb⟩ hleb
      have hI : Pure Try.prog 14 #[va, vb] Hb (fun _ r => r = .bool true) := (ints_c (hva.mono hleb) hvb).mono fun _ _ _ h => by rw [h]; simp
      repeat (first | refine a1 ?_ | refine a3 ?_ | refine a4 ?_ | refine a5 ?_ | refine a6 ?_ | refine s_len ?_ | refine s_lenR ?_ | refine s_loadBs ?_ | refine s_loadHs ?_ | refine s_fieldB ?_ | refine s_fieldV ?_ | refine s_loadB ?_ | refine s_loadH ?_ | refine s_loadR ?_ | refine s_build ?_ | refine s_indexArrT ?_ | refine s_indexArrB ?_ | refine s_convI ?_ | refine s_rem ?_ | refine s_index ?_ | refine s_indexR ?_ | refine s_addI ?_ | refine s_neqB ?_ | refine s_conv ?_ | refine a7 ?_ | refine a8 ?_ | refine a9 ?_ | refine RW.storeR rfl rfl rfl rfl (by first | rfl | (simp [allOne, cellsL, one1]; done) | (simp [allOne, cellsL, one1]; first | assumption | (refine ⟨?_, ?_⟩ <;> assumption))) rfl ?_ | refine a10 ?_ | refine RW.storeR1 rfl rfl (by first | rfl | exact IsSl.one1 (by assumption) | exact IsSl.one1 (SliceRep.isSl (by assumption))) rfl rfl ?_)
      refine Runs.regionD _ _ [] (fun x hx => List.mem_cons_of_mem _ hx) (List.Sublist.refl _) (by kernel_rfl) ?_
      refine d1 0 2 ?_
      refine DW.callV 2 rfl (by kernel_rfl) rfl (hI) rfl rfl ?_
      rintro _ _ rfl
      refine d1 3 2 ?_
      refine d1 5 5 ?_
      refine DW.dec 99 rfl (fun hne => ?_) (fun hne => ?_)
      · exact absurd rfl hne
      · refine d1 10 2 ?_
        (first | refine t_index 12 ?_ | refine t_indexR 12 ?_)
        (first | refine t_loadBs 13 ?_ | refine t_loadHs 13 ?_)
        refine d2 14 ?_
        refine d1 16 2 ?_
        (first | refine t_index 18 ?_ | refine t_indexR 18 ?_)
        (first | refine t_loadBs 19 ?_ | refine t_loadHs 19 ?_)
        refine d2 20 ?_
        refine DW.callV 15 rfl (by kernel_rfl) rfl (bright_c (N := M) hvq hh2) rfl rfl ?_
        rintro _ _ rfl
        refine DW.callV 21 rfl (by kernel_rfl) rfl (rright_c (N := M) hvq hh2) rfl rfl ?_
        rintro _ _ rfl
        refine t_neqB 22 ?_
        rw [bne_self_eq_false]
        refine d1 23 2 ?_
        refine d1 25 2 ?_
        (first | refine t_index 27 ?_ | refine t_indexR 27 ?_)
        (first | refine t_loadBs 28 ?_ | refine t_loadHs 28 ?_)
        refine d2 29 ?_
        refine d1 31 2 ?_
        refine DW.callV 30 rfl (by kernel_rfl) rfl (bright_c (N := M) ((hvq.mono hlea).mono hleb) hvb) rfl rfl ?_
        rintro _ _ rfl
        rw [right_pot]
        refine t_neqB 33 ?_
        rw [bne_self_eq_false]
        refine d2 34 ?_
        refine DW.done (by kernel_rfl) ?_
        repeat (first | refine a1 ?_ | refine a3 ?_ | refine a4 ?_ | refine a5 ?_ | refine a6 ?_ | refine s_len ?_ | refine s_lenR ?_ | refine s_loadBs ?_ | refine s_loadHs ?_ | refine s_fieldB ?_ | refine s_fieldV ?_ | refine s_loadB ?_ | refine s_loadH ?_ | refine s_loadR ?_ | refine s_build ?_ | refine s_indexArrT ?_ | refine s_indexArrB ?_ | refine s_convI ?_ | refine s_rem ?_ | refine s_index ?_ | refine s_indexR ?_ | refine s_addI ?_ | refine s_neqB ?_ | refine s_conv ?_ | refine a7 ?_ | refine a8 ?_ | refine a9 ?_ | refine RW.storeR rfl rfl rfl rfl (by first | rfl | (simp [allOne, cellsL, one1]; done) | (simp [allOne, cellsL, one1]; first | assumption | (refine ⟨?_, ?_⟩ <;> assumption))) rfl ?_ | refine a10 ?_ | refine RW.storeR1 rfl rfl (by first | rfl | exact IsSl.one1 (by assumption) | exact IsSl.one1 (SliceRep.isSl (by assumption))) rfl rfl ?_)
        refine Runs.weak (ih (k + 1) (by omega) (by omega)) (by repeat (first | exact trivial | refine And.intro rfl ?_)) (fun x hx => List.mem_cons_of_mem _ (SubH.h x hx)) (by repeat (first | exact List.nil_sublist _ | exact List.Sublist.refl _ | refine List.Sublist.cons_cons _ ?_ | refine List.Sublist.cons _ ?_))
    · repeat (first | refine a1 ?_ | refine a3 ?_ | refine a4 ?_ | refine a5 ?_ | refine a6 ?_ | refine s_len ?_ | refine s_lenR ?_ | refine s_loadBs ?_ | refine s_loadHs ?_ | refine s_fieldB ?_ | refine s_fieldV ?_ | refine s_loadB ?_ | refine s_loadH ?_ | refine s_loadR ?_ | refine s_build ?_ | refine s_indexArrT ?_ | refine s_indexArrB ?_ | refine s_convI ?_ | refine s_rem ?_ | refine s_index ?_ | refine s_indexR ?_ | refine s_addI ?_ | refine s_neqB ?_ | refine s_conv ?_ | refine a7 ?_ | refine a8 ?_ | refine a9 ?_ | refine RW.storeR rfl rfl rfl rfl (by first | rfl | (simp [allOne, cellsL, one1]; done) | (simp [allOne, cellsL, one1]; first | assumption | (refine ⟨?_, ?_⟩ <;> assumption))) rfl ?_ | refine a10 ?_ | refine RW.storeR1 rfl rfl (by first | rfl | exact IsSl.one1 (by assumption) | exact IsSl.one1 (SliceRep.isSl (by assumption))) rfl rfl ?_)
      refine Runs.ret1 Try.func3 Try.results3 rfl (fun w hm => hR _ w _ H _ (List.mem_cons_self ..) (Snap.le.refl _) ?_ hm)
      rfl
end Go.Proofs.Ythlolpckgffebaa

/-
  The law PageScales. Conditions: the arguments' form.
-/
import Derived.Test.YtjdhcblofkkibaaVg
import Derived.Test.YtjdhcblofkkibaaPn
namespace Go.Proofs.Ytjdhcblofkkibaa
open Go Go.RowKit

theorem made_cost {n : Int} {xs : List (Int × Int × Int)} (hx : ∀ x ∈ xs, triOk x) : ∀ y ∈ madeL n xs, 0 ≤ y.c ∧ y.c < 5 := by
  intro y hy
  unfold madeL at hy
  split at hy
  · rename_i hN
    have := linksOf_mem hN (fun x hxx => hx x (List.mem_of_mem_take hxx)) y hy
    omega
  · simp at hy
theorem tree_small' {gl : List Lnk} {N : Int} (h : gl.length ≤ 14) (hN : N ≤ 7) : treeT gl N.toNat 0 ≤ 2000000000000 := by
  refine Nat.le_trans (treeT_pow _ _ _) ?_
  refine Nat.le_trans (Nat.pow_le_pow_left (show gl.length + 1 ≤ 15 by omega) _) ?_
  refine Nat.le_trans (Nat.pow_le_pow_right (by omega) (show N.toNat ≤ 7 by omega)) ?_
  decide
theorem potGo_ge {gl : List Lnk} (hg : ∀ x ∈ gl, 0 ≤ x.c) : ∀ (m : Nat) (t : List Int), (∀ j, -1 ≤ tv t j) → ∀ j, -1 ≤ tv (potGo gl m t) j
  | 0, _, h => h
  | m + 1, t, ht => by
    have h1 : -1 ≤ potT gl t (m : Int) := (potT_sc 0 ht (m : Int) gl hg (-1) (by omega)).1
    unfold potGo
    refine potGo_ge hg m _ fun j => ?_
    have := ht j
    unfold tv at this ⊢
    rw [List.getElem?_set]
    split
    · split
      · simpa using h1
      · simp
    · exact this
theorem pot_ge {gl : List Lnk} (hg : ∀ x ∈ gl, 0 ≤ x.c) (N : Nat) (j : Int) : -1 ≤ tv (pot gl N) j :=
  potGo_ge hg _ _ (fun j => by unfold tv; rw [List.getElem?_replicate]; split <;> simp) j
theorem potGo_len (gl : List Lnk) : ∀ (m : Nat) (t : List Int), (potGo gl m t).length = t.length
  | 0, _ => rfl
  | m + 1, t => by unfold potGo; rw [potGo_len gl m, List.length_set]
theorem pot_len (gl : List Lnk) (N : Nat) : (pot gl N).length = N := by unfold pot; rw [potGo_len, List.length_replicate]
set_option maxHeartbeats 16000000 in
theorem scales19_c {H : Snap} {n kk lab : Int} {vL : Value} {xs : List (Int × Int × Int)} (hl : SliceRep H TriL vL xs) (hn : isByte n) (hx : ∀ x ∈ xs, triOk x) (hkk : isByte kk) (hlab : isByte lab) :
    Pure Try.prog 7 #[.agg #[.int .u8 n, vL], .int .u8 kk, .int .u8 lab] H (fun _ r => r = .bool true) := by
  have hg := made_valid n hx
  have hgl14 := madeL_length n xs
  have hT := made_tree n xs
  have hN7 := (madeN_range n).2
  have hc5 := made_cost (n := n) hx
  unfold isByte at hkk hlab
  refine Pure.intro Try.func7 rfl Try.ntmps7 rfl (fun E R hM hR => ?_)
  repeat (first | refine a1 ?_ | refine a3 ?_ | refine a4 ?_ | refine a5 ?_ | refine a6 ?_ | refine s_loadBs ?_ | refine s_loadHs ?_ | refine s_fieldB ?_ | refine s_fieldV ?_ | refine s_loadB ?_ | refine s_loadH ?_ | refine s_loadR ?_ | refine s_build ?_ | refine s_len ?_ | refine s_lenR ?_ | refine s_index ?_ | refine s_indexR ?_ | refine s_mulI ?_ | refine s_convI ?_ | refine s_addI ?_ | refine s_rem ?_ | refine s_neqB ?_ | refine a7 ?_ | refine a8 ?_ | refine a9 ?_ | refine RW.storeR rfl rfl rfl rfl (by first | rfl | (simp [allOne, cellsL, one1]; done) | (simp [allOne, cellsL, one1]; first | assumption | (refine ⟨?_, ?_⟩ <;> assumption))) rfl ?_ | refine a10 ?_ | refine RW.storeR1 rfl rfl (by first | rfl | exact IsSl.one1 (by assumption) | exact IsSl.one1 (SliceRep.isSl (by assumption))) rfl rfl ?_)
  refine RW.box rfl rfl rfl rfl (fun b3 => ?_)
  repeat (first | refine a1 ?_ | refine a3 ?_ | refine a4 ?_ | refine a5 ?_ | refine a6 ?_ | refine s_loadBs ?_ | refine s_loadHs ?_ | refine s_fieldB ?_ | refine s_fieldV ?_ | refine s_loadB ?_ | refine s_loadH ?_ | refine s_loadR ?_ | refine s_build ?_ | refine s_len ?_ | refine s_lenR ?_ | refine s_index ?_ | refine s_indexR ?_ | refine s_mulI ?_ | refine s_convI ?_ | refine s_addI ?_ | refine s_rem ?_ | refine s_neqB ?_ | refine a7 ?_ | refine a8 ?_ | refine a9 ?_ | refine RW.storeR rfl rfl rfl rfl (by first | rfl | (simp [allOne, cellsL, one1]; done) | (simp [allOne, cellsL, one1]; first | assumption | (refine ⟨?_, ?_⟩ <;> assumption))) rfl ?_ | refine a10 ?_ | refine RW.storeR1 rfl rfl (by first | rfl | exact IsSl.one1 (by assumption) | exact IsSl.one1 (SliceRep.isSl (by assumption))) rfl rfl ?_)
  refine RW.callV rfl (sanity19_c (H := H)) rfl rfl ?_
  rintro _ _ rfl
  repeat (first | refine a1 ?_ | refine a3 ?_ | refine a4 ?_ | refine a5 ?_ | refine a6 ?_ | refine s_loadBs ?_ | refine s_loadHs ?_ | refine s_fieldB ?_ | refine s_fieldV ?_ | refine s_loadB ?_ | refine s_loadH ?_ | refine s_loadR ?_ | refine s_build ?_ | refine s_len ?_ | refine s_lenR ?_ | refine s_index ?_ | refine s_indexR ?_ | refine s_mulI ?_ | refine s_convI ?_ | refine s_addI ?_ | refine s_rem ?_ | refine s_neqB ?_ | refine a7 ?_ | refine a8 ?_ | refine a9 ?_ | refine RW.storeR rfl rfl rfl rfl (by first | rfl | (simp [allOne, cellsL, one1]; done) | (simp [allOne, cellsL, one1]; first | assumption | (refine ⟨?_, ?_⟩ <;> assumption))) rfl ?_ | refine a10 ?_ | refine RW.storeR1 rfl rfl (by first | rfl | exact IsSl.one1 (by assumption) | exact IsSl.one1 (SliceRep.isSl (by assumption))) rfl rfl ?_)
  refine RW.call rfl (made_c hl hn hx) rfl rfl ?_
  rintro _ Hg ⟨vg, rfl, hgl⟩ hleg
  generalize hGe : madeL n xs = gl at hgl hg hgl14 hT hc5
  generalize hNe : madeN n = N at hg hT hN7 ⊢
  obtain ⟨N, rfl⟩ : ∃ M : Nat, N = (M : Int) := ⟨N.toNat, by have := hg.1; omega⟩
  rw [Int.toNat_natCast] at hT
  have hN1 := hg.1
  have hN2 := hg.2.1
  have hall := hg.2.2.2
  have hvg1 := hgl.isSl.one1
  have hgls := hgl.isSl
  refine RW.alloc rfl rfl rfl (fun b8 => ?_)
  repeat (first | refine a1 ?_ | refine a3 ?_ | refine a4 ?_ | refine a5 ?_ | refine a6 ?_ | refine s_loadBs ?_ | refine s_loadHs ?_ | refine s_fieldB ?_ | refine s_fieldV ?_ | refine s_loadB ?_ | refine s_loadH ?_ | refine s_loadR ?_ | refine s_build ?_ | refine s_len ?_ | refine s_lenR ?_ | refine s_index ?_ | refine s_indexR ?_ | refine s_mulI ?_ | refine s_convI ?_ | refine s_addI ?_ | refine s_rem ?_ | refine s_neqB ?_ | refine a7 ?_ | refine a8 ?_ | refine a9 ?_ | refine RW.storeR rfl rfl rfl rfl (by first | rfl | (simp [allOne, cellsL, one1]; done) | (simp [allOne, cellsL, one1]; first | assumption | (refine ⟨?_, ?_⟩ <;> assumption))) rfl ?_ | refine a10 ?_ | refine RW.storeR1 rfl rfl (by first | rfl | exact IsSl.one1 (by assumption) | exact IsSl.one1 (SliceRep.isSl (by assumption))) rfl rfl ?_)
  refine RW.alloc rfl rfl rfl (fun b9 => ?_)
  repeat (first | refine a1 ?_ | refine a3 ?_ | refine a4 ?_ | refine a5 ?_ | refine a6 ?_ | refine s_loadBs ?_ | refine s_loadHs ?_ | refine s_fieldB ?_ | refine s_fieldV ?_ | refine s_loadB ?_ | refine s_loadH ?_ | refine s_loadR ?_ | refine s_build ?_ | refine s_len ?_ | refine s_lenR ?_ | refine s_index ?_ | refine s_indexR ?_ | refine s_mulI ?_ | refine s_convI ?_ | refine s_addI ?_ | refine s_rem ?_ | refine s_neqB ?_ | refine a7 ?_ | refine a8 ?_ | refine a9 ?_ | refine RW.storeR rfl rfl rfl rfl (by first | rfl | (simp [allOne, cellsL, one1]; done) | (simp [allOne, cellsL, one1]; first | assumption | (refine ⟨?_, ?_⟩ <;> assumption))) rfl ?_ | refine a10 ?_ | refine RW.storeR1 rfl rfl (by first | rfl | exact IsSl.one1 (by assumption) | exact IsSl.one1 (SliceRep.isSl (by assumption))) rfl rfl ?_)
  refine Runs.addNil 58 4 ?_
  refine Runs.loop (fun (s : Nat × Value) => s.1 ≤ gl.length) (fun s => gl.length - s.1) (fun _ => [Hg])
    (fun s => .row 58 4 s.2 s.1 (encL ((gl.take s.1).map (scL lab))) :: .blk b9 29 [.int .i64 (N : Int), s.2] :: .blk b8 29 [.int .i64 (N : Int), vg] :: [.blk b3 24 [.int .u8 n, vL]])
    (fun s => [(1, .int .u8 kk), (2, .int .u8 lab), (7, .bool true), (8, .pointer (some ⟨b8, 0, none⟩)), (9, .pointer (some ⟨b9, 0, none⟩)), (10, .int .i64 (s.1 : Int))]) (0, .slice none 0 0) (Nat.zero_le _) (fun h => by
      refine Runs.weak (h) (by repeat (first | exact trivial | refine And.intro rfl ?_)) (fun x hx => List.mem_cons_of_mem _ (SubH.h x hx)) (by repeat (first | exact List.nil_sublist _ | exact List.Sublist.refl _ | refine List.Sublist.cons_cons _ ?_ | refine List.Sublist.cons _ ?_))) ?_
  rintro ⟨k, v⟩ hk ih
  dsimp only at hk ⊢
  refine Runs.rowSl v (fun hv hv1 => ?_)
  repeat (first | refine a1 ?_ | refine a3 ?_ | refine a4 ?_ | refine a5 ?_ | refine a6 ?_ | refine s_loadBs ?_ | refine s_loadHs ?_ | refine s_fieldB ?_ | refine s_fieldV ?_ | refine s_loadB ?_ | refine s_loadH ?_ | refine s_loadR ?_ | refine s_build ?_ | refine s_len ?_ | refine s_lenR ?_ | refine s_index ?_ | refine s_indexR ?_ | refine s_mulI ?_ | refine s_convI ?_ | refine s_addI ?_ | refine s_rem ?_ | refine s_neqB ?_ | refine a7 ?_ | refine a8 ?_ | refine a9 ?_ | refine RW.storeR rfl rfl rfl rfl (by first | rfl | (simp [allOne, cellsL, one1]; done) | (simp [allOne, cellsL, one1]; first | assumption | (refine ⟨?_, ?_⟩ <;> assumption))) rfl ?_ | refine a10 ?_ | refine RW.storeR1 rfl rfl (by first | rfl | exact IsSl.one1 (by assumption) | exact IsSl.one1 (SliceRep.isSl (by assumption))) rfl rfl ?_)
  refine Runs.cond_d rfl (fun hlt => ?_) (fun hlt => ?_)
  · obtain ⟨x, hxk⟩ : ∃ x, gl[k]? = some x := ⟨_, List.getElem?_eq_getElem (by omega)⟩
    have hxo := hall x (List.mem_of_getElem? hxk)
    unfold okL at hxo
    have hxc : ∀ j u, [Value.int .i64 x.f, .int .i64 x.t, .int .i64 x.lab, .int .i64 x.c][j]? = some u → Hg.cell (vat vg (k * 4 + j)) = some u := fun j u hu => hgl.flat hxk hu
    repeat (first | refine a1 ?_ | refine a3 ?_ | refine a4 ?_ | refine a5 ?_ | refine a6 ?_ | refine s_loadBs ?_ | refine s_loadHs ?_ | refine s_fieldB ?_ | refine s_fieldV ?_ | refine s_loadB ?_ | refine s_loadH ?_ | refine s_loadR ?_ | refine s_build ?_ | refine s_len ?_ | refine s_lenR ?_ | refine s_index ?_ | refine s_indexR ?_ | refine s_mulI ?_ | refine s_convI ?_ | refine s_addI ?_ | refine s_rem ?_ | refine s_neqB ?_ | refine a7 ?_ | refine a8 ?_ | refine a9 ?_ | refine RW.storeR rfl rfl rfl rfl (by first | rfl | (simp [allOne, cellsL, one1]; done) | (simp [allOne, cellsL, one1]; first | assumption | (refine ⟨?_, ?_⟩ <;> assumption))) rfl ?_ | refine a10 ?_ | refine RW.storeR1 rfl rfl (by first | rfl | exact IsSl.one1 (by assumption) | exact IsSl.one1 (SliceRep.isSl (by assumption))) rfl rfl ?_)
    try refine RW.q (QV.loadHs rfl (hxc)) rfl rfl ?_
    repeat (first | refine a1 ?_ | refine a3 ?_ | refine a4 ?_ | refine a5 ?_ | refine a6 ?_ | refine s_loadBs ?_ | refine s_loadHs ?_ | refine s_fieldB ?_ | refine s_fieldV ?_ | refine s_loadB ?_ | refine s_loadH ?_ | refine s_loadR ?_ | refine s_build ?_ | refine s_len ?_ | refine s_lenR ?_ | refine s_index ?_ | refine s_indexR ?_ | refine s_mulI ?_ | refine s_convI ?_ | refine s_addI ?_ | refine s_rem ?_ | refine s_neqB ?_ | refine a7 ?_ | refine a8 ?_ | refine a9 ?_ | refine RW.storeR rfl rfl rfl rfl (by first | rfl | (simp [allOne, cellsL, one1]; done) | (simp [allOne, cellsL, one1]; first | assumption | (refine ⟨?_, ?_⟩ <;> assumption))) rfl ?_ | refine a10 ?_ | refine RW.storeR1 rfl rfl (by first | rfl | exact IsSl.one1 (by assumption) | exact IsSl.one1 (SliceRep.isSl (by assumption))) rfl rfl ?_)
    refine RW.alloc rfl rfl rfl (fun b11 => ?_)
    repeat (first | refine a1 ?_ | refine a3 ?_ | refine a4 ?_ | refine a5 ?_ | refine a6 ?_ | refine s_loadBs ?_ | refine s_loadHs ?_ | refine s_fieldB ?_ | refine s_fieldV ?_ | refine s_loadB ?_ | refine s_loadH ?_ | refine s_loadR ?_ | refine s_build ?_ | refine s_len ?_ | refine s_lenR ?_ | refine s_index ?_ | refine s_indexR ?_ | refine s_mulI ?_ | refine s_convI ?_ | refine s_addI ?_ | refine s_rem ?_ | refine s_neqB ?_ | refine a7 ?_ | refine a8 ?_ | refine a9 ?_ | refine RW.storeR rfl rfl rfl rfl (by first | rfl | (simp [allOne, cellsL, one1]; done) | (simp [allOne, cellsL, one1]; first | assumption | (refine ⟨?_, ?_⟩ <;> assumption))) rfl ?_ | refine a10 ?_ | refine RW.storeR1 rfl rfl (by first | rfl | exact IsSl.one1 (by assumption) | exact IsSl.one1 (SliceRep.isSl (by assumption))) rfl rfl ?_)
    refine RW.buildSlice rfl rfl rfl rfl rfl rfl rfl (fun v46 hv46 => ?_)
    repeat (first | refine a1 ?_ | refine a3 ?_ | refine a4 ?_ | refine a5 ?_ | refine a6 ?_ | refine s_loadBs ?_ | refine s_loadHs ?_ | refine s_fieldB ?_ | refine s_fieldV ?_ | refine s_loadB ?_ | refine s_loadH ?_ | refine s_loadR ?_ | refine s_build ?_ | refine s_len ?_ | refine s_lenR ?_ | refine s_index ?_ | refine s_indexR ?_ | refine s_mulI ?_ | refine s_convI ?_ | refine s_addI ?_ | refine s_rem ?_ | refine s_neqB ?_ | refine a7 ?_ | refine a8 ?_ | refine a9 ?_ | refine RW.storeR rfl rfl rfl rfl (by first | rfl | (simp [allOne, cellsL, one1]; done) | (simp [allOne, cellsL, one1]; first | assumption | (refine ⟨?_, ?_⟩ <;> assumption))) rfl ?_ | refine a10 ?_ | refine RW.storeR1 rfl rfl (by first | rfl | exact IsSl.one1 (by assumption) | exact IsSl.one1 (SliceRep.isSl (by assumption))) rfl rfl ?_)
    refine RW.appendR rfl rfl (by assumption) rfl rfl rfl (by decide) (by omega) (by omega) (fun _ => inferInstance) rfl rfl (fun v47 hv47 => ?_)
    repeat (first | refine a1 ?_ | refine a3 ?_ | refine a4 ?_ | refine a5 ?_ | refine a6 ?_ | refine s_loadBs ?_ | refine s_loadHs ?_ | refine s_fieldB ?_ | refine s_fieldV ?_ | refine s_loadB ?_ | refine s_loadH ?_ | refine s_loadR ?_ | refine s_build ?_ | refine s_len ?_ | refine s_lenR ?_ | refine s_index ?_ | refine s_indexR ?_ | refine s_mulI ?_ | refine s_convI ?_ | refine s_addI ?_ | refine s_rem ?_ | refine s_neqB ?_ | refine a7 ?_ | refine a8 ?_ | refine a9 ?_ | refine RW.storeR rfl rfl rfl rfl (by first | rfl | (simp [allOne, cellsL, one1]; done) | (simp [allOne, cellsL, one1]; first | assumption | (refine ⟨?_, ?_⟩ <;> assumption))) rfl ?_ | refine a10 ?_ | refine RW.storeR1 rfl rfl (by first | rfl | exact IsSl.one1 (by assumption) | exact IsSl.one1 (SliceRep.isSl (by assumption))) rfl rfl ?_)
    simp only [repL, List.nil_append, Nat.zero_add]
    have h := ih (k + 1, v47) (by dsimp only; omega) (by dsimp only; omega)
    dsimp only at h
    rw [take_snoc_of hxk, List.map_append, List.map_cons, List.map_nil, encL_snoc] at h
    refine Runs.weak (h) (by repeat (first | exact trivial | refine And.intro rfl ?_)) (fun x hx => List.mem_cons_of_mem _ (SubH.h x hx)) (by repeat (first | exact List.nil_sublist _ | exact List.Sublist.refl _ | refine List.Sublist.cons_cons _ ?_ | refine List.Sublist.cons _ ?_))
  · have hke : k = gl.length := by omega
    subst hke
    rw [List.take_length]
    clear ih
    obtain ⟨gl2, hgl2⟩ : ∃ g, g = gl.map (scL lab) := ⟨_, rfl⟩
    rw [← hgl2]
    refine Runs.freeze (H := Hg) v hM (fun HF hleF hsF hcF => ?_)
    have hl2 : gl2.length = gl.length := by rw [hgl2, List.length_map]
    have hr2 : SliceRep HF LinkL v gl2 := SliceRep.of_row hsF hl2.symm (flat_rep gl2) (Snap.le.refl _) hcF
    have hg2 : validG (N : Int) gl2 := by
      refine ⟨hN1, hN2, by omega, fun y hy => ?_⟩
      rw [hgl2] at hy
      obtain ⟨x, hxm, rfl⟩ := List.mem_map.1 hy
      have h1 := hall x hxm
      have h2 := hc5 x hxm
      unfold okL at h1 ⊢
      dsimp only [scL]
      omega
    have hT2 : treeT gl2 N 0 ≤ 2000000000000 := by
      have := tree_small' (gl := gl2) (N := (N : Int)) (by omega) hN7
      rwa [Int.toNat_natCast] at this
    clear hcF hsF
    obtain ⟨q, hq⟩ : ∃ k : Nat, kk % 51 = (k : Int) := ⟨(kk % 51).toNat, by omega⟩
    have hq50 : q ≤ 50 := by omega
    have hM1 := made19_c (N := N) (k := q) (s := 1000) (hgl.mono hleF) hg hT (by omega) (by omega)
    rw [div_big hN1 hN7 (by omega)] at hM1
    repeat (first | refine a1 ?_ | refine a3 ?_ | refine a4 ?_ | refine a5 ?_ | refine a6 ?_ | refine s_loadBs ?_ | refine s_loadHs ?_ | refine s_fieldB ?_ | refine s_fieldV ?_ | refine s_loadB ?_ | refine s_loadH ?_ | refine s_loadR ?_ | refine s_build ?_ | refine s_len ?_ | refine s_lenR ?_ | refine s_index ?_ | refine s_indexR ?_ | refine s_mulI ?_ | refine s_convI ?_ | refine s_addI ?_ | refine s_rem ?_ | refine s_neqB ?_ | refine a7 ?_ | refine a8 ?_ | refine a9 ?_ | refine RW.storeR rfl rfl rfl rfl (by first | rfl | (simp [allOne, cellsL, one1]; done) | (simp [allOne, cellsL, one1]; first | assumption | (refine ⟨?_, ?_⟩ <;> assumption))) rfl ?_ | refine a10 ?_ | refine RW.storeR1 rfl rfl (by first | rfl | exact IsSl.one1 (by assumption) | exact IsSl.one1 (SliceRep.isSl (by assumption))) rfl rfl ?_)
    rw [hq]
    repeat (first | refine a1 ?_ | refine a3 ?_ | refine a4 ?_ | refine a5 ?_ | refine a6 ?_ | refine s_loadBs ?_ | refine s_loadHs ?_ | refine s_fieldB ?_ | refine s_fieldV ?_ | refine s_loadB ?_ | refine s_loadH ?_ | refine s_loadR ?_ | refine s_build ?_ | refine s_len ?_ | refine s_lenR ?_ | refine s_index ?_ | refine s_indexR ?_ | refine s_mulI ?_ | refine s_convI ?_ | refine s_addI ?_ | refine s_rem ?_ | refine s_neqB ?_ | refine a7 ?_ | refine a8 ?_ | refine a9 ?_ | refine RW.storeR rfl rfl rfl rfl (by first | rfl | (simp [allOne, cellsL, one1]; done) | (simp [allOne, cellsL, one1]; first | assumption | (refine ⟨?_, ?_⟩ <;> assumption))) rfl ?_ | refine a10 ?_ | refine RW.storeR1 rfl rfl (by first | rfl | exact IsSl.one1 (by assumption) | exact IsSl.one1 (SliceRep.isSl (by assumption))) rfl rfl ?_)
    refine RW.call rfl (hM1) rfl rfl ?_
    rintro _ Ha ⟨va, vha, rfl, hva, hvha⟩ hlea
    have hva1 := hva.isSl.one1
    have hvha1 := hvha.isSl.one1
    have hM2 := made19_c (N := N) (k := q) (s := 1000) (hr2.mono hlea) hg2 hT2 (by omega) (by omega)
    rw [div_big hN1 hN7 (by omega), hgl2, allW_sc, pot_sc lab (fun x hx => (hc5 x hx).1), ← List.map_take, show wholeB ((allW gl N).map scC) q = wholeB (allW gl N) q from by unfold wholeB; rw [List.length_map]] at hM2
    repeat (first | refine a1 ?_ | refine a3 ?_ | refine a4 ?_ | refine a5 ?_ | refine a6 ?_ | refine s_loadBs ?_ | refine s_loadHs ?_ | refine s_fieldB ?_ | refine s_fieldV ?_ | refine s_loadB ?_ | refine s_loadH ?_ | refine s_loadR ?_ | refine s_build ?_ | refine s_len ?_ | refine s_lenR ?_ | refine s_index ?_ | refine s_indexR ?_ | refine s_mulI ?_ | refine s_convI ?_ | refine s_addI ?_ | refine s_rem ?_ | refine s_neqB ?_ | refine a7 ?_ | refine a8 ?_ | refine a9 ?_ | refine RW.storeR rfl rfl rfl rfl (by first | rfl | (simp [allOne, cellsL, one1]; done) | (simp [allOne, cellsL, one1]; first | assumption | (refine ⟨?_, ?_⟩ <;> assumption))) rfl ?_ | refine a10 ?_ | refine RW.storeR1 rfl rfl (by first | rfl | exact IsSl.one1 (by assumption) | exact IsSl.one1 (SliceRep.isSl (by assumption))) rfl rfl ?_)
    refine RW.alloc rfl rfl rfl (fun b12 => ?_)
    repeat (first | refine a1 ?_ | refine a3 ?_ | refine a4 ?_ | refine a5 ?_ | refine a6 ?_ | refine s_loadBs ?_ | refine s_loadHs ?_ | refine s_fieldB ?_ | refine s_fieldV ?_ | refine s_loadB ?_ | refine s_loadH ?_ | refine s_loadR ?_ | refine s_build ?_ | refine s_len ?_ | refine s_lenR ?_ | refine s_index ?_ | refine s_indexR ?_ | refine s_mulI ?_ | refine s_convI ?_ | refine s_addI ?_ | refine s_rem ?_ | refine s_neqB ?_ | refine a7 ?_ | refine a8 ?_ | refine a9 ?_ | refine RW.storeR rfl rfl rfl rfl (by first | rfl | (simp [allOne, cellsL, one1]; done) | (simp [allOne, cellsL, one1]; first | assumption | (refine ⟨?_, ?_⟩ <;> assumption))) rfl ?_ | refine a10 ?_ | refine RW.storeR1 rfl rfl (by first | rfl | exact IsSl.one1 (by assumption) | exact IsSl.one1 (SliceRep.isSl (by assumption))) rfl rfl ?_)
    rw [hq]
    repeat (first | refine a1 ?_ | refine a3 ?_ | refine a4 ?_ | refine a5 ?_ | refine a6 ?_ | refine s_loadBs ?_ | refine s_loadHs ?_ | refine s_fieldB ?_ | refine s_fieldV ?_ | refine s_loadB ?_ | refine s_loadH ?_ | refine s_loadR ?_ | refine s_build ?_ | refine s_len ?_ | refine s_lenR ?_ | refine s_index ?_ | refine s_indexR ?_ | refine s_mulI ?_ | refine s_convI ?_ | refine s_addI ?_ | refine s_rem ?_ | refine s_neqB ?_ | refine a7 ?_ | refine a8 ?_ | refine a9 ?_ | refine RW.storeR rfl rfl rfl rfl (by first | rfl | (simp [allOne, cellsL, one1]; done) | (simp [allOne, cellsL, one1]; first | assumption | (refine ⟨?_, ?_⟩ <;> assumption))) rfl ?_ | refine a10 ?_ | refine RW.storeR1 rfl rfl (by first | rfl | exact IsSl.one1 (by assumption) | exact IsSl.one1 (SliceRep.isSl (by assumption))) rfl rfl ?_)
    refine RW.call rfl (hM2) rfl rfl ?_
    rintro _ Hb ⟨vb, vhb, rfl, hvb, hvhb⟩ hleb
    have hvb1 := hvb.isSl.one1
    have hvhb1 := hvhb.isSl.one1
    have hvas := hva.isSl
    have hvbs := hvb.isSl
    have hvhas := hvha.isSl
    have hvhbs := hvhb.isSl
    rw [List.length_map] at hvbs hvhbs
    rw [pot_len] at hvhas hvhbs
    have hPc : ∀ x ∈ (allW gl N).take q, 0 ≤ x.cost ∧ x.cost ≤ N * 1000000 := fun x hx => (waysG_bound hall N 0 x ((ordered_perm _).mem_iff.1 (List.mem_of_mem_take hx))).2
    generalize (allW gl N).take q = P at *
    generalize wholeB (allW gl N) q = wb at *
    repeat (first | refine a1 ?_ | refine a3 ?_ | refine a4 ?_ | refine a5 ?_ | refine a6 ?_ | refine s_loadBs ?_ | refine s_loadHs ?_ | refine s_fieldB ?_ | refine s_fieldV ?_ | refine s_loadB ?_ | refine s_loadH ?_ | refine s_loadR ?_ | refine s_build ?_ | refine s_len ?_ | refine s_lenR ?_ | refine s_index ?_ | refine s_indexR ?_ | refine s_mulI ?_ | refine s_convI ?_ | refine s_addI ?_ | refine s_rem ?_ | refine s_neqB ?_ | refine a7 ?_ | refine a8 ?_ | refine a9 ?_ | refine RW.storeR rfl rfl rfl rfl (by first | rfl | (simp [allOne, cellsL, one1]; done) | (simp [allOne, cellsL, one1]; first | assumption | (refine ⟨?_, ?_⟩ <;> assumption))) rfl ?_ | refine a10 ?_ | refine RW.storeR1 rfl rfl (by first | rfl | exact IsSl.one1 (by assumption) | exact IsSl.one1 (SliceRep.isSl (by assumption))) rfl rfl ?_)
    refine RW.alloc rfl rfl rfl (fun b13 => ?_)
    repeat (first | refine a1 ?_ | refine a3 ?_ | refine a4 ?_ | refine a5 ?_ | refine a6 ?_ | refine s_loadBs ?_ | refine s_loadHs ?_ | refine s_fieldB ?_ | refine s_fieldV ?_ | refine s_loadB ?_ | refine s_loadH ?_ | refine s_loadR ?_ | refine s_build ?_ | refine s_len ?_ | refine s_lenR ?_ | refine s_index ?_ | refine s_indexR ?_ | refine s_mulI ?_ | refine s_convI ?_ | refine s_addI ?_ | refine s_rem ?_ | refine s_neqB ?_ | refine a7 ?_ | refine a8 ?_ | refine a9 ?_ | refine RW.storeR rfl rfl rfl rfl (by first | rfl | (simp [allOne, cellsL, one1]; done) | (simp [allOne, cellsL, one1]; first | assumption | (refine ⟨?_, ?_⟩ <;> assumption))) rfl ?_ | refine a10 ?_ | refine RW.storeR1 rfl rfl (by first | rfl | exact IsSl.one1 (by assumption) | exact IsSl.one1 (SliceRep.isSl (by assumption))) rfl rfl ?_)
    rw [show decide ((P.length : Int) ≠ (P.length : Int)) = false from by simp]
    repeat (first | refine a1 ?_ | refine a3 ?_ | refine a4 ?_ | refine a5 ?_ | refine a6 ?_ | refine s_loadBs ?_ | refine s_loadHs ?_ | refine s_fieldB ?_ | refine s_fieldV ?_ | refine s_loadB ?_ | refine s_loadH ?_ | refine s_loadR ?_ | refine s_build ?_ | refine s_len ?_ | refine s_lenR ?_ | refine s_index ?_ | refine s_indexR ?_ | refine s_mulI ?_ | refine s_convI ?_ | refine s_addI ?_ | refine s_rem ?_ | refine s_neqB ?_ | refine a7 ?_ | refine a8 ?_ | refine a9 ?_ | refine RW.storeR rfl rfl rfl rfl (by first | rfl | (simp [allOne, cellsL, one1]; done) | (simp [allOne, cellsL, one1]; first | assumption | (refine ⟨?_, ?_⟩ <;> assumption))) rfl ?_ | refine a10 ?_ | refine RW.storeR1 rfl rfl (by first | rfl | exact IsSl.one1 (by assumption) | exact IsSl.one1 (SliceRep.isSl (by assumption))) rfl rfl ?_)
    rw [bne_self_eq_false]
    repeat (first | refine a1 ?_ | refine a3 ?_ | refine a4 ?_ | refine a5 ?_ | refine a6 ?_ | refine s_loadBs ?_ | refine s_loadHs ?_ | refine s_fieldB ?_ | refine s_fieldV ?_ | refine s_loadB ?_ | refine s_loadH ?_ | refine s_loadR ?_ | refine s_build ?_ | refine s_len ?_ | refine s_lenR ?_ | refine s_index ?_ | refine s_indexR ?_ | refine s_mulI ?_ | refine s_convI ?_ | refine s_addI ?_ | refine s_rem ?_ | refine s_neqB ?_ | refine a7 ?_ | refine a8 ?_ | refine a9 ?_ | refine RW.storeR rfl rfl rfl rfl (by first | rfl | (simp [allOne, cellsL, one1]; done) | (simp [allOne, cellsL, one1]; first | assumption | (refine ⟨?_, ?_⟩ <;> assumption))) rfl ?_ | refine a10 ?_ | refine RW.storeR1 rfl rfl (by first | rfl | exact IsSl.one1 (by assumption) | exact IsSl.one1 (SliceRep.isSl (by assumption))) rfl rfl ?_)
    rw [show decide ((N : Int) ≠ (N : Int)) = false from by simp]
    repeat (first | refine a1 ?_ | refine a3 ?_ | refine a4 ?_ | refine a5 ?_ | refine a6 ?_ | refine s_loadBs ?_ | refine s_loadHs ?_ | refine s_fieldB ?_ | refine s_fieldV ?_ | refine s_loadB ?_ | refine s_loadH ?_ | refine s_loadR ?_ | refine s_build ?_ | refine s_len ?_ | refine s_lenR ?_ | refine s_index ?_ | refine s_indexR ?_ | refine s_mulI ?_ | refine s_convI ?_ | refine s_addI ?_ | refine s_rem ?_ | refine s_neqB ?_ | refine a7 ?_ | refine a8 ?_ | refine a9 ?_ | refine RW.storeR rfl rfl rfl rfl (by first | rfl | (simp [allOne, cellsL, one1]; done) | (simp [allOne, cellsL, one1]; first | assumption | (refine ⟨?_, ?_⟩ <;> assumption))) rfl ?_ | refine a10 ?_ | refine RW.storeR1 rfl rfl (by first | rfl | exact IsSl.one1 (by assumption) | exact IsSl.one1 (SliceRep.isSl (by assumption))) rfl rfl ?_)
    rw [show decide ((N : Int) ≠ (N : Int)) = false from by simp]
    repeat (first | refine a1 ?_ | refine a3 ?_ | refine a4 ?_ | refine a5 ?_ | refine a6 ?_ | refine s_loadBs ?_ | refine s_loadHs ?_ | refine s_fieldB ?_ | refine s_fieldV ?_ | refine s_loadB ?_ | refine s_loadH ?_ | refine s_loadR ?_ | refine s_build ?_ | refine s_len ?_ | refine s_lenR ?_ | refine s_index ?_ | refine s_indexR ?_ | refine s_mulI ?_ | refine s_convI ?_ | refine s_addI ?_ | refine s_rem ?_ | refine s_neqB ?_ | refine a7 ?_ | refine a8 ?_ | refine a9 ?_ | refine RW.storeR rfl rfl rfl rfl (by first | rfl | (simp [allOne, cellsL, one1]; done) | (simp [allOne, cellsL, one1]; first | assumption | (refine ⟨?_, ?_⟩ <;> assumption))) rfl ?_ | refine a10 ?_ | refine RW.storeR1 rfl rfl (by first | rfl | exact IsSl.one1 (by assumption) | exact IsSl.one1 (SliceRep.isSl (by assumption))) rfl rfl ?_)
    refine Runs.loop (fun i : Nat => i ≤ P.length) (fun i => P.length - i) (fun _ => [Hb]) (fun _ => [.blk b13 37 [vb, .bool wb, vhb, .int .i64 0], .blk b12 37 [va, .bool wb, vha, .int .i64 0], .blk b8 29 [.int .i64 (N : Int), vg]])
      (fun i => [(7, .bool true), (8, .pointer (some ⟨b8, 0, none⟩)), (12, .pointer (some ⟨b12, 0, none⟩)), (13, .pointer (some ⟨b13, 0, none⟩)), (14, .int .i64 (i : Int))]) 0 (Nat.zero_le _) (fun h => by
        refine Runs.weak (h) (by repeat (first | exact trivial | refine And.intro rfl ?_)) (fun x hx => List.mem_cons_of_mem _ (SubH.h x hx)) (by repeat (first | exact List.nil_sublist _ | exact List.Sublist.refl _ | refine List.Sublist.cons_cons _ ?_ | refine List.Sublist.cons _ ?_))) ?_
    rintro i hi ih
    have hva' := hva.mono hleb
    have hPl := hvas.bound
    repeat (first | refine a1 ?_ | refine a3 ?_ | refine a4 ?_ | refine a5 ?_ | refine a6 ?_ | refine s_loadBs ?_ | refine s_loadHs ?_ | refine s_fieldB ?_ | refine s_fieldV ?_ | refine s_loadB ?_ | refine s_loadH ?_ | refine s_loadR ?_ | refine s_build ?_ | refine s_len ?_ | refine s_lenR ?_ | refine s_index ?_ | refine s_indexR ?_ | refine s_mulI ?_ | refine s_convI ?_ | refine s_addI ?_ | refine s_rem ?_ | refine s_neqB ?_ | refine a7 ?_ | refine a8 ?_ | refine a9 ?_ | refine RW.storeR rfl rfl rfl rfl (by first | rfl | (simp [allOne, cellsL, one1]; done) | (simp [allOne, cellsL, one1]; first | assumption | (refine ⟨?_, ?_⟩ <;> assumption))) rfl ?_ | refine a10 ?_ | refine RW.storeR1 rfl rfl (by first | rfl | exact IsSl.one1 (by assumption) | exact IsSl.one1 (SliceRep.isSl (by assumption))) rfl rfl ?_)
    refine Runs.cond_d rfl (fun hlt1 => ?_) (fun hlt1 => ?_)
    · obtain ⟨x, hxk⟩ : ∃ x, P[i]? = some x := ⟨_, List.getElem?_eq_getElem (by omega)⟩
      have hyk : (P.map scC)[i]? = some (scC x) := by rw [List.getElem?_map, hxk]; rfl
      obtain ⟨vx, hvx, g0, g1, _⟩ := hva'.cand hxk
      obtain ⟨vy, hvy, g2, g3, _⟩ := hvb.cand hyk
      have hvy' : SliceRep Hb I64 vy x.links := hvy
      have g3' : Hb.cell (vat vb (i * 2 + 1)) = some (.int .i64 (2 * x.cost)) := g3
      clear g3 hvy
      have hxo := hPc x (List.mem_of_getElem? hxk)
      have hI : Pure Try.prog 14 #[vx, vy] Hb (fun _ r => r = .bool true) := (ints_c hvx hvy').mono fun _ _ _ h => by rw [h, decide_eq_true rfl]
      repeat (first | refine a1 ?_ | refine a3 ?_ | refine a4 ?_ | refine a5 ?_ | refine a6 ?_ | refine s_loadBs ?_ | refine s_loadHs ?_ | refine s_fieldB ?_ | refine s_fieldV ?_ | refine s_loadB ?_ | refine s_loadH ?_ | refine s_loadR ?_ | refine s_build ?_ | refine s_len ?_ | refine s_lenR ?_ | refine s_index ?_ | refine s_indexR ?_ | refine s_mulI ?_ | refine s_convI ?_ | refine s_addI ?_ | refine s_rem ?_ | refine s_neqB ?_ | refine a7 ?_ | refine a8 ?_ | refine a9 ?_ | refine RW.storeR rfl rfl rfl rfl (by first | rfl | (simp [allOne, cellsL, one1]; done) | (simp [allOne, cellsL, one1]; first | assumption | (refine ⟨?_, ?_⟩ <;> assumption))) rfl ?_ | refine a10 ?_ | refine RW.storeR1 rfl rfl (by first | rfl | exact IsSl.one1 (by assumption) | exact IsSl.one1 (SliceRep.isSl (by assumption))) rfl rfl ?_)
      refine Runs.regionD _ _ [] (fun x hx => List.mem_cons_of_mem _ hx) (List.Sublist.refl _) (by kernel_rfl) ?_
      (first | refine t_fieldB 0 ?_ | refine t_fieldV 0 ?_)
      (first | refine t_fieldB 1 ?_ | refine t_fieldV 1 ?_)
      (first | refine t_loadB 2 ?_ | refine t_loadH 2 ?_ | refine t_loadR 2 ?_)
      refine d2 3 ?_
      (first | refine t_index 4 ?_ | refine t_indexR 4 ?_)
      (first | refine t_fieldB 5 ?_ | refine t_fieldV 5 ?_)
      (first | refine t_loadB 6 ?_ | refine t_loadH 6 ?_ | refine t_loadR 6 ?_)
      (first | refine t_fieldB 7 ?_ | refine t_fieldV 7 ?_)
      (first | refine t_fieldB 8 ?_ | refine t_fieldV 8 ?_)
      (first | refine t_loadB 9 ?_ | refine t_loadH 9 ?_ | refine t_loadR 9 ?_)
      refine d2 10 ?_
      (first | refine t_index 11 ?_ | refine t_indexR 11 ?_)
      (first | refine t_fieldB 12 ?_ | refine t_fieldV 12 ?_)
      (first | refine t_loadB 13 ?_ | refine t_loadH 13 ?_ | refine t_loadR 13 ?_)
      refine DW.callV 14 rfl (by kernel_rfl) rfl (hI) rfl rfl ?_
      rintro _ _ rfl
      refine d1 15 2 ?_
      (first | refine t_fieldB 17 ?_ | refine t_fieldV 17 ?_)
      (first | refine t_fieldB 18 ?_ | refine t_fieldV 18 ?_)
      (first | refine t_loadB 19 ?_ | refine t_loadH 19 ?_ | refine t_loadR 19 ?_)
      refine d2 20 ?_
      (first | refine t_index 21 ?_ | refine t_indexR 21 ?_)
      (first | refine t_fieldB 22 ?_ | refine t_fieldV 22 ?_)
      (first | refine t_loadB 23 ?_ | refine t_loadH 23 ?_ | refine t_loadR 23 ?_)
      (first | refine t_fieldB 24 ?_ | refine t_fieldV 24 ?_)
      (first | refine t_fieldB 25 ?_ | refine t_fieldV 25 ?_)
      (first | refine t_loadB 26 ?_ | refine t_loadH 26 ?_ | refine t_loadR 26 ?_)
      refine d2 27 ?_
      (first | refine t_index 28 ?_ | refine t_indexR 28 ?_)
      (first | refine t_fieldB 29 ?_ | refine t_fieldV 29 ?_)
      (first | refine t_loadB 30 ?_ | refine t_loadH 30 ?_ | refine t_loadR 30 ?_)
      refine t_mulI 31 ?_
      refine d2 32 ?_
      rw [show decide ((2 * x.cost : Int) ≠ 2 * x.cost) = false from by simp]
      refine d2 33 ?_
      refine DW.done (by kernel_rfl) ?_
      repeat (first | refine a1 ?_ | refine a3 ?_ | refine a4 ?_ | refine a5 ?_ | refine a6 ?_ | refine s_loadBs ?_ | refine s_loadHs ?_ | refine s_fieldB ?_ | refine s_fieldV ?_ | refine s_loadB ?_ | refine s_loadH ?_ | refine s_loadR ?_ | refine s_build ?_ | refine s_len ?_ | refine s_lenR ?_ | refine s_index ?_ | refine s_indexR ?_ | refine s_mulI ?_ | refine s_convI ?_ | refine s_addI ?_ | refine s_rem ?_ | refine s_neqB ?_ | refine a7 ?_ | refine a8 ?_ | refine a9 ?_ | refine RW.storeR rfl rfl rfl rfl (by first | rfl | (simp [allOne, cellsL, one1]; done) | (simp [allOne, cellsL, one1]; first | assumption | (refine ⟨?_, ?_⟩ <;> assumption))) rfl ?_ | refine a10 ?_ | refine RW.storeR1 rfl rfl (by first | rfl | exact IsSl.one1 (by assumption) | exact IsSl.one1 (SliceRep.isSl (by assumption))) rfl rfl ?_)
      refine Runs.weak (ih (i + 1) (by omega) (by omega)) (by repeat (first | exact trivial | refine And.intro rfl ?_)) (fun x hx => List.mem_cons_of_mem _ (SubH.h x hx)) (by repeat (first | exact List.nil_sublist _ | exact List.Sublist.refl _ | refine List.Sublist.cons_cons _ ?_ | refine List.Sublist.cons _ ?_))
    · repeat (first | refine a1 ?_ | refine a3 ?_ | refine a4 ?_ | refine a5 ?_ | refine a6 ?_ | refine s_loadBs ?_ | refine s_loadHs ?_ | refine s_fieldB ?_ | refine s_fieldV ?_ | refine s_loadB ?_ | refine s_loadH ?_ | refine s_loadR ?_ | refine s_build ?_ | refine s_len ?_ | refine s_lenR ?_ | refine s_index ?_ | refine s_indexR ?_ | refine s_mulI ?_ | refine s_convI ?_ | refine s_addI ?_ | refine s_rem ?_ | refine s_neqB ?_ | refine a7 ?_ | refine a8 ?_ | refine a9 ?_ | refine RW.storeR rfl rfl rfl rfl (by first | rfl | (simp [allOne, cellsL, one1]; done) | (simp [allOne, cellsL, one1]; first | assumption | (refine ⟨?_, ?_⟩ <;> assumption))) rfl ?_ | refine a10 ?_ | refine RW.storeR1 rfl rfl (by first | rfl | exact IsSl.one1 (by assumption) | exact IsSl.one1 (SliceRep.isSl (by assumption))) rfl rfl ?_)
      refine Runs.loop (fun i : Nat => i ≤ N) (fun i => N - i) (fun _ => [Hb]) (fun _ => [.blk b13 37 [vb, .bool wb, vhb, .int .i64 0], .blk b12 37 [va, .bool wb, vha, .int .i64 0], .blk b8 29 [.int .i64 (N : Int), vg]])
        (fun i => [(7, .bool true), (8, .pointer (some ⟨b8, 0, none⟩)), (12, .pointer (some ⟨b12, 0, none⟩)), (13, .pointer (some ⟨b13, 0, none⟩)), (15, .int .i64 (i : Int))]) 0 (Nat.zero_le _) (fun h => by
          refine Runs.weak (h) (by repeat (first | exact trivial | refine And.intro rfl ?_)) (fun x hx => List.mem_cons_of_mem _ (SubH.h x hx)) (by repeat (first | exact List.nil_sublist _ | exact List.Sublist.refl _ | refine List.Sublist.cons_cons _ ?_ | refine List.Sublist.cons _ ?_))) ?_
      rintro j hj ih2
      have hvha' := hvha.mono hleb
      repeat (first | refine a1 ?_ | refine a3 ?_ | refine a4 ?_ | refine a5 ?_ | refine a6 ?_ | refine s_loadBs ?_ | refine s_loadHs ?_ | refine s_fieldB ?_ | refine s_fieldV ?_ | refine s_loadB ?_ | refine s_loadH ?_ | refine s_loadR ?_ | refine s_build ?_ | refine s_len ?_ | refine s_lenR ?_ | refine s_index ?_ | refine s_indexR ?_ | refine s_mulI ?_ | refine s_convI ?_ | refine s_addI ?_ | refine s_rem ?_ | refine s_neqB ?_ | refine a7 ?_ | refine a8 ?_ | refine a9 ?_ | refine RW.storeR rfl rfl rfl rfl (by first | rfl | (simp [allOne, cellsL, one1]; done) | (simp [allOne, cellsL, one1]; first | assumption | (refine ⟨?_, ?_⟩ <;> assumption))) rfl ?_ | refine a10 ?_ | refine RW.storeR1 rfl rfl (by first | rfl | exact IsSl.one1 (by assumption) | exact IsSl.one1 (SliceRep.isSl (by assumption))) rfl rfl ?_)
      refine Runs.cond_d rfl (fun hlt2 => ?_) (fun hlt2 => ?_)
      · obtain ⟨y, hyk⟩ : ∃ y, (pot gl N)[j]? = some y := ⟨_, List.getElem?_eq_getElem (by rw [pot_len]; omega)⟩
        have hzk : ((pot gl N).map sc1)[j]? = some (sc1 y) := by rw [List.getElem?_map, hyk]; rfl
        have hyb : -1 ≤ y ∧ y ≤ ((N : Int) - 1 - j) * 1000000 := by
          have := (pot_is hall (by omega)).2.1 (j : Int) (by omega) (by omega)
          rwa [show tv (pot gl N) (j : Int) = y from by unfold tv; rw [Int.toNat_natCast, hyk]; rfl] at this
        have hy9 : y ≤ 9000000 := by
          have h1 := hyb.2
          have h2 : ((N : Int) - 1 - j) * 1000000 ≤ 7 * 1000000 := by omega
          omega
        by_cases hy0 : y < 0
        · have e1 : y = -1 := by omega
          have e2 : sc1 y = -1 := by unfold sc1; rw [if_pos e1]
          rw [e2] at hzk
          subst e1
          repeat (first | refine a1 ?_ | refine a3 ?_ | refine a4 ?_ | refine a5 ?_ | refine a6 ?_ | refine s_loadBs ?_ | refine s_loadHs ?_ | refine s_fieldB ?_ | refine s_fieldV ?_ | refine s_loadB ?_ | refine s_loadH ?_ | refine s_loadR ?_ | refine s_build ?_ | refine s_len ?_ | refine s_lenR ?_ | refine s_index ?_ | refine s_indexR ?_ | refine s_mulI ?_ | refine s_convI ?_ | refine s_addI ?_ | refine s_rem ?_ | refine s_neqB ?_ | refine a7 ?_ | refine a8 ?_ | refine a9 ?_ | refine RW.storeR rfl rfl rfl rfl (by first | rfl | (simp [allOne, cellsL, one1]; done) | (simp [allOne, cellsL, one1]; first | assumption | (refine ⟨?_, ?_⟩ <;> assumption))) rfl ?_ | refine a10 ?_ | refine RW.storeR1 rfl rfl (by first | rfl | exact IsSl.one1 (by assumption) | exact IsSl.one1 (SliceRep.isSl (by assumption))) rfl rfl ?_)
          refine Runs.regionD _ _ [] (fun x hx => List.mem_cons_of_mem _ hx) (List.Sublist.refl _) (by kernel_rfl) ?_
          (first | refine t_fieldB 0 ?_ | refine t_fieldV 0 ?_)
          (first | refine t_loadB 1 ?_ | refine t_loadH 1 ?_ | refine t_loadR 1 ?_)
          refine d2 2 ?_
          (first | refine t_index 3 ?_ | refine t_indexR 3 ?_)
          (first | refine t_loadB 4 ?_ | refine t_loadH 4 ?_ | refine t_loadR 4 ?_)
          refine d1 5 2 ?_
          (first | refine t_fieldB 7 ?_ | refine t_fieldV 7 ?_)
          (first | refine t_loadB 8 ?_ | refine t_loadH 8 ?_ | refine t_loadR 8 ?_)
          refine d2 9 ?_
          (first | refine t_index 10 ?_ | refine t_indexR 10 ?_)
          (first | refine t_loadB 11 ?_ | refine t_loadH 11 ?_ | refine t_loadR 11 ?_)
          (first | refine t_fieldB 12 ?_ | refine t_fieldV 12 ?_)
          (first | refine t_loadB 13 ?_ | refine t_loadH 13 ?_ | refine t_loadR 13 ?_)
          refine d2 14 ?_
          (first | refine t_index 15 ?_ | refine t_indexR 15 ?_)
          (first | refine t_loadB 16 ?_ | refine t_loadH 16 ?_ | refine t_loadR 16 ?_)
          refine d1 17 3 ?_
          (first | refine t_fieldB 20 ?_ | refine t_fieldV 20 ?_)
          (first | refine t_loadB 21 ?_ | refine t_loadH 21 ?_ | refine t_loadR 21 ?_)
          refine d2 22 ?_
          (first | refine t_index 23 ?_ | refine t_indexR 23 ?_)
          (first | refine t_loadB 24 ?_ | refine t_loadH 24 ?_ | refine t_loadR 24 ?_)
          refine d1 25 2 ?_
          refine d3 27 ?_
          refine d3 28 ?_
          refine d3 29 ?_
          refine d3 30 ?_
          refine d3 31 ?_
          refine d3 32 ?_
          refine d3 33 ?_
          refine d3 34 ?_
          refine d3 35 ?_
          refine d3 36 ?_
          refine d3 37 ?_
          refine d3 38 ?_
          refine d1 39 2 ?_
          refine DW.done (by kernel_rfl) ?_
          repeat (first | refine a1 ?_ | refine a3 ?_ | refine a4 ?_ | refine a5 ?_ | refine a6 ?_ | refine s_loadBs ?_ | refine s_loadHs ?_ | refine s_fieldB ?_ | refine s_fieldV ?_ | refine s_loadB ?_ | refine s_loadH ?_ | refine s_loadR ?_ | refine s_build ?_ | refine s_len ?_ | refine s_lenR ?_ | refine s_index ?_ | refine s_indexR ?_ | refine s_mulI ?_ | refine s_convI ?_ | refine s_addI ?_ | refine s_rem ?_ | refine s_neqB ?_ | refine a7 ?_ | refine a8 ?_ | refine a9 ?_ | refine RW.storeR rfl rfl rfl rfl (by first | rfl | (simp [allOne, cellsL, one1]; done) | (simp [allOne, cellsL, one1]; first | assumption | (refine ⟨?_, ?_⟩ <;> assumption))) rfl ?_ | refine a10 ?_ | refine RW.storeR1 rfl rfl (by first | rfl | exact IsSl.one1 (by assumption) | exact IsSl.one1 (SliceRep.isSl (by assumption))) rfl rfl ?_)
          refine Runs.weak (ih2 (j + 1) (by omega) (by omega)) (by repeat (first | exact trivial | refine And.intro rfl ?_)) (fun x hx => List.mem_cons_of_mem _ (SubH.h x hx)) (by repeat (first | exact List.nil_sublist _ | exact List.Sublist.refl _ | refine List.Sublist.cons_cons _ ?_ | refine List.Sublist.cons _ ?_))
        · have e2 : sc1 y = 2 * y := by unfold sc1; rw [if_neg (by omega)]
          rw [e2] at hzk
          repeat (first | refine a1 ?_ | refine a3 ?_ | refine a4 ?_ | refine a5 ?_ | refine a6 ?_ | refine s_loadBs ?_ | refine s_loadHs ?_ | refine s_fieldB ?_ | refine s_fieldV ?_ | refine s_loadB ?_ | refine s_loadH ?_ | refine s_loadR ?_ | refine s_build ?_ | refine s_len ?_ | refine s_lenR ?_ | refine s_index ?_ | refine s_indexR ?_ | refine s_mulI ?_ | refine s_convI ?_ | refine s_addI ?_ | refine s_rem ?_ | refine s_neqB ?_ | refine a7 ?_ | refine a8 ?_ | refine a9 ?_ | refine RW.storeR rfl rfl rfl rfl (by first | rfl | (simp [allOne, cellsL, one1]; done) | (simp [allOne, cellsL, one1]; first | assumption | (refine ⟨?_, ?_⟩ <;> assumption))) rfl ?_ | refine a10 ?_ | refine RW.storeR1 rfl rfl (by first | rfl | exact IsSl.one1 (by assumption) | exact IsSl.one1 (SliceRep.isSl (by assumption))) rfl rfl ?_)
          refine Runs.regionD _ _ [] (fun x hx => List.mem_cons_of_mem _ hx) (List.Sublist.refl _) (by kernel_rfl) ?_
          (first | refine t_fieldB 0 ?_ | refine t_fieldV 0 ?_)
          (first | refine t_loadB 1 ?_ | refine t_loadH 1 ?_ | refine t_loadR 1 ?_)
          refine d2 2 ?_
          (first | refine t_index 3 ?_ | refine t_indexR 3 ?_)
          (first | refine t_loadB 4 ?_ | refine t_loadH 4 ?_ | refine t_loadR 4 ?_)
          refine d2 5 ?_
          rw [decide_eq_false hy0]
          refine d2 6 ?_
          refine d3 7 ?_
          refine d3 8 ?_
          refine d3 9 ?_
          refine d3 10 ?_
          refine d3 11 ?_
          refine d3 12 ?_
          refine d3 13 ?_
          refine d3 14 ?_
          refine d3 15 ?_
          refine d3 16 ?_
          refine d3 17 ?_
          refine d1 18 2 ?_
          (first | refine t_fieldB 20 ?_ | refine t_fieldV 20 ?_)
          (first | refine t_loadB 21 ?_ | refine t_loadH 21 ?_ | refine t_loadR 21 ?_)
          refine d2 22 ?_
          (first | refine t_index 23 ?_ | refine t_indexR 23 ?_)
          (first | refine t_loadB 24 ?_ | refine t_loadH 24 ?_ | refine t_loadR 24 ?_)
          refine d2 25 ?_
          rw [show decide (y ≥ 0) = true from decide_eq_true (by omega)]
          refine d2 26 ?_
          (first | refine t_fieldB 27 ?_ | refine t_fieldV 27 ?_)
          (first | refine t_loadB 28 ?_ | refine t_loadH 28 ?_ | refine t_loadR 28 ?_)
          refine d2 29 ?_
          (first | refine t_index 30 ?_ | refine t_indexR 30 ?_)
          (first | refine t_loadB 31 ?_ | refine t_loadH 31 ?_ | refine t_loadR 31 ?_)
          (first | refine t_fieldB 32 ?_ | refine t_fieldV 32 ?_)
          (first | refine t_loadB 33 ?_ | refine t_loadH 33 ?_ | refine t_loadR 33 ?_)
          refine d2 34 ?_
          (first | refine t_index 35 ?_ | refine t_indexR 35 ?_)
          (first | refine t_loadB 36 ?_ | refine t_loadH 36 ?_ | refine t_loadR 36 ?_)
          refine t_mulI 37 ?_
          refine d2 38 ?_
          rw [show decide ((2 * y : Int) ≠ 2 * y) = false from by simp]
          refine d1 39 2 ?_
          refine DW.done (by kernel_rfl) ?_
          repeat (first | refine a1 ?_ | refine a3 ?_ | refine a4 ?_ | refine a5 ?_ | refine a6 ?_ | refine s_loadBs ?_ | refine s_loadHs ?_ | refine s_fieldB ?_ | refine s_fieldV ?_ | refine s_loadB ?_ | refine s_loadH ?_ | refine s_loadR ?_ | refine s_build ?_ | refine s_len ?_ | refine s_lenR ?_ | refine s_index ?_ | refine s_indexR ?_ | refine s_mulI ?_ | refine s_convI ?_ | refine s_addI ?_ | refine s_rem ?_ | refine s_neqB ?_ | refine a7 ?_ | refine a8 ?_ | refine a9 ?_ | refine RW.storeR rfl rfl rfl rfl (by first | rfl | (simp [allOne, cellsL, one1]; done) | (simp [allOne, cellsL, one1]; first | assumption | (refine ⟨?_, ?_⟩ <;> assumption))) rfl ?_ | refine a10 ?_ | refine RW.storeR1 rfl rfl (by first | rfl | exact IsSl.one1 (by assumption) | exact IsSl.one1 (SliceRep.isSl (by assumption))) rfl rfl ?_)
          refine Runs.weak (ih2 (j + 1) (by omega) (by omega)) (by repeat (first | exact trivial | refine And.intro rfl ?_)) (fun x hx => List.mem_cons_of_mem _ (SubH.h x hx)) (by repeat (first | exact List.nil_sublist _ | exact List.Sublist.refl _ | refine List.Sublist.cons_cons _ ?_ | refine List.Sublist.cons _ ?_))
      · repeat (first | refine a1 ?_ | refine a3 ?_ | refine a4 ?_ | refine a5 ?_ | refine a6 ?_ | refine s_loadBs ?_ | refine s_loadHs ?_ | refine s_fieldB ?_ | refine s_fieldV ?_ | refine s_loadB ?_ | refine s_loadH ?_ | refine s_loadR ?_ | refine s_build ?_ | refine s_len ?_ | refine s_lenR ?_ | refine s_index ?_ | refine s_indexR ?_ | refine s_mulI ?_ | refine s_convI ?_ | refine s_addI ?_ | refine s_rem ?_ | refine s_neqB ?_ | refine a7 ?_ | refine a8 ?_ | refine a9 ?_ | refine RW.storeR rfl rfl rfl rfl (by first | rfl | (simp [allOne, cellsL, one1]; done) | (simp [allOne, cellsL, one1]; first | assumption | (refine ⟨?_, ?_⟩ <;> assumption))) rfl ?_ | refine a10 ?_ | refine RW.storeR1 rfl rfl (by first | rfl | exact IsSl.one1 (by assumption) | exact IsSl.one1 (SliceRep.isSl (by assumption))) rfl rfl ?_)
        refine Runs.ret1 Try.func7 Try.results7 rfl (fun w hm => hR _ w _ H _ (List.mem_cons_self ..) (Snap.le.refl _) ?_ hm)
        rfl
end Go.Proofs.Ytjdhcblofkkibaa

/-
  The law PagePrefix. Conditions: the arguments' form.
-/
import Derived.Test.YtjdhcblofkkibaaVg
import Derived.Test.YtjdhcblofkkibaaVh0
import Derived.Test.YtjdhcblofkkibaaPq
namespace Go.Proofs.Ytjdhcblofkkibaa
open Go Go.RowKit

abbrev Pg := List Cand × Bool
def PageL : Lay Pg where
  sz := 2
  rep H x c := ∃ v, c = [v, .bool x.2] ∧ SliceRep H CandL v x.1
  mono := by rintro H H' x c hle ⟨v, h1, h2⟩; exact ⟨v, h1, h2.mono hle⟩
  len := by rintro H x c ⟨v, rfl, _⟩; rfl
  one := by
    rintro H x c ⟨v, rfl, h⟩ u hu
    simp at hu
    rcases hu with rfl | rfl
    · exact h.isSl.one1
    · rfl
theorem SliceRep.page {H : Snap} {v : Value} {xs : List Pg} (h : SliceRep H PageL v xs) {k : Nat} {x : Pg} (hx : xs[k]? = some x) :
    ∃ vl, SliceRep H CandL vl x.1 ∧ (∀ j u, [vl, .bool x.2][j]? = some u → H.cell (vat v (k * 2 + j)) = some u) := by
  obtain ⟨c, ⟨vl, rfl, h1⟩, h2⟩ := h.at hx
  exact ⟨vl, h1, h2⟩
def preP (a b : Pg) : Bool := prefR a.1 a.2 b.1 b.2
theorem mid6 {a b c d e f : Value} : ∀ (j : Nat) (u : Value), [a, b, c][j]? = some u → [a, b, c, d, e, f][0 + j]? = some u
  | 0, _, h => h
  | 1, _, h => h
  | 2, _, h => h
  | _ + 3, _, h => by simp at h
theorem end6 {a b c d e f : Value} : ∀ (j : Nat) (u : Value), [d, e, f][j]? = some u → [a, b, c, d, e, f][3 + j]? = some u
  | 0, _, h => h
  | 1, _, h => h
  | 2, _, h => h
  | _ + 3, _, h => by simp at h
set_option maxHeartbeats 16000000 in
theorem prefix19_c {H : Snap} {n kk u0 u1 u2 y0 y1 y2 : Int} {vL : Value} {xs : List (Int × Int × Int)} (hl : SliceRep H TriL vL xs) (hn : isByte n) (hx : ∀ x ∈ xs, triOk x) (hkk : isByte kk) (ha : isByte u0 ∧ isByte u1 ∧ isByte u2) (hb : isByte y0 ∧ isByte y1 ∧ isByte y2) :
    Pure Try.prog 5 #[.agg #[.int .u8 n, vL], .int .u8 kk, .agg #[.int .u8 u0, .int .u8 u1, .int .u8 u2, .int .u8 y0, .int .u8 y1, .int .u8 y2]] H (fun _ r => r = .bool true) := by
  have hg := made_valid n hx
  have hgl14 := madeL_length n xs
  have hN7 := (madeN_range n).2
  unfold isByte at hkk
  refine Pure.intro Try.func5 rfl Try.ntmps5 rfl (fun E R hM hR => ?_)
  repeat (first | refine a1 ?_ | refine a3 ?_ | refine a4 ?_ | refine a5 ?_ | refine a6 ?_ | refine s_loadBs ?_ | refine s_loadHs ?_ | refine s_rem ?_ | refine s_convI ?_ | refine s_indexArrT ?_ | refine s_indexArrB ?_ | refine s_index ?_ | refine s_indexR ?_ | refine s_neqB ?_ | refine s_addI ?_ | refine a7 ?_ | refine a8 ?_ | refine a9 ?_ | refine RW.storeR rfl rfl rfl rfl (by first | rfl | (simp [allOne, cellsL, one1]; done) | (simp [allOne, cellsL, one1]; first | assumption | (refine ⟨?_, ?_⟩ <;> assumption))) rfl ?_ | refine a10 ?_ | refine RW.storeR1 rfl rfl (by first | rfl | exact IsSl.one1 (by assumption) | exact IsSl.one1 (SliceRep.isSl (by assumption))) rfl rfl ?_)
  refine RW.box rfl rfl rfl rfl (fun b3 => ?_)
  refine RW.box rfl rfl rfl rfl (fun b5 => ?_)
  repeat (first | refine a1 ?_ | refine a3 ?_ | refine a4 ?_ | refine a5 ?_ | refine a6 ?_ | refine s_loadBs ?_ | refine s_loadHs ?_ | refine s_rem ?_ | refine s_convI ?_ | refine s_indexArrT ?_ | refine s_indexArrB ?_ | refine s_index ?_ | refine s_indexR ?_ | refine s_neqB ?_ | refine s_addI ?_ | refine a7 ?_ | refine a8 ?_ | refine a9 ?_ | refine RW.storeR rfl rfl rfl rfl (by first | rfl | (simp [allOne, cellsL, one1]; done) | (simp [allOne, cellsL, one1]; first | assumption | (refine ⟨?_, ?_⟩ <;> assumption))) rfl ?_ | refine a10 ?_ | refine RW.storeR1 rfl rfl (by first | rfl | exact IsSl.one1 (by assumption) | exact IsSl.one1 (SliceRep.isSl (by assumption))) rfl rfl ?_)
  refine RW.callV rfl (sanity19_c (H := H)) rfl rfl ?_
  rintro _ _ rfl
  repeat (first | refine a1 ?_ | refine a3 ?_ | refine a4 ?_ | refine a5 ?_ | refine a6 ?_ | refine s_loadBs ?_ | refine s_loadHs ?_ | refine s_rem ?_ | refine s_convI ?_ | refine s_indexArrT ?_ | refine s_indexArrB ?_ | refine s_index ?_ | refine s_indexR ?_ | refine s_neqB ?_ | refine s_addI ?_ | refine a7 ?_ | refine a8 ?_ | refine a9 ?_ | refine RW.storeR rfl rfl rfl rfl (by first | rfl | (simp [allOne, cellsL, one1]; done) | (simp [allOne, cellsL, one1]; first | assumption | (refine ⟨?_, ?_⟩ <;> assumption))) rfl ?_ | refine a10 ?_ | refine RW.storeR1 rfl rfl (by first | rfl | exact IsSl.one1 (by assumption) | exact IsSl.one1 (SliceRep.isSl (by assumption))) rfl rfl ?_)
  refine RW.call rfl (made_c hl hn hx) rfl rfl ?_
  rintro _ Hg ⟨vg, rfl, hgl⟩ hleg
  generalize hGe : madeL n xs = gl at hgl hg hgl14
  generalize hNe : madeN n = N at hg hN7 ⊢
  obtain ⟨N, rfl⟩ : ∃ M : Nat, N = (M : Int) := ⟨N.toNat, by have := hg.1; omega⟩
  have hN1 := hg.1
  have hN2 := hg.2.1
  have hall := hg.2.2.2
  have hvg1 := hgl.isSl.one1
  have hfew : (waysG gl N N 0).length ≤ 168 := ways_few hall hgl14 N 0
  obtain ⟨k, hk⟩ : ∃ k : Nat, kk % 13 = (k : Int) := ⟨(kk % 13).toNat, by omega⟩
  have hk12 : k ≤ 12 := by omega
  repeat (first | refine a1 ?_ | refine a3 ?_ | refine a4 ?_ | refine a5 ?_ | refine a6 ?_ | refine s_loadBs ?_ | refine s_loadHs ?_ | refine s_rem ?_ | refine s_convI ?_ | refine s_indexArrT ?_ | refine s_indexArrB ?_ | refine s_index ?_ | refine s_indexR ?_ | refine s_neqB ?_ | refine s_addI ?_ | refine a7 ?_ | refine a8 ?_ | refine a9 ?_ | refine RW.storeR rfl rfl rfl rfl (by first | rfl | (simp [allOne, cellsL, one1]; done) | (simp [allOne, cellsL, one1]; first | assumption | (refine ⟨?_, ?_⟩ <;> assumption))) rfl ?_ | refine a10 ?_ | refine RW.storeR1 rfl rfl (by first | rfl | exact IsSl.one1 (by assumption) | exact IsSl.one1 (SliceRep.isSl (by assumption))) rfl rfl ?_)
  rw [hk]
  repeat (first | refine a1 ?_ | refine a3 ?_ | refine a4 ?_ | refine a5 ?_ | refine a6 ?_ | refine s_loadBs ?_ | refine s_loadHs ?_ | refine s_rem ?_ | refine s_convI ?_ | refine s_indexArrT ?_ | refine s_indexArrB ?_ | refine s_index ?_ | refine s_indexR ?_ | refine s_neqB ?_ | refine s_addI ?_ | refine a7 ?_ | refine a8 ?_ | refine a9 ?_ | refine RW.storeR rfl rfl rfl rfl (by first | rfl | (simp [allOne, cellsL, one1]; done) | (simp [allOne, cellsL, one1]; first | assumption | (refine ⟨?_, ?_⟩ <;> assumption))) rfl ?_ | refine a10 ?_ | refine RW.storeR1 rfl rfl (by first | rfl | exact IsSl.one1 (by assumption) | exact IsSl.one1 (SliceRep.isSl (by assumption))) rfl rfl ?_)
  have hF : Pure Try.prog 17 #[.agg #[.int .i64 (N : Int), vg], .int .i64 (k : Int)] Hg (fun H' r => ∃ v, r = .agg #[v, .bool (wholeB (allW gl N) k)] ∧ SliceRep H' CandL v ((allW gl N).take k)) := first_c (N := N) (n := k) hgl hg (by omega) (by omega)
  refine RW.call rfl (hF) rfl rfl ?_
  rintro _ Ha ⟨va, rfl, hva⟩ hlea
  have hva1 := hva.isSl.one1
  have hok := okP_first hg hN7 hgl14 hk12
  generalize wholeB (allW gl N) k = wa
  generalize (allW gl N).take k = La at hva hok
  repeat (first | refine a1 ?_ | refine a3 ?_ | refine a4 ?_ | refine a5 ?_ | refine a6 ?_ | refine s_loadBs ?_ | refine s_loadHs ?_ | refine s_rem ?_ | refine s_convI ?_ | refine s_indexArrT ?_ | refine s_indexArrB ?_ | refine s_index ?_ | refine s_indexR ?_ | refine s_neqB ?_ | refine s_addI ?_ | refine a7 ?_ | refine a8 ?_ | refine a9 ?_ | refine RW.storeR rfl rfl rfl rfl (by first | rfl | (simp [allOne, cellsL, one1]; done) | (simp [allOne, cellsL, one1]; first | assumption | (refine ⟨?_, ?_⟩ <;> assumption))) rfl ?_ | refine a10 ?_ | refine RW.storeR1 rfl rfl (by first | rfl | exact IsSl.one1 (by assumption) | exact IsSl.one1 (SliceRep.isSl (by assumption))) rfl rfl ?_)
  refine RW.alloc rfl rfl rfl (fun b8 => ?_)
  repeat (first | refine a1 ?_ | refine a3 ?_ | refine a4 ?_ | refine a5 ?_ | refine a6 ?_ | refine s_loadBs ?_ | refine s_loadHs ?_ | refine s_rem ?_ | refine s_convI ?_ | refine s_indexArrT ?_ | refine s_indexArrB ?_ | refine s_index ?_ | refine s_indexR ?_ | refine s_neqB ?_ | refine s_addI ?_ | refine a7 ?_ | refine a8 ?_ | refine a9 ?_ | refine RW.storeR rfl rfl rfl rfl (by first | rfl | (simp [allOne, cellsL, one1]; done) | (simp [allOne, cellsL, one1]; first | assumption | (refine ⟨?_, ?_⟩ <;> assumption))) rfl ?_ | refine a10 ?_ | refine RW.storeR1 rfl rfl (by first | rfl | exact IsSl.one1 (by assumption) | exact IsSl.one1 (SliceRep.isSl (by assumption))) rfl rfl ?_)
  refine RW.q (QV.loadBp (c := [.int .u8 u0, .int .u8 u1, .int .u8 u2]) rfl mid6) rfl rfl ?_
  repeat (first | refine a1 ?_ | refine a3 ?_ | refine a4 ?_ | refine a5 ?_ | refine a6 ?_ | refine s_loadBs ?_ | refine s_loadHs ?_ | refine s_rem ?_ | refine s_convI ?_ | refine s_indexArrT ?_ | refine s_indexArrB ?_ | refine s_index ?_ | refine s_indexR ?_ | refine s_neqB ?_ | refine s_addI ?_ | refine a7 ?_ | refine a8 ?_ | refine a9 ?_ | refine RW.storeR rfl rfl rfl rfl (by first | rfl | (simp [allOne, cellsL, one1]; done) | (simp [allOne, cellsL, one1]; first | assumption | (refine ⟨?_, ?_⟩ <;> assumption))) rfl ?_ | refine a10 ?_ | refine RW.storeR1 rfl rfl (by first | rfl | exact IsSl.one1 (by assumption) | exact IsSl.one1 (SliceRep.isSl (by assumption))) rfl rfl ?_)
  refine RW.call rfl (spoilt19_c (pw := wa) hva hok (by omega) (by omega) ha.1 ha.2.1 ha.2.2) rfl rfl ?_
  rintro _ Hb ⟨vb, wb, Lb, rfl, hvb, hokb⟩ hleb
  have hvb1 := hvb.isSl.one1
  repeat (first | refine a1 ?_ | refine a3 ?_ | refine a4 ?_ | refine a5 ?_ | refine a6 ?_ | refine s_loadBs ?_ | refine s_loadHs ?_ | refine s_rem ?_ | refine s_convI ?_ | refine s_indexArrT ?_ | refine s_indexArrB ?_ | refine s_index ?_ | refine s_indexR ?_ | refine s_neqB ?_ | refine s_addI ?_ | refine a7 ?_ | refine a8 ?_ | refine a9 ?_ | refine RW.storeR rfl rfl rfl rfl (by first | rfl | (simp [allOne, cellsL, one1]; done) | (simp [allOne, cellsL, one1]; first | assumption | (refine ⟨?_, ?_⟩ <;> assumption))) rfl ?_ | refine a10 ?_ | refine RW.storeR1 rfl rfl (by first | rfl | exact IsSl.one1 (by assumption) | exact IsSl.one1 (SliceRep.isSl (by assumption))) rfl rfl ?_)
  refine RW.alloc rfl rfl rfl (fun b9 => ?_)
  repeat (first | refine a1 ?_ | refine a3 ?_ | refine a4 ?_ | refine a5 ?_ | refine a6 ?_ | refine s_loadBs ?_ | refine s_loadHs ?_ | refine s_rem ?_ | refine s_convI ?_ | refine s_indexArrT ?_ | refine s_indexArrB ?_ | refine s_index ?_ | refine s_indexR ?_ | refine s_neqB ?_ | refine s_addI ?_ | refine a7 ?_ | refine a8 ?_ | refine a9 ?_ | refine RW.storeR rfl rfl rfl rfl (by first | rfl | (simp [allOne, cellsL, one1]; done) | (simp [allOne, cellsL, one1]; first | assumption | (refine ⟨?_, ?_⟩ <;> assumption))) rfl ?_ | refine a10 ?_ | refine RW.storeR1 rfl rfl (by first | rfl | exact IsSl.one1 (by assumption) | exact IsSl.one1 (SliceRep.isSl (by assumption))) rfl rfl ?_)
  refine RW.q (QV.loadBp (c := [.int .u8 y0, .int .u8 y1, .int .u8 y2]) rfl end6) rfl rfl ?_
  repeat (first | refine a1 ?_ | refine a3 ?_ | refine a4 ?_ | refine a5 ?_ | refine a6 ?_ | refine s_loadBs ?_ | refine s_loadHs ?_ | refine s_rem ?_ | refine s_convI ?_ | refine s_indexArrT ?_ | refine s_indexArrB ?_ | refine s_index ?_ | refine s_indexR ?_ | refine s_neqB ?_ | refine s_addI ?_ | refine a7 ?_ | refine a8 ?_ | refine a9 ?_ | refine RW.storeR rfl rfl rfl rfl (by first | rfl | (simp [allOne, cellsL, one1]; done) | (simp [allOne, cellsL, one1]; first | assumption | (refine ⟨?_, ?_⟩ <;> assumption))) rfl ?_ | refine a10 ?_ | refine RW.storeR1 rfl rfl (by first | rfl | exact IsSl.one1 (by assumption) | exact IsSl.one1 (SliceRep.isSl (by assumption))) rfl rfl ?_)
  refine RW.call rfl (spoilt19_c (pw := wb) hvb hokb (by omega) (by omega) hb.1 hb.2.1 hb.2.2) rfl rfl ?_
  rintro _ Hc ⟨vc, wc, Lc, rfl, hvc, hokc⟩ hlec
  have hvc1 := hvc.isSl.one1
  obtain ⟨Aa, ca, ea, _, _⟩ := hva.isSl
  obtain ⟨Ab, cb, eb, _, _⟩ := hvb.isSl
  obtain ⟨Ac, cc, ec, _, _⟩ := hvc.isSl
  subst ea
  subst eb
  subst ec
  repeat (first | refine a1 ?_ | refine a3 ?_ | refine a4 ?_ | refine a5 ?_ | refine a6 ?_ | refine s_loadBs ?_ | refine s_loadHs ?_ | refine s_rem ?_ | refine s_convI ?_ | refine s_indexArrT ?_ | refine s_indexArrB ?_ | refine s_index ?_ | refine s_indexR ?_ | refine s_neqB ?_ | refine s_addI ?_ | refine a7 ?_ | refine a8 ?_ | refine a9 ?_ | refine RW.storeR rfl rfl rfl rfl (by first | rfl | (simp [allOne, cellsL, one1]; done) | (simp [allOne, cellsL, one1]; first | assumption | (refine ⟨?_, ?_⟩ <;> assumption))) rfl ?_ | refine a10 ?_ | refine RW.storeR1 rfl rfl (by first | rfl | exact IsSl.one1 (by assumption) | exact IsSl.one1 (SliceRep.isSl (by assumption))) rfl rfl ?_)
  refine RW.alloc rfl rfl rfl (fun b10 => ?_)
  repeat (first | refine a1 ?_ | refine a3 ?_ | refine a4 ?_ | refine a5 ?_ | refine a6 ?_ | refine s_loadBs ?_ | refine s_loadHs ?_ | refine s_rem ?_ | refine s_convI ?_ | refine s_indexArrT ?_ | refine s_indexArrB ?_ | refine s_index ?_ | refine s_indexR ?_ | refine s_neqB ?_ | refine s_addI ?_ | refine a7 ?_ | refine a8 ?_ | refine a9 ?_ | refine RW.storeR rfl rfl rfl rfl (by first | rfl | (simp [allOne, cellsL, one1]; done) | (simp [allOne, cellsL, one1]; first | assumption | (refine ⟨?_, ?_⟩ <;> assumption))) rfl ?_ | refine a10 ?_ | refine RW.storeR1 rfl rfl (by first | rfl | exact IsSl.one1 (by assumption) | exact IsSl.one1 (SliceRep.isSl (by assumption))) rfl rfl ?_)
  refine RW.buildSlice rfl rfl rfl rfl rfl rfl rfl (fun v34 hv34 => ?_)
  refine RW.freeze (H := Hc) v34 hM (fun Hl hlel hsl hcl => ?_)
  have hP : SliceRep Hl PageL v34 [(La, wa), (Lb, wb), (Lc, wc)] := SliceRep.of_row (ys := [(La, wa), (Lb, wb), (Lc, wc)]) hsl rfl ⟨_, _, rfl, ⟨_, rfl, ((hva.mono hleb).mono hlec).mono hlel⟩, ⟨_, _, rfl, ⟨_, rfl, (hvb.mono hlec).mono hlel⟩, ⟨_, _, rfl, ⟨_, rfl, hvc.mono hlel⟩, rfl⟩⟩⟩ (Snap.le.refl _) hcl
  clear hcl hsl
  obtain ⟨Q, hQ⟩ : ∃ Q : List Pg, Q = [(La, wa), (Lb, wb), (Lc, wc)] := ⟨_, rfl⟩
  have hQl : Q.length = 3 := by rw [hQ]; rfl
  rw [← hQ] at hP
  have hPs := hP.isSl
  rw [hQl] at hPs
  repeat (first | refine a1 ?_ | refine a3 ?_ | refine a4 ?_ | refine a5 ?_ | refine a6 ?_ | refine s_loadBs ?_ | refine s_loadHs ?_ | refine s_rem ?_ | refine s_convI ?_ | refine s_indexArrT ?_ | refine s_indexArrB ?_ | refine s_index ?_ | refine s_indexR ?_ | refine s_neqB ?_ | refine s_addI ?_ | refine a7 ?_ | refine a8 ?_ | refine a9 ?_ | refine RW.storeR rfl rfl rfl rfl (by first | rfl | (simp [allOne, cellsL, one1]; done) | (simp [allOne, cellsL, one1]; first | assumption | (refine ⟨?_, ?_⟩ <;> assumption))) rfl ?_ | refine a10 ?_ | refine RW.storeR1 rfl rfl (by first | rfl | exact IsSl.one1 (by assumption) | exact IsSl.one1 (SliceRep.isSl (by assumption))) rfl rfl ?_)
  refine Runs.loop (fun i : Nat => i ≤ 3) (fun i => 3 - i) (fun _ => [Hl]) (fun _ => []) (fun i => [(7, .bool true), (11, v34), (12, .int .i64 (i : Int))]) 0 (Nat.zero_le _) (fun h => by
      refine Runs.weak (h) (by repeat (first | exact trivial | refine And.intro rfl ?_)) (fun x hx => List.mem_cons_of_mem _ (SubH.h x hx)) (by repeat (first | exact List.nil_sublist _ | exact List.Sublist.refl _ | refine List.Sublist.cons_cons _ ?_ | refine List.Sublist.cons _ ?_))) ?_
  rintro i hi ih
  repeat (first | refine a1 ?_ | refine a3 ?_ | refine a4 ?_ | refine a5 ?_ | refine a6 ?_ | refine s_loadBs ?_ | refine s_loadHs ?_ | refine s_rem ?_ | refine s_convI ?_ | refine s_indexArrT ?_ | refine s_indexArrB ?_ | refine s_index ?_ | refine s_indexR ?_ | refine s_neqB ?_ | refine s_addI ?_ | refine a7 ?_ | refine a8 ?_ | refine a9 ?_ | refine RW.storeR rfl rfl rfl rfl (by first | rfl | (simp [allOne, cellsL, one1]; done) | (simp [allOne, cellsL, one1]; first | assumption | (refine ⟨?_, ?_⟩ <;> assumption))) rfl ?_ | refine a10 ?_ | refine RW.storeR1 rfl rfl (by first | rfl | exact IsSl.one1 (by assumption) | exact IsSl.one1 (SliceRep.isSl (by assumption))) rfl rfl ?_)
  refine Runs.cond_d rfl (fun hlt => ?_) (fun hlt => ?_)
  · obtain ⟨x, hxq⟩ : ∃ x, Q[i]? = some x := ⟨_, List.getElem?_eq_getElem (by omega)⟩
    obtain ⟨vx, hvx, hxc⟩ := hP.page hxq
    repeat (first | refine a1 ?_ | refine a3 ?_ | refine a4 ?_ | refine a5 ?_ | refine a6 ?_ | refine s_loadBs ?_ | refine s_loadHs ?_ | refine s_rem ?_ | refine s_convI ?_ | refine s_indexArrT ?_ | refine s_indexArrB ?_ | refine s_index ?_ | refine s_indexR ?_ | refine s_neqB ?_ | refine s_addI ?_ | refine a7 ?_ | refine a8 ?_ | refine a9 ?_ | refine RW.storeR rfl rfl rfl rfl (by first | rfl | (simp [allOne, cellsL, one1]; done) | (simp [allOne, cellsL, one1]; first | assumption | (refine ⟨?_, ?_⟩ <;> assumption))) rfl ?_ | refine a10 ?_ | refine RW.storeR1 rfl rfl (by first | rfl | exact IsSl.one1 (by assumption) | exact IsSl.one1 (SliceRep.isSl (by assumption))) rfl rfl ?_)
    refine Runs.loop (fun j : Nat => j ≤ 3) (fun j => 3 - j) (fun _ => [Hl]) (fun _ => []) (fun j => [(7, .bool true), (11, v34), (12, .int .i64 (i : Int)), (13, .int .i64 (j : Int))]) 0 (Nat.zero_le _) (fun h => by
        refine Runs.weak (h) (by repeat (first | exact trivial | refine And.intro rfl ?_)) (fun x hx => List.mem_cons_of_mem _ (SubH.h x hx)) (by repeat (first | exact List.nil_sublist _ | exact List.Sublist.refl _ | refine List.Sublist.cons_cons _ ?_ | refine List.Sublist.cons _ ?_))) ?_
    rintro j hj ih2
    repeat (first | refine a1 ?_ | refine a3 ?_ | refine a4 ?_ | refine a5 ?_ | refine a6 ?_ | refine s_loadBs ?_ | refine s_loadHs ?_ | refine s_rem ?_ | refine s_convI ?_ | refine s_indexArrT ?_ | refine s_indexArrB ?_ | refine s_index ?_ | refine s_indexR ?_ | refine s_neqB ?_ | refine s_addI ?_ | refine a7 ?_ | refine a8 ?_ | refine a9 ?_ | refine RW.storeR rfl rfl rfl rfl (by first | rfl | (simp [allOne, cellsL, one1]; done) | (simp [allOne, cellsL, one1]; first | assumption | (refine ⟨?_, ?_⟩ <;> assumption))) rfl ?_ | refine a10 ?_ | refine RW.storeR1 rfl rfl (by first | rfl | exact IsSl.one1 (by assumption) | exact IsSl.one1 (SliceRep.isSl (by assumption))) rfl rfl ?_)
    refine Runs.cond_d rfl (fun hlt2 => ?_) (fun hlt2 => ?_)
    · obtain ⟨y, hyq⟩ : ∃ y, Q[j]? = some y := ⟨_, List.getElem?_eq_getElem (by omega)⟩
      obtain ⟨vy, hvy, hyc⟩ := hP.page hyq
      repeat (first | refine a1 ?_ | refine a3 ?_ | refine a4 ?_ | refine a5 ?_ | refine a6 ?_ | refine s_loadBs ?_ | refine s_loadHs ?_ | refine s_rem ?_ | refine s_convI ?_ | refine s_indexArrT ?_ | refine s_indexArrB ?_ | refine s_index ?_ | refine s_indexR ?_ | refine s_neqB ?_ | refine s_addI ?_ | refine a7 ?_ | refine a8 ?_ | refine a9 ?_ | refine RW.storeR rfl rfl rfl rfl (by first | rfl | (simp [allOne, cellsL, one1]; done) | (simp [allOne, cellsL, one1]; first | assumption | (refine ⟨?_, ?_⟩ <;> assumption))) rfl ?_ | refine a10 ?_ | refine RW.storeR1 rfl rfl (by first | rfl | exact IsSl.one1 (by assumption) | exact IsSl.one1 (SliceRep.isSl (by assumption))) rfl rfl ?_)
      refine Runs.regionD _ _ [] (fun x hx => List.mem_cons_of_mem _ hx) (List.Sublist.refl _) (by kernel_rfl) ?_
      refine d1 0 2 ?_
      (first | refine t_index 2 ?_ | refine t_indexR 2 ?_)
      refine DW.q 3 rfl (by kernel_rfl) (QV.loadHs rfl (hxc)) rfl rfl ?_
      refine d1 4 2 ?_
      (first | refine t_index 6 ?_ | refine t_indexR 6 ?_)
      refine DW.q 7 rfl (by kernel_rfl) (QV.loadHs rfl (hyc)) rfl rfl ?_
      refine DW.callV 8 rfl (by kernel_rfl) rfl (prefix_c hvx hvy) rfl rfl ?_
      rintro _ _ rfl
      refine d2 9 ?_
      refine DW.done (by kernel_rfl) ?_
      have hanti : prefR x.1 x.2 y.1 y.2 = true → prefR y.1 y.2 x.1 x.2 = true → decide (x.1 = y.1 ∧ x.2 = y.2) = true := fun h1 h2 => decide_eq_true (prefR_anti h1 h2)
      refine Runs.seq ?_
      refine Runs.join (Hs' := [Hl]) (O' := []) (l' := [(7, .bool true), (11, v34), (12, .int .i64 (i : Int)), (13, .int .i64 (j : Int)), (14, .bool (prefR x.1 x.2 y.1 y.2))]) (fun hjo => ?_) ?_
      · have hR1 := rprefix_c (w := x.2) (v := y.2) hvx hvy
        have hP2 := prefix_c (w := y.2) (v := x.2) hvy hvx
        have hS3 := rsame_c (w := x.2) (v := y.2) hvx hvy
        generalize prefR x.1 x.2 y.1 y.2 = e1 at hjo hanti hR1 ⊢
        generalize prefR y.1 y.2 x.1 x.2 = e2 at hanti hP2
        refine Runs.seq ?_
        cases e1 with
        | false =>
          refine Runs.regionD _ _ [] (fun x hx => List.mem_cons_of_mem _ hx) (List.Sublist.refl _) (by kernel_rfl) ?_
          refine d1 0 3 ?_
          (first | refine t_index 3 ?_ | refine t_indexR 3 ?_)
          refine DW.q 4 rfl (by kernel_rfl) (QV.loadHs rfl (hxc)) rfl rfl ?_
          refine d1 5 2 ?_
          (first | refine t_index 7 ?_ | refine t_indexR 7 ?_)
          refine DW.q 8 rfl (by kernel_rfl) (QV.loadHs rfl (hyc)) rfl rfl ?_
          refine DW.callV 9 rfl (by kernel_rfl) rfl (hR1) rfl rfl ?_
          rintro _ _ rfl
          refine t_neqB 10 ?_
          refine d2 11 ?_
          refine d1 12 2 ?_
          refine d3 14 ?_
          refine d3 15 ?_
          refine d3 16 ?_
          refine d3 17 ?_
          refine d3 18 ?_
          refine d3 19 ?_
          refine d3 20 ?_
          refine d3 21 ?_
          refine d3 22 ?_
          refine d1 23 2 ?_
          refine d3 25 ?_
          refine d3 26 ?_
          refine d3 27 ?_
          refine d3 28 ?_
          refine d3 29 ?_
          refine d3 30 ?_
          refine d3 31 ?_
          refine d3 32 ?_
          refine d3 33 ?_
          refine d3 34 ?_
          refine d1 35 2 ?_
          refine DW.done (by kernel_rfl) ?_
          refine a8 ?_
          refine a4 ?_
          refine Runs.weak (hjo.uncode) (by repeat (first | exact trivial | refine And.intro rfl ?_)) (fun x hx => List.mem_cons_of_mem _ (SubH.h x hx)) (by repeat (first | exact List.nil_sublist _ | exact List.Sublist.refl _ | refine List.Sublist.cons_cons _ ?_ | refine List.Sublist.cons _ ?_))
        | true =>
          cases e2 with
          | false =>
            refine Runs.regionD _ _ [] (fun x hx => List.mem_cons_of_mem _ hx) (List.Sublist.refl _) (by kernel_rfl) ?_
            refine d1 0 3 ?_
            (first | refine t_index 3 ?_ | refine t_indexR 3 ?_)
            refine DW.q 4 rfl (by kernel_rfl) (QV.loadHs rfl (hxc)) rfl rfl ?_
            refine d1 5 2 ?_
            (first | refine t_index 7 ?_ | refine t_indexR 7 ?_)
            refine DW.q 8 rfl (by kernel_rfl) (QV.loadHs rfl (hyc)) rfl rfl ?_
            refine DW.callV 9 rfl (by kernel_rfl) rfl (hR1) rfl rfl ?_
            rintro _ _ rfl
            refine t_neqB 10 ?_
            refine d2 11 ?_
            refine d1 12 2 ?_
            refine d1 14 2 ?_
            (first | refine t_index 16 ?_ | refine t_indexR 16 ?_)
            refine DW.q 17 rfl (by kernel_rfl) (QV.loadHs rfl (hyc)) rfl rfl ?_
            refine d1 18 2 ?_
            (first | refine t_index 20 ?_ | refine t_indexR 20 ?_)
            refine DW.q 21 rfl (by kernel_rfl) (QV.loadHs rfl (hxc)) rfl rfl ?_
            refine DW.callV 22 rfl (by kernel_rfl) rfl (hP2) rfl rfl ?_
            rintro _ _ rfl
            refine d1 23 2 ?_
            refine d3 25 ?_
            refine d3 26 ?_
            refine d3 27 ?_
            refine d3 28 ?_
            refine d3 29 ?_
            refine d3 30 ?_
            refine d3 31 ?_
            refine d3 32 ?_
            refine d3 33 ?_
            refine d3 34 ?_
            refine d1 35 2 ?_
            refine DW.done (by kernel_rfl) ?_
            refine a8 ?_
            refine a4 ?_
            refine Runs.weak (hjo.uncode) (by repeat (first | exact trivial | refine And.intro rfl ?_)) (fun x hx => List.mem_cons_of_mem _ (SubH.h x hx)) (by repeat (first | exact List.nil_sublist _ | exact List.Sublist.refl _ | refine List.Sublist.cons_cons _ ?_ | refine List.Sublist.cons _ ?_))
          | true =>
            rw [hanti rfl rfl] at hS3
            refine Runs.regionD _ _ [] (fun x hx => List.mem_cons_of_mem _ hx) (List.Sublist.refl _) (by kernel_rfl) ?_
            refine d1 0 3 ?_
            (first | refine t_index 3 ?_ | refine t_indexR 3 ?_)
            refine DW.q 4 rfl (by kernel_rfl) (QV.loadHs rfl (hxc)) rfl rfl ?_
            refine d1 5 2 ?_
            (first | refine t_index 7 ?_ | refine t_indexR 7 ?_)
            refine DW.q 8 rfl (by kernel_rfl) (QV.loadHs rfl (hyc)) rfl rfl ?_
            refine DW.callV 9 rfl (by kernel_rfl) rfl (hR1) rfl rfl ?_
            rintro _ _ rfl
            refine t_neqB 10 ?_
            refine d2 11 ?_
            refine d1 12 2 ?_
            refine d1 14 2 ?_
            (first | refine t_index 16 ?_ | refine t_indexR 16 ?_)
            refine DW.q 17 rfl (by kernel_rfl) (QV.loadHs rfl (hyc)) rfl rfl ?_
            refine d1 18 2 ?_
            (first | refine t_index 20 ?_ | refine t_indexR 20 ?_)
            refine DW.q 21 rfl (by kernel_rfl) (QV.loadHs rfl (hxc)) rfl rfl ?_
            refine DW.callV 22 rfl (by kernel_rfl) rfl (hP2) rfl rfl ?_
            rintro _ _ rfl
            refine d1 23 2 ?_
            refine d1 25 2 ?_
            (first | refine t_index 27 ?_ | refine t_indexR 27 ?_)
            refine DW.q 28 rfl (by kernel_rfl) (QV.loadHs rfl (hxc)) rfl rfl ?_
            refine d1 29 2 ?_
            (first | refine t_index 31 ?_ | refine t_indexR 31 ?_)
            refine DW.q 32 rfl (by kernel_rfl) (QV.loadHs rfl (hyc)) rfl rfl ?_
            refine DW.callV 33 rfl (by kernel_rfl) rfl (hS3) rfl rfl ?_
            rintro _ _ rfl
            refine d2 34 ?_
            refine d1 35 2 ?_
            refine DW.done (by kernel_rfl) ?_
            refine a8 ?_
            refine a4 ?_
            refine Runs.weak (hjo.uncode) (by repeat (first | exact trivial | refine And.intro rfl ?_)) (fun x hx => List.mem_cons_of_mem _ (SubH.h x hx)) (by repeat (first | exact List.nil_sublist _ | exact List.Sublist.refl _ | refine List.Sublist.cons_cons _ ?_ | refine List.Sublist.cons _ ?_))
      · repeat (first | refine a1 ?_ | refine a3 ?_ | refine a4 ?_ | refine a5 ?_ | refine a6 ?_ | refine s_loadBs ?_ | refine s_loadHs ?_ | refine s_rem ?_ | refine s_convI ?_ | refine s_indexArrT ?_ | refine s_indexArrB ?_ | refine s_index ?_ | refine s_indexR ?_ | refine s_neqB ?_ | refine s_addI ?_ | refine a7 ?_ | refine a8 ?_ | refine a9 ?_ | refine RW.storeR rfl rfl rfl rfl (by first | rfl | (simp [allOne, cellsL, one1]; done) | (simp [allOne, cellsL, one1]; first | assumption | (refine ⟨?_, ?_⟩ <;> assumption))) rfl ?_ | refine a10 ?_ | refine RW.storeR1 rfl rfl (by first | rfl | exact IsSl.one1 (by assumption) | exact IsSl.one1 (SliceRep.isSl (by assumption))) rfl rfl ?_)
        refine Runs.loop (fun m : Nat => m ≤ 3) (fun m => 3 - m) (fun _ => [Hl]) (fun _ => []) (fun m => [(7, .bool true), (11, v34), (12, .int .i64 (i : Int)), (13, .int .i64 (j : Int)), (14, .bool (prefR x.1 x.2 y.1 y.2)), (15, .int .i64 (m : Int))]) 0 (Nat.zero_le _) (fun h => by
            refine Runs.weak (h) (by repeat (first | exact trivial | refine And.intro rfl ?_)) (fun x hx => List.mem_cons_of_mem _ (SubH.h x hx)) (by repeat (first | exact List.nil_sublist _ | exact List.Sublist.refl _ | refine List.Sublist.cons_cons _ ?_ | refine List.Sublist.cons _ ?_))) ?_
        rintro m hm ih3
        repeat (first | refine a1 ?_ | refine a3 ?_ | refine a4 ?_ | refine a5 ?_ | refine a6 ?_ | refine s_loadBs ?_ | refine s_loadHs ?_ | refine s_rem ?_ | refine s_convI ?_ | refine s_indexArrT ?_ | refine s_indexArrB ?_ | refine s_index ?_ | refine s_indexR ?_ | refine s_neqB ?_ | refine s_addI ?_ | refine a7 ?_ | refine a8 ?_ | refine a9 ?_ | refine RW.storeR rfl rfl rfl rfl (by first | rfl | (simp [allOne, cellsL, one1]; done) | (simp [allOne, cellsL, one1]; first | assumption | (refine ⟨?_, ?_⟩ <;> assumption))) rfl ?_ | refine a10 ?_ | refine RW.storeR1 rfl rfl (by first | rfl | exact IsSl.one1 (by assumption) | exact IsSl.one1 (SliceRep.isSl (by assumption))) rfl rfl ?_)
        refine Runs.cond_d rfl (fun hlt3 => ?_) (fun hlt3 => ?_)
        · obtain ⟨z, hzq⟩ : ∃ z, Q[m]? = some z := ⟨_, List.getElem?_eq_getElem (by omega)⟩
          obtain ⟨vz, hvz, hzc⟩ := hP.page hzq
          have hP4 := prefix_c (w := y.2) (v := z.2) hvy hvz
          have hP5 := prefix_c (w := x.2) (v := z.2) hvx hvz
          have htr := fun h1 h2 => prefR_trans (A := x.1) (B := y.1) (C := z.1) (w := x.2) (v := y.2) (u := z.2) h1 h2
          repeat (first | refine a1 ?_ | refine a3 ?_ | refine a4 ?_ | refine a5 ?_ | refine a6 ?_ | refine s_loadBs ?_ | refine s_loadHs ?_ | refine s_rem ?_ | refine s_convI ?_ | refine s_indexArrT ?_ | refine s_indexArrB ?_ | refine s_index ?_ | refine s_indexR ?_ | refine s_neqB ?_ | refine s_addI ?_ | refine a7 ?_ | refine a8 ?_ | refine a9 ?_ | refine RW.storeR rfl rfl rfl rfl (by first | rfl | (simp [allOne, cellsL, one1]; done) | (simp [allOne, cellsL, one1]; first | assumption | (refine ⟨?_, ?_⟩ <;> assumption))) rfl ?_ | refine a10 ?_ | refine RW.storeR1 rfl rfl (by first | rfl | exact IsSl.one1 (by assumption) | exact IsSl.one1 (SliceRep.isSl (by assumption))) rfl rfl ?_)
          generalize prefR x.1 x.2 y.1 y.2 = e1 at htr ih3 ⊢
          generalize prefR y.1 y.2 z.1 z.2 = e2 at htr hP4
          generalize prefR x.1 x.2 z.1 z.2 = e3 at htr hP5
          cases e1 with
          | false =>
            refine Runs.regionD _ _ [] (fun x hx => List.mem_cons_of_mem _ hx) (List.Sublist.refl _) (by kernel_rfl) ?_
            refine d1 0 2 ?_
            refine d3 2 ?_
            refine d3 3 ?_
            refine d3 4 ?_
            refine d3 5 ?_
            refine d3 6 ?_
            refine d3 7 ?_
            refine d3 8 ?_
            refine d3 9 ?_
            refine d3 10 ?_
            refine d1 11 2 ?_
            refine d3 13 ?_
            refine d3 14 ?_
            refine d3 15 ?_
            refine d3 16 ?_
            refine d3 17 ?_
            refine d3 18 ?_
            refine d3 19 ?_
            refine d3 20 ?_
            refine d3 21 ?_
            refine d3 22 ?_
            refine d2 23 ?_
            refine DW.done (by kernel_rfl) ?_
            repeat (first | refine a1 ?_ | refine a3 ?_ | refine a4 ?_ | refine a5 ?_ | refine a6 ?_ | refine s_loadBs ?_ | refine s_loadHs ?_ | refine s_rem ?_ | refine s_convI ?_ | refine s_indexArrT ?_ | refine s_indexArrB ?_ | refine s_index ?_ | refine s_indexR ?_ | refine s_neqB ?_ | refine s_addI ?_ | refine a7 ?_ | refine a8 ?_ | refine a9 ?_ | refine RW.storeR rfl rfl rfl rfl (by first | rfl | (simp [allOne, cellsL, one1]; done) | (simp [allOne, cellsL, one1]; first | assumption | (refine ⟨?_, ?_⟩ <;> assumption))) rfl ?_ | refine a10 ?_ | refine RW.storeR1 rfl rfl (by first | rfl | exact IsSl.one1 (by assumption) | exact IsSl.one1 (SliceRep.isSl (by assumption))) rfl rfl ?_)
            refine Runs.weak (ih3 (m + 1) (by omega) (by omega)) (by repeat (first | exact trivial | refine And.intro rfl ?_)) (fun x hx => List.mem_cons_of_mem _ (SubH.h x hx)) (by repeat (first | exact List.nil_sublist _ | exact List.Sublist.refl _ | refine List.Sublist.cons_cons _ ?_ | refine List.Sublist.cons _ ?_))
          | true =>
            cases e2 with
            | false =>
              refine Runs.regionD _ _ [] (fun x hx => List.mem_cons_of_mem _ hx) (List.Sublist.refl _) (by kernel_rfl) ?_
              refine d1 0 2 ?_
              refine d1 2 2 ?_
              (first | refine t_index 4 ?_ | refine t_indexR 4 ?_)
              refine DW.q 5 rfl (by kernel_rfl) (QV.loadHs rfl (hyc)) rfl rfl ?_
              refine d1 6 2 ?_
              (first | refine t_index 8 ?_ | refine t_indexR 8 ?_)
              refine DW.q 9 rfl (by kernel_rfl) (QV.loadHs rfl (hzc)) rfl rfl ?_
              refine DW.callV 10 rfl (by kernel_rfl) rfl (hP4) rfl rfl ?_
              rintro _ _ rfl
              refine d1 11 2 ?_
              refine d3 13 ?_
              refine d3 14 ?_
              refine d3 15 ?_
              refine d3 16 ?_
              refine d3 17 ?_
              refine d3 18 ?_
              refine d3 19 ?_
              refine d3 20 ?_
              refine d3 21 ?_
              refine d3 22 ?_
              refine d2 23 ?_
              refine DW.done (by kernel_rfl) ?_
              repeat (first | refine a1 ?_ | refine a3 ?_ | refine a4 ?_ | refine a5 ?_ | refine a6 ?_ | refine s_loadBs ?_ | refine s_loadHs ?_ | refine s_rem ?_ | refine s_convI ?_ | refine s_indexArrT ?_ | refine s_indexArrB ?_ | refine s_index ?_ | refine s_indexR ?_ | refine s_neqB ?_ | refine s_addI ?_ | refine a7 ?_ | refine a8 ?_ | refine a9 ?_ | refine RW.storeR rfl rfl rfl rfl (by first | rfl | (simp [allOne, cellsL, one1]; done) | (simp [allOne, cellsL, one1]; first | assumption | (refine ⟨?_, ?_⟩ <;> assumption))) rfl ?_ | refine a10 ?_ | refine RW.storeR1 rfl rfl (by first | rfl | exact IsSl.one1 (by assumption) | exact IsSl.one1 (SliceRep.isSl (by assumption))) rfl rfl ?_)
              refine Runs.weak (ih3 (m + 1) (by omega) (by omega)) (by repeat (first | exact trivial | refine And.intro rfl ?_)) (fun x hx => List.mem_cons_of_mem _ (SubH.h x hx)) (by repeat (first | exact List.nil_sublist _ | exact List.Sublist.refl _ | refine List.Sublist.cons_cons _ ?_ | refine List.Sublist.cons _ ?_))
            | true =>
              rw [htr rfl rfl] at hP5
              refine Runs.regionD _ _ [] (fun x hx => List.mem_cons_of_mem _ hx) (List.Sublist.refl _) (by kernel_rfl) ?_
              refine d1 0 2 ?_
              refine d1 2 2 ?_
              (first | refine t_index 4 ?_ | refine t_indexR 4 ?_)
              refine DW.q 5 rfl (by kernel_rfl) (QV.loadHs rfl (hyc)) rfl rfl ?_
              refine d1 6 2 ?_
              (first | refine t_index 8 ?_ | refine t_indexR 8 ?_)
              refine DW.q 9 rfl (by kernel_rfl) (QV.loadHs rfl (hzc)) rfl rfl ?_
              refine DW.callV 10 rfl (by kernel_rfl) rfl (hP4) rfl rfl ?_
              rintro _ _ rfl
              refine d1 11 2 ?_
              refine d1 13 2 ?_
              (first | refine t_index 15 ?_ | refine t_indexR 15 ?_)
              refine DW.q 16 rfl (by kernel_rfl) (QV.loadHs rfl (hxc)) rfl rfl ?_
              refine d1 17 2 ?_
              (first | refine t_index 19 ?_ | refine t_indexR 19 ?_)
              refine DW.q 20 rfl (by kernel_rfl) (QV.loadHs rfl (hzc)) rfl rfl ?_
              refine DW.callV 21 rfl (by kernel_rfl) rfl (hP5) rfl rfl ?_
              rintro _ _ rfl
              refine d1 22 2 ?_
              refine DW.done (by kernel_rfl) ?_
              repeat (first | refine a1 ?_ | refine a3 ?_ | refine a4 ?_ | refine a5 ?_ | refine a6 ?_ | refine s_loadBs ?_ | refine s_loadHs ?_ | refine s_rem ?_ | refine s_convI ?_ | refine s_indexArrT ?_ | refine s_indexArrB ?_ | refine s_index ?_ | refine s_indexR ?_ | refine s_neqB ?_ | refine s_addI ?_ | refine a7 ?_ | refine a8 ?_ | refine a9 ?_ | refine RW.storeR rfl rfl rfl rfl (by first | rfl | (simp [allOne, cellsL, one1]; done) | (simp [allOne, cellsL, one1]; first | assumption | (refine ⟨?_, ?_⟩ <;> assumption))) rfl ?_ | refine a10 ?_ | refine RW.storeR1 rfl rfl (by first | rfl | exact IsSl.one1 (by assumption) | exact IsSl.one1 (SliceRep.isSl (by assumption))) rfl rfl ?_)
              refine Runs.weak (ih3 (m + 1) (by omega) (by omega)) (by repeat (first | exact trivial | refine And.intro rfl ?_)) (fun x hx => List.mem_cons_of_mem _ (SubH.h x hx)) (by repeat (first | exact List.nil_sublist _ | exact List.Sublist.refl _ | refine List.Sublist.cons_cons _ ?_ | refine List.Sublist.cons _ ?_))
        · repeat (first | refine a1 ?_ | refine a3 ?_ | refine a4 ?_ | refine a5 ?_ | refine a6 ?_ | refine s_loadBs ?_ | refine s_loadHs ?_ | refine s_rem ?_ | refine s_convI ?_ | refine s_indexArrT ?_ | refine s_indexArrB ?_ | refine s_index ?_ | refine s_indexR ?_ | refine s_neqB ?_ | refine s_addI ?_ | refine a7 ?_ | refine a8 ?_ | refine a9 ?_ | refine RW.storeR rfl rfl rfl rfl (by first | rfl | (simp [allOne, cellsL, one1]; done) | (simp [allOne, cellsL, one1]; first | assumption | (refine ⟨?_, ?_⟩ <;> assumption))) rfl ?_ | refine a10 ?_ | refine RW.storeR1 rfl rfl (by first | rfl | exact IsSl.one1 (by assumption) | exact IsSl.one1 (SliceRep.isSl (by assumption))) rfl rfl ?_)
          refine Runs.weak (ih2 (j + 1) (by omega) (by omega)) (by repeat (first | exact trivial | refine And.intro rfl ?_)) (fun x hx => List.mem_cons_of_mem _ (SubH.h x hx)) (by repeat (first | exact List.nil_sublist _ | exact List.Sublist.refl _ | refine List.Sublist.cons_cons _ ?_ | refine List.Sublist.cons _ ?_))
    · repeat (first | refine a1 ?_ | refine a3 ?_ | refine a4 ?_ | refine a5 ?_ | refine a6 ?_ | refine s_loadBs ?_ | refine s_loadHs ?_ | refine s_rem ?_ | refine s_convI ?_ | refine s_indexArrT ?_ | refine s_indexArrB ?_ | refine s_index ?_ | refine s_indexR ?_ | refine s_neqB ?_ | refine s_addI ?_ | refine a7 ?_ | refine a8 ?_ | refine a9 ?_ | refine RW.storeR rfl rfl rfl rfl (by first | rfl | (simp [allOne, cellsL, one1]; done) | (simp [allOne, cellsL, one1]; first | assumption | (refine ⟨?_, ?_⟩ <;> assumption))) rfl ?_ | refine a10 ?_ | refine RW.storeR1 rfl rfl (by first | rfl | exact IsSl.one1 (by assumption) | exact IsSl.one1 (SliceRep.isSl (by assumption))) rfl rfl ?_)
      have hself := prefix_c (w := x.2) (v := x.2) hvx hvx
      rw [prefR_self] at hself
      refine Runs.regionD _ _ [] (fun x hx => List.mem_cons_of_mem _ hx) (List.Sublist.refl _) (by kernel_rfl) ?_
      refine d1 0 2 ?_
      (first | refine t_index 2 ?_ | refine t_indexR 2 ?_)
      refine DW.q 3 rfl (by kernel_rfl) (QV.loadHs rfl (hxc)) rfl rfl ?_
      refine d1 4 2 ?_
      (first | refine t_index 6 ?_ | refine t_indexR 6 ?_)
      refine DW.q 7 rfl (by kernel_rfl) (QV.loadHs rfl (hxc)) rfl rfl ?_
      refine DW.callV 8 rfl (by kernel_rfl) rfl (hself) rfl rfl ?_
      rintro _ _ rfl
      refine d2 9 ?_
      refine DW.done (by kernel_rfl) ?_
      repeat (first | refine a1 ?_ | refine a3 ?_ | refine a4 ?_ | refine a5 ?_ | refine a6 ?_ | refine s_loadBs ?_ | refine s_loadHs ?_ | refine s_rem ?_ | refine s_convI ?_ | refine s_indexArrT ?_ | refine s_indexArrB ?_ | refine s_index ?_ | refine s_indexR ?_ | refine s_neqB ?_ | refine s_addI ?_ | refine a7 ?_ | refine a8 ?_ | refine a9 ?_ | refine RW.storeR rfl rfl rfl rfl (by first | rfl | (simp [allOne, cellsL, one1]; done) | (simp [allOne, cellsL, one1]; first | assumption | (refine ⟨?_, ?_⟩ <;> assumption))) rfl ?_ | refine a10 ?_ | refine RW.storeR1 rfl rfl (by first | rfl | exact IsSl.one1 (by assumption) | exact IsSl.one1 (SliceRep.isSl (by assumption))) rfl rfl ?_)
      refine Runs.weak (ih (i + 1) (by omega) (by omega)) (by repeat (first | exact trivial | refine And.intro rfl ?_)) (fun x hx => List.mem_cons_of_mem _ (SubH.h x hx)) (by repeat (first | exact List.nil_sublist _ | exact List.Sublist.refl _ | refine List.Sublist.cons_cons _ ?_ | refine List.Sublist.cons _ ?_))
  · repeat (first | refine a1 ?_ | refine a3 ?_ | refine a4 ?_ | refine a5 ?_ | refine a6 ?_ | refine s_loadBs ?_ | refine s_loadHs ?_ | refine s_rem ?_ | refine s_convI ?_ | refine s_indexArrT ?_ | refine s_indexArrB ?_ | refine s_index ?_ | refine s_indexR ?_ | refine s_neqB ?_ | refine s_addI ?_ | refine a7 ?_ | refine a8 ?_ | refine a9 ?_ | refine RW.storeR rfl rfl rfl rfl (by first | rfl | (simp [allOne, cellsL, one1]; done) | (simp [allOne, cellsL, one1]; first | assumption | (refine ⟨?_, ?_⟩ <;> assumption))) rfl ?_ | refine a10 ?_ | refine RW.storeR1 rfl rfl (by first | rfl | exact IsSl.one1 (by assumption) | exact IsSl.one1 (SliceRep.isSl (by assumption))) rfl rfl ?_)
    refine Runs.ret1 Try.func5 Try.results5 rfl (fun w hm => hR _ w _ H _ (List.mem_cons_self ..) (Snap.le.refl _) ?_ hm)
    rfl
end Go.Proofs.Ytjdhcblofkkibaa

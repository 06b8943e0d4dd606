/-
  Documents of the reference, the fixed examples. Conditions: bytes are bytes.
-/
import Derived.Test.YtcikciefaggckaaD11
namespace Go.Proofs.Ytcikciefaggckaa
open Go Go.RowKit

theorem madeK_succ {l : List Rw} {k : Nat} {x : Rw} (h : l[k]? = some x) : madeK l (k + 1) = stepD (madeK l k) x k := by
  conv => lhs; unfold madeK
  rw [h]
theorem rowRep {H : Snap} {v : Value} {m : Nat} {ms : List Mk} (hs : IsSl v m) (hm : m = ms.length) (h : ∀ j u, (mkCs ms)[j]? = some u → H.cell (vat v j) = some u) : SliceRep H MarkL v ms := SliceRep.of_row hs hm (mkCs_rep H ms) (Snap.le.refl _) h

set_option maxHeartbeats 1000000 in
theorem made_c {H : Snap} {v : Value} {l : List Rw} {n : Nat} (hv : SliceRep H RwL v l) (hx : ∀ x ∈ l, okRw x) (hn : n ≤ 100000) : Pure Try.prog 11 #[v, .int .i64 (n : Int)] H (fun H' r => DocR H' r (madeK l (min l.length n))) := by
  have hvs := hv.isSl
  have hba := hvs.bound
  refine Pure.intro Try.func11 rfl Try.ntmps11 rfl (fun E R hM hR => ?_)
  repeat (first | refine a1 ?_ | refine a3 ?_ | refine a4 ?_ | refine a5 ?_ | refine a6 ?_ | refine s_build ?_ | refine s_len ?_ | refine s_lenR ?_ | refine s_loadBs ?_ | refine s_loadHs ?_ | refine s_index ?_ | refine s_indexR ?_ | refine s_addI ?_ | refine a7 ?_ | refine a8 ?_ | refine a9 ?_ | refine RW.storeR rfl rfl rfl rfl (by first | rfl | (simp [allOne, cellsL, one1]; done) | (simp [allOne, cellsL, one1]; first | assumption | (refine ⟨?_, ?_⟩ <;> assumption))) rfl ?_ | refine a10 ?_ | refine RW.storeR1 rfl rfl (by first | rfl | exact IsSl.one1 (by assumption) | exact IsSl.one1 (SliceRep.isSl (by assumption))) rfl rfl ?_)
  refine RW.alloc rfl rfl rfl (fun b4 => ?_)
  repeat (first | refine a1 ?_ | refine a3 ?_ | refine a4 ?_ | refine a5 ?_ | refine a6 ?_ | refine s_build ?_ | refine s_len ?_ | refine s_lenR ?_ | refine s_loadBs ?_ | refine s_loadHs ?_ | refine s_index ?_ | refine s_indexR ?_ | refine s_addI ?_ | refine a7 ?_ | refine a8 ?_ | refine a9 ?_ | refine RW.storeR rfl rfl rfl rfl (by first | rfl | (simp [allOne, cellsL, one1]; done) | (simp [allOne, cellsL, one1]; first | assumption | (refine ⟨?_, ?_⟩ <;> assumption))) rfl ?_ | refine a10 ?_ | refine RW.storeR1 rfl rfl (by first | rfl | exact IsSl.one1 (by assumption) | exact IsSl.one1 (SliceRep.isSl (by assumption))) rfl rfl ?_)
  refine RW.alloc rfl rfl rfl (fun b5 => ?_)
  repeat (first | refine a1 ?_ | refine a3 ?_ | refine a4 ?_ | refine a5 ?_ | refine a6 ?_ | refine s_build ?_ | refine s_len ?_ | refine s_lenR ?_ | refine s_loadBs ?_ | refine s_loadHs ?_ | refine s_index ?_ | refine s_indexR ?_ | refine s_addI ?_ | refine a7 ?_ | refine a8 ?_ | refine a9 ?_ | refine RW.storeR rfl rfl rfl rfl (by first | rfl | (simp [allOne, cellsL, one1]; done) | (simp [allOne, cellsL, one1]; first | assumption | (refine ⟨?_, ?_⟩ <;> assumption))) rfl ?_ | refine a10 ?_ | refine RW.storeR1 rfl rfl (by first | rfl | exact IsSl.one1 (by assumption) | exact IsSl.one1 (SliceRep.isSl (by assumption))) rfl rfl ?_)
  refine Runs.loop (fun u : Nat × Value × Snap => u.1 ≤ l.length ∧ u.1 ≤ n ∧ SliceRep u.2.2 MarkL u.2.1 (madeK l u.1).ms ∧ H.le u.2.2) (fun u => l.length - u.1) (fun u => [u.2.2, H])
    (fun u => [.blk b5 30 [str (madeK l u.1).tx, u.2.1], .blk b4 30 [str [], .slice none 0 0]])
    (fun u => [(0, v), (1, .int .i64 (n : Int)), (4, .pointer (some ⟨b4, 0, none⟩)), (5, .pointer (some ⟨b5, 0, none⟩)), (6, .int .i64 (u.1 : Int))]) (0, .slice none 0 0, H) ⟨Nat.zero_le _, Nat.zero_le _, SliceRep.nil, Snap.le.refl _⟩ (fun h => by
      refine Runs.weak (h) (by repeat (first | exact trivial | refine And.intro rfl ?_)) (fun x hx => List.mem_cons_of_mem _ (SubH.h x hx)) (by repeat (first | exact List.nil_sublist _ | exact List.Sublist.refl _ | refine List.Sublist.cons_cons _ ?_ | refine List.Sublist.cons _ ?_))) ?_
  rintro ⟨k, vm, Hk⟩ ⟨hk, hkn, hrep, hle⟩ ih
  dsimp only at *
  have hdo := hrep.isSl.one1
  have hval := madeK_valid l k
  repeat (first | refine a1 ?_ | refine a3 ?_ | refine a4 ?_ | refine a5 ?_ | refine a6 ?_ | refine s_build ?_ | refine s_len ?_ | refine s_lenR ?_ | refine s_loadBs ?_ | refine s_loadHs ?_ | refine s_index ?_ | refine s_indexR ?_ | refine s_addI ?_ | refine a7 ?_ | refine a8 ?_ | refine a9 ?_ | refine RW.storeR rfl rfl rfl rfl (by first | rfl | (simp [allOne, cellsL, one1]; done) | (simp [allOne, cellsL, one1]; first | assumption | (refine ⟨?_, ?_⟩ <;> assumption))) rfl ?_ | refine a10 ?_ | refine RW.storeR1 rfl rfl (by first | rfl | exact IsSl.one1 (by assumption) | exact IsSl.one1 (SliceRep.isSl (by assumption))) rfl rfl ?_)
  refine RW.dec 12 rfl (fun h1 => ?_) (fun h1 => ?_)
  · repeat (first | refine a1 ?_ | refine a3 ?_ | refine a4 ?_ | refine a5 ?_ | refine a6 ?_ | refine s_build ?_ | refine s_len ?_ | refine s_lenR ?_ | refine s_loadBs ?_ | refine s_loadHs ?_ | refine s_index ?_ | refine s_indexR ?_ | refine s_addI ?_ | refine a7 ?_ | refine a8 ?_ | refine a9 ?_ | refine RW.storeR rfl rfl rfl rfl (by first | rfl | (simp [allOne, cellsL, one1]; done) | (simp [allOne, cellsL, one1]; first | assumption | (refine ⟨?_, ?_⟩ <;> assumption))) rfl ?_ | refine a10 ?_ | refine RW.storeR1 rfl rfl (by first | rfl | exact IsSl.one1 (by assumption) | exact IsSl.one1 (SliceRep.isSl (by assumption))) rfl rfl ?_)
    refine Runs.cond_d rfl (fun h2 => ?_) (fun h2 => ?_)
    · obtain ⟨x, hxk⟩ : ∃ x, l[k]? = some x := ⟨_, List.getElem?_eq_getElem (by omega)⟩
      obtain ⟨vl, hvl, hcl⟩ := hv.rw hxk
      have hxo := hx x (List.mem_of_getElem? hxk)
      have hsc := madeK_succ hxk
      repeat (first | refine a1 ?_ | refine a3 ?_ | refine a4 ?_ | refine a5 ?_ | refine a6 ?_ | refine s_build ?_ | refine s_len ?_ | refine s_lenR ?_ | refine s_loadBs ?_ | refine s_loadHs ?_ | refine s_index ?_ | refine s_indexR ?_ | refine s_addI ?_ | refine a7 ?_ | refine a8 ?_ | refine a9 ?_ | refine RW.storeR rfl rfl rfl rfl (by first | rfl | (simp [allOne, cellsL, one1]; done) | (simp [allOne, cellsL, one1]; first | assumption | (refine ⟨?_, ?_⟩ <;> assumption))) rfl ?_ | refine a10 ?_ | refine RW.storeR1 rfl rfl (by first | rfl | exact IsSl.one1 (by assumption) | exact IsSl.one1 (SliceRep.isSl (by assumption))) rfl rfl ?_)
      refine Runs.regionD _ _ [7] (fun x hx => List.mem_cons_of_mem _ hx) (List.Sublist.refl _) (by kernel_rfl) ?_
      (first | refine t_loadBs 0 ?_ | refine t_loadHs 0 ?_)
      refine d1 1 2 ?_
      (first | refine t_index 3 ?_ | refine t_indexR 3 ?_)
      (first | refine t_loadBs 4 ?_ | refine t_loadHs 4 ?_)
      refine d2 5 ?_
      refine DW.call 6 rfl (by kernel_rfl) rfl (step_c (i := k) hrep (hvl.mono hle) hxo hval.1) rfl rfl ?_
      rintro v25 H3 ⟨vm3, hvm, hrep3⟩ hle3
      subst hvm
      rw [← hsc] at hrep3 ⊢
      have hi3 := hrep3.isSl
      have ho3 := hi3.one1
      (first | refine DW.storeB 7 rfl (by kernel_rfl) rfl rfl rfl rfl (by first | rfl | (simp [allOne, cellsL, one1]; done) | (simp [allOne, cellsL, one1]; first | assumption | (refine ⟨?_, ?_⟩ <;> assumption))) rfl ?_ | refine DW.storeB1 7 rfl (by kernel_rfl) rfl rfl rfl (by first | rfl | exact IsSl.one1 (by assumption) | exact IsSl.one1 (SliceRep.isSl (by assumption))) rfl rfl ?_)
      refine DW.done (by kernel_rfl) ?_
      repeat (first | refine a1 ?_ | refine a3 ?_ | refine a4 ?_ | refine a5 ?_ | refine a6 ?_ | refine s_build ?_ | refine s_len ?_ | refine s_lenR ?_ | refine s_loadBs ?_ | refine s_loadHs ?_ | refine s_index ?_ | refine s_indexR ?_ | refine s_addI ?_ | refine a7 ?_ | refine a8 ?_ | refine a9 ?_ | refine RW.storeR rfl rfl rfl rfl (by first | rfl | (simp [allOne, cellsL, one1]; done) | (simp [allOne, cellsL, one1]; first | assumption | (refine ⟨?_, ?_⟩ <;> assumption))) rfl ?_ | refine a10 ?_ | refine RW.storeR1 rfl rfl (by first | rfl | exact IsSl.one1 (by assumption) | exact IsSl.one1 (SliceRep.isSl (by assumption))) rfl rfl ?_)
      refine Runs.weak (ih (k + 1, vm3, H3) ⟨by dsimp only; omega, by dsimp only; omega, hrep3, hle.trans hle3⟩ (by dsimp only; omega)) (by repeat (first | exact trivial | refine And.intro rfl ?_)) (fun x hx => List.mem_cons_of_mem _ (SubH.h x hx)) (by repeat (first | exact List.nil_sublist _ | exact List.Sublist.refl _ | refine List.Sublist.cons_cons _ ?_ | refine List.Sublist.cons _ ?_))
    · skip
      have hmin : min l.length n = k := by omega
      rw [hmin] at hR
      repeat (first | refine a1 ?_ | refine a3 ?_ | refine a4 ?_ | refine a5 ?_ | refine a6 ?_ | refine s_build ?_ | refine s_len ?_ | refine s_lenR ?_ | refine s_loadBs ?_ | refine s_loadHs ?_ | refine s_index ?_ | refine s_indexR ?_ | refine s_addI ?_ | refine a7 ?_ | refine a8 ?_ | refine a9 ?_ | refine RW.storeR rfl rfl rfl rfl (by first | rfl | (simp [allOne, cellsL, one1]; done) | (simp [allOne, cellsL, one1]; first | assumption | (refine ⟨?_, ?_⟩ <;> assumption))) rfl ?_ | refine a10 ?_ | refine RW.storeR1 rfl rfl (by first | rfl | exact IsSl.one1 (by assumption) | exact IsSl.one1 (SliceRep.isSl (by assumption))) rfl rfl ?_)
      refine Runs.retC Try.func11 Try.results11 rfl (fun w hm => hR _ w _ Hk _ (by simp) (hle) ?_ hm)
      exact ⟨_, rfl, hrep⟩
  · skip
    have hmin : min l.length n = k := by omega
    rw [hmin] at hR
    repeat (first | refine a1 ?_ | refine a3 ?_ | refine a4 ?_ | refine a5 ?_ | refine a6 ?_ | refine s_build ?_ | refine s_len ?_ | refine s_lenR ?_ | refine s_loadBs ?_ | refine s_loadHs ?_ | refine s_index ?_ | refine s_indexR ?_ | refine s_addI ?_ | refine a7 ?_ | refine a8 ?_ | refine a9 ?_ | refine RW.storeR rfl rfl rfl rfl (by first | rfl | (simp [allOne, cellsL, one1]; done) | (simp [allOne, cellsL, one1]; first | assumption | (refine ⟨?_, ?_⟩ <;> assumption))) rfl ?_ | refine a10 ?_ | refine RW.storeR1 rfl rfl (by first | rfl | exact IsSl.one1 (by assumption) | exact IsSl.one1 (SliceRep.isSl (by assumption))) rfl rfl ?_)
    refine Runs.retC Try.func11 Try.results11 rfl (fun w hm => hR _ w _ Hk _ (by simp) (hle) ?_ hm)
    exact ⟨_, rfl, hrep⟩

def smpD : Dc := ⟨[97, 98, 99, 100, 101, 102], [⟨7, 2, 5, true⟩]⟩
theorem smpD_valid : validD smpD := by decide
theorem sample_c {H : Snap} : Pure Try.prog 29 #[] H (fun H' r => DocR H' r smpD) := by
  refine Pure.intro Try.func29 rfl Try.ntmps29 rfl (fun E R hM hR => ?_)
  repeat (first | refine a1 ?_ | refine a3 ?_ | refine a4 ?_ | refine a5 ?_ | refine a6 ?_ | refine s_build ?_ | refine a7 ?_ | refine a8 ?_ | refine a9 ?_ | refine RW.storeR rfl rfl rfl rfl (by first | rfl | (simp [allOne, cellsL, one1]; done) | (simp [allOne, cellsL, one1]; first | assumption | (refine ⟨?_, ?_⟩ <;> assumption))) rfl ?_ | refine a10 ?_ | refine RW.storeR1 rfl rfl (by first | rfl | exact IsSl.one1 (by assumption) | exact IsSl.one1 (SliceRep.isSl (by assumption))) rfl rfl ?_)
  refine RW.alloc rfl rfl rfl (fun b0 => ?_)
  repeat (first | refine a1 ?_ | refine a3 ?_ | refine a4 ?_ | refine a5 ?_ | refine a6 ?_ | refine s_build ?_ | refine a7 ?_ | refine a8 ?_ | refine a9 ?_ | refine RW.storeR rfl rfl rfl rfl (by first | rfl | (simp [allOne, cellsL, one1]; done) | (simp [allOne, cellsL, one1]; first | assumption | (refine ⟨?_, ?_⟩ <;> assumption))) rfl ?_ | refine a10 ?_ | refine RW.storeR1 rfl rfl (by first | rfl | exact IsSl.one1 (by assumption) | exact IsSl.one1 (SliceRep.isSl (by assumption))) rfl rfl ?_)
  refine RW.buildSlice rfl rfl rfl rfl rfl rfl rfl (fun v2 hv2 => ?_)
  obtain ⟨A2, c2, rfl, _, _⟩ := hv2
  repeat (first | refine a1 ?_ | refine a3 ?_ | refine a4 ?_ | refine a5 ?_ | refine a6 ?_ | refine s_build ?_ | refine a7 ?_ | refine a8 ?_ | refine a9 ?_ | refine RW.storeR rfl rfl rfl rfl (by first | rfl | (simp [allOne, cellsL, one1]; done) | (simp [allOne, cellsL, one1]; first | assumption | (refine ⟨?_, ?_⟩ <;> assumption))) rfl ?_ | refine a10 ?_ | refine RW.storeR1 rfl rfl (by first | rfl | exact IsSl.one1 (by assumption) | exact IsSl.one1 (SliceRep.isSl (by assumption))) rfl rfl ?_)
  refine Runs.freeze (H := H) (.slice A2 1 c2) hM (fun H5 hle5 hs5 hc5 => ?_)
  repeat (first | refine a1 ?_ | refine a3 ?_ | refine a4 ?_ | refine a5 ?_ | refine a6 ?_ | refine s_build ?_ | refine a7 ?_ | refine a8 ?_ | refine a9 ?_ | refine RW.storeR rfl rfl rfl rfl (by first | rfl | (simp [allOne, cellsL, one1]; done) | (simp [allOne, cellsL, one1]; first | assumption | (refine ⟨?_, ?_⟩ <;> assumption))) rfl ?_ | refine a10 ?_ | refine RW.storeR1 rfl rfl (by first | rfl | exact IsSl.one1 (by assumption) | exact IsSl.one1 (SliceRep.isSl (by assumption))) rfl rfl ?_)
  refine Runs.retC Try.func29 Try.results29 rfl (fun w hm => hR _ w _ H5 _ (by simp) (hle5) ?_ hm)
  exact ⟨_, rfl, rowRep hs5 rfl hc5⟩
def wantD (t : List UInt8) (m : Mk) : Dc := ⟨t, if 0 < m.to_ then [⟨7, m.fr, m.to_, m.wh⟩] else []⟩
def leadsB (e : Ed) (t : List UInt8) (m : Mk) : Bool := decide ((doD smpD e).2 = 0 ∧ (doD smpD e).1 = wantD t m)
set_option maxHeartbeats 1000000 in
theorem leads_c {H : Snap} {e : Ed} {t : List UInt8} {m : Mk} (ht : e.tx.length ≤ 100000) : Pure Try.prog 28 #[edV e, str t, mkV m] H (fun _ r => r = .bool (leadsB e t m)) := by
  unfold leadsB wantD
  have hsv := smpD_valid
  have hsc : ∀ H, Pure Try.prog 29 #[] H (fun H' r => DocR H' r smpD) := fun H => sample_c
  generalize smpD = D at *
  obtain ⟨ds, dm⟩ := D
  obtain ⟨v1, v2, v3, v4, v5⟩ := hsv
  dsimp only at *
  refine Pure.intro Try.func28 rfl Try.ntmps28 rfl (fun E R hM hR => ?_)
  repeat (first | refine a1 ?_ | refine a3 ?_ | refine a4 ?_ | refine a5 ?_ | refine a6 ?_ | refine s_loadBs ?_ | refine s_loadHs ?_ | refine s_build ?_ | refine s_fieldB ?_ | refine s_fieldV ?_ | refine s_loadB ?_ | refine s_loadH ?_ | refine s_loadR ?_ | refine a7 ?_ | refine a8 ?_ | refine a9 ?_ | refine RW.storeR rfl rfl rfl rfl (by first | rfl | (simp [allOne, cellsL, one1]; done) | (simp [allOne, cellsL, one1]; first | assumption | (refine ⟨?_, ?_⟩ <;> assumption))) rfl ?_ | refine a10 ?_ | refine RW.storeR1 rfl rfl (by first | rfl | exact IsSl.one1 (by assumption) | exact IsSl.one1 (SliceRep.isSl (by assumption))) rfl rfl ?_)
  refine RW.box rfl rfl rfl rfl (fun b3 => ?_)
  refine RW.box rfl rfl rfl rfl (fun b5 => ?_)
  repeat (first | refine a1 ?_ | refine a3 ?_ | refine a4 ?_ | refine a5 ?_ | refine a6 ?_ | refine s_loadBs ?_ | refine s_loadHs ?_ | refine s_build ?_ | refine s_fieldB ?_ | refine s_fieldV ?_ | refine s_loadB ?_ | refine s_loadH ?_ | refine s_loadR ?_ | refine a7 ?_ | refine a8 ?_ | refine a9 ?_ | refine RW.storeR rfl rfl rfl rfl (by first | rfl | (simp [allOne, cellsL, one1]; done) | (simp [allOne, cellsL, one1]; first | assumption | (refine ⟨?_, ?_⟩ <;> assumption))) rfl ?_ | refine a10 ?_ | refine RW.storeR1 rfl rfl (by first | rfl | exact IsSl.one1 (by assumption) | exact IsSl.one1 (SliceRep.isSl (by assumption))) rfl rfl ?_)
  refine Runs.regionD _ _ [7] (fun x hx => List.mem_cons_of_mem _ hx) (List.Sublist.refl _) (by kernel_rfl) ?_
  (first | refine t_loadBs 1 ?_ | refine t_loadHs 1 ?_)
  refine DW.float 6 rfl rfl ?_
  refine DWf.call 0 rfl rfl rfl (by kernel_rfl) (by kernel_rfl) rfl rfl rfl rfl rfl rfl (hsc H) ?_
  rintro v11 H2 ⟨vm2, hv2, hrep2⟩ hle2
  subst hv2
  dsimp only
  have hrep2 : SliceRep H2 MarkL vm2 dm := hrep2
  refine DWf.call 2 rfl rfl rfl (by kernel_rfl) (by kernel_rfl) rfl rfl rfl rfl rfl rfl (do_c (e := e) hrep2 (by omega) ht v4 (by omega)) ?_
  rintro v13 H3 ⟨vd, hvd, hrd⟩ hle3
  subst hvd
  generalize doD ⟨ds, dm⟩ e = q at *
  obtain ⟨⟨qs, qm⟩, qe⟩ := q
  obtain ⟨vm3, rfl, hrm3⟩ := hrd
  have hi3 := hrm3.isSl
  have ho3 := hi3.one1
  dsimp only at *
  refine DWf.qF 3 rfl rfl (by kernel_rfl) (qev_eq rfl) (fun _ => qev_eq rfl) rfl rfl ?_
  refine DWf.qF 4 rfl rfl (by kernel_rfl) (qev_eq rfl) (fun _ => qev_eq rfl) rfl rfl ?_
  refine DWf.qF 5 rfl rfl (by kernel_rfl) (qev_eq rfl) (fun _ => qev_eq rfl) rfl rfl ?_
  refine DWf.take rfl (by kernel_rfl) rfl rfl rfl (fun b7 => ?_)
  simp only [List.cons_append, List.nil_append]
  (first | refine DW.storeB 7 rfl (by kernel_rfl) rfl rfl rfl rfl (by first | rfl | (simp [allOne, cellsL, one1]; done) | (simp [allOne, cellsL, one1]; first | assumption | (refine ⟨?_, ?_⟩ <;> assumption))) rfl ?_ | refine DW.storeB1 7 rfl (by kernel_rfl) rfl rfl rfl (by first | rfl | exact IsSl.one1 (by assumption) | exact IsSl.one1 (SliceRep.isSl (by assumption))) rfl rfl ?_)
  refine d2 8 ?_
  refine DW.done (by kernel_rfl) ?_
  repeat (first | refine a1 ?_ | refine a3 ?_ | refine a4 ?_ | refine a5 ?_ | refine a6 ?_ | refine s_loadBs ?_ | refine s_loadHs ?_ | refine s_build ?_ | refine s_fieldB ?_ | refine s_fieldV ?_ | refine s_loadB ?_ | refine s_loadH ?_ | refine s_loadR ?_ | refine a7 ?_ | refine a8 ?_ | refine a9 ?_ | refine RW.storeR rfl rfl rfl rfl (by first | rfl | (simp [allOne, cellsL, one1]; done) | (simp [allOne, cellsL, one1]; first | assumption | (refine ⟨?_, ?_⟩ <;> assumption))) rfl ?_ | refine a10 ?_ | refine RW.storeR1 rfl rfl (by first | rfl | exact IsSl.one1 (by assumption) | exact IsSl.one1 (SliceRep.isSl (by assumption))) rfl rfl ?_)
  refine RW.alloc rfl rfl rfl (fun b9 => ?_)
  repeat (first | refine a1 ?_ | refine a3 ?_ | refine a4 ?_ | refine a5 ?_ | refine a6 ?_ | refine s_loadBs ?_ | refine s_loadHs ?_ | refine s_build ?_ | refine s_fieldB ?_ | refine s_fieldV ?_ | refine s_loadB ?_ | refine s_loadH ?_ | refine s_loadR ?_ | refine a7 ?_ | refine a8 ?_ | refine a9 ?_ | refine RW.storeR rfl rfl rfl rfl (by first | rfl | (simp [allOne, cellsL, one1]; done) | (simp [allOne, cellsL, one1]; first | assumption | (refine ⟨?_, ?_⟩ <;> assumption))) rfl ?_ | refine a10 ?_ | refine RW.storeR1 rfl rfl (by first | rfl | exact IsSl.one1 (by assumption) | exact IsSl.one1 (SliceRep.isSl (by assumption))) rfl rfl ?_)
  refine Runs.cond_d rfl (fun hm0 => ?_) (fun hm0 => ?_)
  · rw [if_pos hm0] at hR
    repeat (first | refine a1 ?_ | refine a3 ?_ | refine a4 ?_ | refine a5 ?_ | refine a6 ?_ | refine s_loadBs ?_ | refine s_loadHs ?_ | refine s_build ?_ | refine s_fieldB ?_ | refine s_fieldV ?_ | refine s_loadB ?_ | refine s_loadH ?_ | refine s_loadR ?_ | refine a7 ?_ | refine a8 ?_ | refine a9 ?_ | refine RW.storeR rfl rfl rfl rfl (by first | rfl | (simp [allOne, cellsL, one1]; done) | (simp [allOne, cellsL, one1]; first | assumption | (refine ⟨?_, ?_⟩ <;> assumption))) rfl ?_ | refine a10 ?_ | refine RW.storeR1 rfl rfl (by first | rfl | exact IsSl.one1 (by assumption) | exact IsSl.one1 (SliceRep.isSl (by assumption))) rfl rfl ?_)
    refine RW.buildSlice rfl rfl rfl rfl rfl rfl rfl (fun v23 hv23 => ?_)
    have ho23 := hv23.one1
    repeat (first | refine a1 ?_ | refine a3 ?_ | refine a4 ?_ | refine a5 ?_ | refine a6 ?_ | refine s_loadBs ?_ | refine s_loadHs ?_ | refine s_build ?_ | refine s_fieldB ?_ | refine s_fieldV ?_ | refine s_loadB ?_ | refine s_loadH ?_ | refine s_loadR ?_ | refine a7 ?_ | refine a8 ?_ | refine a9 ?_ | refine RW.storeR rfl rfl rfl rfl (by first | rfl | (simp [allOne, cellsL, one1]; done) | (simp [allOne, cellsL, one1]; first | assumption | (refine ⟨?_, ?_⟩ <;> assumption))) rfl ?_ | refine a10 ?_ | refine RW.storeR1 rfl rfl (by first | rfl | exact IsSl.one1 (by assumption) | exact IsSl.one1 (SliceRep.isSl (by assumption))) rfl rfl ?_)
    refine RW.freeze (H := H3) v23 hM (fun H5 hle5 hs5 hc5 => ?_)
    have hr5 : SliceRep H5 MarkL v23 [⟨7, m.fr, m.to_, m.wh⟩] := rowRep hs5 rfl hc5
    refine RW.dec 27 rfl (fun h0 => ?_) (fun h0 => ?_)
    · repeat (first | refine a1 ?_ | refine a3 ?_ | refine a4 ?_ | refine a5 ?_ | refine a6 ?_ | refine s_loadBs ?_ | refine s_loadHs ?_ | refine s_build ?_ | refine s_fieldB ?_ | refine s_fieldV ?_ | refine s_loadB ?_ | refine s_loadH ?_ | refine s_loadR ?_ | refine a7 ?_ | refine a8 ?_ | refine a9 ?_ | refine RW.storeR rfl rfl rfl rfl (by first | rfl | (simp [allOne, cellsL, one1]; done) | (simp [allOne, cellsL, one1]; first | assumption | (refine ⟨?_, ?_⟩ <;> assumption))) rfl ?_ | refine a10 ?_ | refine RW.storeR1 rfl rfl (by first | rfl | exact IsSl.one1 (by assumption) | exact IsSl.one1 (SliceRep.isSl (by assumption))) rfl rfl ?_)
      refine RW.callV rfl (same_c (H := H5) ⟨_, rfl, hrm3.mono hle5⟩ ⟨_, rfl, hr5⟩ (a := ⟨qs, qm⟩) (b := ⟨t, [⟨7, m.fr, m.to_, m.wh⟩]⟩)) rfl rfl ?_
      rintro _ _ rfl
      repeat (first | refine a1 ?_ | refine a3 ?_ | refine a4 ?_ | refine a5 ?_ | refine a6 ?_ | refine s_loadBs ?_ | refine s_loadHs ?_ | refine s_build ?_ | refine s_fieldB ?_ | refine s_fieldV ?_ | refine s_loadB ?_ | refine s_loadH ?_ | refine s_loadR ?_ | refine a7 ?_ | refine a8 ?_ | refine a9 ?_ | refine RW.storeR rfl rfl rfl rfl (by first | rfl | (simp [allOne, cellsL, one1]; done) | (simp [allOne, cellsL, one1]; first | assumption | (refine ⟨?_, ?_⟩ <;> assumption))) rfl ?_ | refine a10 ?_ | refine RW.storeR1 rfl rfl (by first | rfl | exact IsSl.one1 (by assumption) | exact IsSl.one1 (SliceRep.isSl (by assumption))) rfl rfl ?_)
      refine Runs.ret1 Try.func28 Try.results28 rfl (fun w hm => hR _ w _ H _ (List.mem_cons_self ..) (Snap.le.refl _) ?_ hm)
      simp [h0]
    · repeat (first | refine a1 ?_ | refine a3 ?_ | refine a4 ?_ | refine a5 ?_ | refine a6 ?_ | refine s_loadBs ?_ | refine s_loadHs ?_ | refine s_build ?_ | refine s_fieldB ?_ | refine s_fieldV ?_ | refine s_loadB ?_ | refine s_loadH ?_ | refine s_loadR ?_ | refine a7 ?_ | refine a8 ?_ | refine a9 ?_ | refine RW.storeR rfl rfl rfl rfl (by first | rfl | (simp [allOne, cellsL, one1]; done) | (simp [allOne, cellsL, one1]; first | assumption | (refine ⟨?_, ?_⟩ <;> assumption))) rfl ?_ | refine a10 ?_ | refine RW.storeR1 rfl rfl (by first | rfl | exact IsSl.one1 (by assumption) | exact IsSl.one1 (SliceRep.isSl (by assumption))) rfl rfl ?_)
      refine Runs.ret1 Try.func28 Try.results28 rfl (fun w hm => hR _ w _ H _ (List.mem_cons_self ..) (Snap.le.refl _) ?_ hm)
      simp [h0]
  · rw [if_neg hm0] at hR
    repeat (first | refine a1 ?_ | refine a3 ?_ | refine a4 ?_ | refine a5 ?_ | refine a6 ?_ | refine s_loadBs ?_ | refine s_loadHs ?_ | refine s_build ?_ | refine s_fieldB ?_ | refine s_fieldV ?_ | refine s_loadB ?_ | refine s_loadH ?_ | refine s_loadR ?_ | refine a7 ?_ | refine a8 ?_ | refine a9 ?_ | refine RW.storeR rfl rfl rfl rfl (by first | rfl | (simp [allOne, cellsL, one1]; done) | (simp [allOne, cellsL, one1]; first | assumption | (refine ⟨?_, ?_⟩ <;> assumption))) rfl ?_ | refine a10 ?_ | refine RW.storeR1 rfl rfl (by first | rfl | exact IsSl.one1 (by assumption) | exact IsSl.one1 (SliceRep.isSl (by assumption))) rfl rfl ?_)
    refine RW.dec 27 rfl (fun h0 => ?_) (fun h0 => ?_)
    · repeat (first | refine a1 ?_ | refine a3 ?_ | refine a4 ?_ | refine a5 ?_ | refine a6 ?_ | refine s_loadBs ?_ | refine s_loadHs ?_ | refine s_build ?_ | refine s_fieldB ?_ | refine s_fieldV ?_ | refine s_loadB ?_ | refine s_loadH ?_ | refine s_loadR ?_ | refine a7 ?_ | refine a8 ?_ | refine a9 ?_ | refine RW.storeR rfl rfl rfl rfl (by first | rfl | (simp [allOne, cellsL, one1]; done) | (simp [allOne, cellsL, one1]; first | assumption | (refine ⟨?_, ?_⟩ <;> assumption))) rfl ?_ | refine a10 ?_ | refine RW.storeR1 rfl rfl (by first | rfl | exact IsSl.one1 (by assumption) | exact IsSl.one1 (SliceRep.isSl (by assumption))) rfl rfl ?_)
      refine RW.callV rfl (same_c (H := H3) ⟨_, rfl, hrm3⟩ ⟨_, rfl, SliceRep.nil⟩ (a := ⟨qs, qm⟩) (b := ⟨t, []⟩)) rfl rfl ?_
      rintro _ _ rfl
      repeat (first | refine a1 ?_ | refine a3 ?_ | refine a4 ?_ | refine a5 ?_ | refine a6 ?_ | refine s_loadBs ?_ | refine s_loadHs ?_ | refine s_build ?_ | refine s_fieldB ?_ | refine s_fieldV ?_ | refine s_loadB ?_ | refine s_loadH ?_ | refine s_loadR ?_ | refine a7 ?_ | refine a8 ?_ | refine a9 ?_ | refine RW.storeR rfl rfl rfl rfl (by first | rfl | (simp [allOne, cellsL, one1]; done) | (simp [allOne, cellsL, one1]; first | assumption | (refine ⟨?_, ?_⟩ <;> assumption))) rfl ?_ | refine a10 ?_ | refine RW.storeR1 rfl rfl (by first | rfl | exact IsSl.one1 (by assumption) | exact IsSl.one1 (SliceRep.isSl (by assumption))) rfl rfl ?_)
      refine Runs.ret1 Try.func28 Try.results28 rfl (fun w hm => hR _ w _ H _ (List.mem_cons_self ..) (Snap.le.refl _) ?_ hm)
      simp [h0]
    · repeat (first | refine a1 ?_ | refine a3 ?_ | refine a4 ?_ | refine a5 ?_ | refine a6 ?_ | refine s_loadBs ?_ | refine s_loadHs ?_ | refine s_build ?_ | refine s_fieldB ?_ | refine s_fieldV ?_ | refine s_loadB ?_ | refine s_loadH ?_ | refine s_loadR ?_ | refine a7 ?_ | refine a8 ?_ | refine a9 ?_ | refine RW.storeR rfl rfl rfl rfl (by first | rfl | (simp [allOne, cellsL, one1]; done) | (simp [allOne, cellsL, one1]; first | assumption | (refine ⟨?_, ?_⟩ <;> assumption))) rfl ?_ | refine a10 ?_ | refine RW.storeR1 rfl rfl (by first | rfl | exact IsSl.one1 (by assumption) | exact IsSl.one1 (SliceRep.isSl (by assumption))) rfl rfl ?_)
      refine Runs.ret1 Try.func28 Try.results28 rfl (fun w hm => hR _ w _ H _ (List.mem_cons_self ..) (Snap.le.refl _) ?_ hm)
      simp [h0]
theorem put3 : putD smpD 3 6 [103, 104] = (⟨[97, 98, 99, 100, 101, 102, 103, 104], [⟨3, 6, 8, true⟩, ⟨7, 2, 5, true⟩]⟩, 0) := by decide
theorem put7 : putD smpD 7 0 [103, 104] = (⟨[], []⟩, 290) := by decide
theorem do5 : doD smpD ⟨2, 5, 2, 0, []⟩ = (⟨[], []⟩, 290) := by decide
theorem txt3 : textD ⟨[97, 98, 99, 100, 101, 102, 103, 104], [⟨3, 6, 8, true⟩, ⟨7, 2, 5, true⟩]⟩ 3 = ([103, 104], 0) := by decide
theorem txt4 : textD ⟨[97, 98, 99, 100, 101, 102, 103, 104], [⟨3, 6, 8, true⟩, ⟨7, 2, 5, true⟩]⟩ 4 = ([], 330) := by decide
theorem val1 : ¬ validD ⟨[], [⟨0, 0, 1, false⟩]⟩ := by decide
theorem l1 : leadsB ⟨1, 2, 0, 0, [88]⟩ [97, 98, 88, 99, 100, 101, 102] ⟨0, 3, 6, true⟩ = true := by decide
theorem l2 : leadsB ⟨1, 3, 0, 0, [88]⟩ [97, 98, 99, 88, 100, 101, 102] ⟨0, 2, 6, false⟩ = true := by decide
theorem l3 : leadsB ⟨2, 0, 2, 0, []⟩ [99, 100, 101, 102] ⟨0, 0, 3, true⟩ = true := by decide
theorem l4 : leadsB ⟨2, 1, 2, 0, []⟩ [97, 100, 101, 102] ⟨0, 1, 3, false⟩ = true := by decide
theorem l5 : leadsB ⟨2, 1, 4, 0, []⟩ [97, 102] ⟨0, 0, 0, false⟩ = true := by decide
theorem l6 : leadsB ⟨3, 2, 3, 0, []⟩ [99, 100, 101, 97, 98, 102] ⟨0, 0, 3, true⟩ = true := by decide
theorem l7 : leadsB ⟨3, 4, 2, 0, []⟩ [101, 102, 97, 98, 99, 100] ⟨0, 4, 6, false⟩ = true := by decide
theorem l8 : leadsB ⟨3, 0, 1, 2, []⟩ [98, 99, 97, 100, 101, 102] ⟨0, 1, 5, false⟩ = true := by decide
end Go.Proofs.Ytcikciefaggckaa

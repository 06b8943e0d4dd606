/-
  The heap of parts: its order, taking in, taking out. Conditions: the heap is in order.
-/
import Derived.Test.YtjdhcblofkkibaaMHp
import Derived.Test.YtjdhcblofkkibaaRun2
namespace Go.Proofs.Ytjdhcblofkkibaa
open Go Go.RowKit

def PartL : Lay Part where
  sz := 4
  rep H x c := ∃ v, c = [v, .int .i64 x.at_, .int .i64 x.cost, .int .i64 x.whole] ∧ SliceRep H I64 v x.links
  mono := by rintro H H' x c hle ⟨v, h1, h2⟩; exact ⟨v, h1, h2.mono hle⟩
  len := by rintro H x c ⟨v, rfl, _⟩; rfl
  one := by
    rintro H x c ⟨v, rfl, ⟨⟨A, cap, rfl, _⟩, _⟩⟩ u hu
    simp at hu
    rcases hu with rfl | rfl | rfl | rfl <;> rfl
abbrev partV (v : Value) (x : Part) : Value := .agg #[v, .int .i64 x.at_, .int .i64 x.cost, .int .i64 x.whole]
abbrev lessV : Value := .func (.func 54) #[] #[]

theorem lt_c {H : Snap} {va vb : Value} {a b : Part} (ha : SliceRep H I64 va a.links) (hb : SliceRep H I64 vb b.links) :
    Pure Try.prog 54 #[partV va a, partV vb b] H (fun _ r => r = .bool (decide (partLt a b))) := by
  refine Pure.intro Try.func54 rfl Try.ntmps54 rfl (fun E R hM hR => ?_)
  repeat (first | refine a1 ?_ | refine a3 ?_ | refine a4 ?_ | refine a5 ?_ | refine a6 ?_ | refine s_fieldB ?_ | refine s_fieldV ?_ | refine s_loadB ?_ | refine s_loadH ?_ | refine s_loadR ?_ | refine a7 ?_ | refine a8 ?_)
  refine RW.box rfl rfl rfl rfl (fun b2 => ?_)
  refine RW.box rfl rfl rfl rfl (fun b3 => ?_)
  repeat (first | refine a1 ?_ | refine a3 ?_ | refine a4 ?_ | refine a5 ?_ | refine a6 ?_ | refine s_fieldB ?_ | refine s_fieldV ?_ | refine s_loadB ?_ | refine s_loadH ?_ | refine s_loadR ?_ | refine a7 ?_ | refine a8 ?_)
  refine Runs.cond_d rfl (fun h1 => ?_) (fun h1 => ?_)
  · repeat (first | refine a1 ?_ | refine a3 ?_ | refine a4 ?_ | refine a5 ?_ | refine a6 ?_ | refine s_fieldB ?_ | refine s_fieldV ?_ | refine s_loadB ?_ | refine s_loadH ?_ | refine s_loadR ?_ | refine a7 ?_ | refine a8 ?_)
    refine Runs.ret1 Try.func54 Try.results54 rfl (fun w hm => hR _ w _ H _ (List.mem_cons_self ..) (Snap.le.refl _) ?_ hm)
    have : ¬ a.whole = b.whole := h1
    simp [partLt, this]
  · repeat (first | refine a1 ?_ | refine a3 ?_ | refine a4 ?_ | refine a5 ?_ | refine a6 ?_ | refine s_fieldB ?_ | refine s_fieldV ?_ | refine s_loadB ?_ | refine s_loadH ?_ | refine s_loadR ?_ | refine a7 ?_ | refine a8 ?_)
    refine RW.callV rfl (compare_c ha hb) rfl rfl ?_
    rintro _ _ rfl
    repeat (first | refine a1 ?_ | refine a3 ?_ | refine a4 ?_ | refine a5 ?_ | refine a6 ?_ | refine s_fieldB ?_ | refine s_fieldV ?_ | refine s_loadB ?_ | refine s_loadH ?_ | refine s_loadR ?_ | refine a7 ?_ | refine a8 ?_)
    refine Runs.ret1 Try.func54 Try.results54 rfl (fun w hm => hR _ w _ H _ (List.mem_cons_self ..) (Snap.le.refl _) ?_ hm)
    have : a.whole = b.whole := by omega
    simp [partLt, this]

theorem CellsRep.part {H : Snap} {ps : List Part} {cs : List Value} (h : CellsRep H PartL ps cs) {k : Nat} {x : Part} (hx : ps[k]? = some x) :
    ∃ vl, SliceRep H I64 vl x.links ∧ (∀ j u, [vl, .int .i64 x.at_, .int .i64 x.cost, .int .i64 x.whole][j]? = some u → cs[k * 4 + j]? = some u) := by
  obtain ⟨c, ⟨vl, rfl, h1⟩, h2⟩ := h.at hx
  exact ⟨vl, h1, h2⟩

set_option maxHeartbeats 1000000 in
theorem push_c {H : Snap} {bh : Nat} {v vx : Value} {cs : List Value} {ps : List Part} {x : Part} (hps : CellsRep H PartL ps cs) (hx : SliceRep H I64 vx x.links) (ho : HeapO ps) (hlen : ps.length ≤ 2000000000000) :
    Ctr Try.prog 55 #[.pointer (some ⟨bh, 0, none⟩), partV vx x] H [.blk bh 106 [v, lessV], .row 102 4 v ps.length cs]
      (fun H' O' _ => ∃ v' cs' ps', O' = [.blk bh 106 [v', lessV], .row 102 4 v' ps'.length cs'] ∧ CellsRep H' PartL ps' cs' ∧ ps'.Perm (ps ++ [x]) ∧ HeapO ps') := by
  obtain ⟨A, cap, rfl, _, _⟩ := hx.isSl
  refine Ctr.intro Try.func55 rfl Try.ntmps55 rfl (fun E R hM hR => ?_)
  repeat (first | refine a1 ?_ | refine a3 ?_ | refine a4 ?_ | refine a5 ?_ | refine a6 ?_ | refine s_fieldB ?_ | refine s_fieldV ?_ | refine s_loadB ?_ | refine s_loadH ?_ | refine s_loadR ?_ | refine s_loadBs ?_ | refine s_loadHs ?_ | refine s_len ?_ | refine s_lenR ?_ | refine s_subI ?_ | refine s_quo ?_ | refine s_index ?_ | refine s_indexR ?_ | refine a7 ?_ | refine a8 ?_ | refine a9 ?_ | refine RW.storeR rfl rfl rfl rfl (by first | rfl | (simp [allOne, cellsL, one1]; done) | (simp [allOne, cellsL, one1]; first | assumption | (refine ⟨?_, ?_⟩ <;> assumption))) rfl ?_ | refine a10 ?_ | refine RW.storeR1 rfl rfl (by first | rfl | exact IsSl.one1 (by assumption) | exact IsSl.one1 (SliceRep.isSl (by assumption))) rfl rfl ?_)
  refine RW.box rfl rfl rfl rfl (fun b3 => ?_)
  repeat (first | refine a1 ?_ | refine a3 ?_ | refine a4 ?_ | refine a5 ?_ | refine a6 ?_ | refine s_fieldB ?_ | refine s_fieldV ?_ | refine s_loadB ?_ | refine s_loadH ?_ | refine s_loadR ?_ | refine s_loadBs ?_ | refine s_loadHs ?_ | refine s_len ?_ | refine s_lenR ?_ | refine s_subI ?_ | refine s_quo ?_ | refine s_index ?_ | refine s_indexR ?_ | refine a7 ?_ | refine a8 ?_ | refine a9 ?_ | refine RW.storeR rfl rfl rfl rfl (by first | rfl | (simp [allOne, cellsL, one1]; done) | (simp [allOne, cellsL, one1]; first | assumption | (refine ⟨?_, ?_⟩ <;> assumption))) rfl ?_ | refine a10 ?_ | refine RW.storeR1 rfl rfl (by first | rfl | exact IsSl.one1 (by assumption) | exact IsSl.one1 (SliceRep.isSl (by assumption))) rfl rfl ?_)
  refine Runs.rowSl v (fun hv hv1 => ?_)
  have hpl := hps.length
  refine Runs.regionD _ ([.blk b3 102 [.slice A x.links.length cap, .int .i64 x.at_, .int .i64 x.cost, .int .i64 x.whole], .blk bh 106 [v, lessV]]) [10] (fun x hx => List.mem_cons_of_mem _ hx) SubO.h (by kernel_rfl) ?_
  refine d1 0 3 ?_
  (first | refine t_fieldB 3 ?_ | refine t_fieldV 3 ?_)
  (first | refine t_loadB 4 ?_ | refine t_loadH 4 ?_ | refine t_loadR 4 ?_)
  (first | refine t_loadBs 5 ?_ | refine t_loadHs 5 ?_)
  refine DW.buildSlice 6 rfl (by kernel_rfl) rfl rfl rfl rfl rfl rfl rfl (fun v12 hv12 => ?_)
  refine DW.appendR 7 rfl (by kernel_rfl) rfl rfl (by assumption) rfl rfl rfl (by decide) (by omega) (by omega) (fun _ => inferInstance) rfl rfl (fun _ => inferInstance) inferInstance (fun v13 hv13 => ?_)
  refine d2 8 ?_
  (first | refine t_fieldB 9 ?_ | refine t_fieldV 9 ?_)
  have hone13 := hv13.one1
  (first | refine DW.storeB 10 rfl (by kernel_rfl) rfl rfl rfl rfl (by first | rfl | (simp [allOne, cellsL, one1]; done) | (simp [allOne, cellsL, one1]; first | assumption | (refine ⟨?_, ?_⟩ <;> assumption))) rfl ?_ | refine DW.storeB1 10 rfl (by kernel_rfl) rfl rfl rfl (by first | rfl | exact IsSl.one1 (by assumption) | exact IsSl.one1 (SliceRep.isSl (by assumption))) rfl rfl ?_)
  refine DW.done (by kernel_rfl) ?_
  repeat (first | refine a1 ?_ | refine a3 ?_ | refine a4 ?_ | refine a5 ?_ | refine a6 ?_ | refine s_fieldB ?_ | refine s_fieldV ?_ | refine s_loadB ?_ | refine s_loadH ?_ | refine s_loadR ?_ | refine s_loadBs ?_ | refine s_loadHs ?_ | refine s_len ?_ | refine s_lenR ?_ | refine s_subI ?_ | refine s_quo ?_ | refine s_index ?_ | refine s_indexR ?_ | refine a7 ?_ | refine a8 ?_ | refine a9 ?_ | refine RW.storeR rfl rfl rfl rfl (by first | rfl | (simp [allOne, cellsL, one1]; done) | (simp [allOne, cellsL, one1]; first | assumption | (refine ⟨?_, ?_⟩ <;> assumption))) rfl ?_ | refine a10 ?_ | refine RW.storeR1 rfl rfl (by first | rfl | exact IsSl.one1 (by assumption) | exact IsSl.one1 (SliceRep.isSl (by assumption))) rfl rfl ?_)
  have e1 : ((ps.length + 1 : Nat) : Int) - 1 = (ps.length : Int) := by omega
  rw [e1]
  refine Runs.loop (fun (s : Nat × List Value × List Part) => s.1 < s.2.2.length ∧ s.2.2.length = ps.length + 1 ∧ CellsRep H PartL s.2.2 s.2.1 ∧ s.2.2.Perm (ps ++ [x]) ∧ UpI s.1 s.2.2) (fun s => s.1) (fun _ => [H])
    (fun s => [.blk bh 106 [v13, lessV], .row 102 4 v13 (ps.length + 1) s.2.1])
    (fun s => [(0, .pointer (some ⟨bh, 0, none⟩)), (4, .int .i64 (s.1 : Int))]) (ps.length, _, ps ++ [x]) ⟨by simp, by simp, hps.append (CellsRep.one ⟨_, rfl, hx⟩), List.Perm.refl _, UpI.start ho⟩ (fun h => by
      refine Runs.weak (h) (by repeat (first | exact trivial | refine And.intro rfl ?_)) (fun x hx => List.mem_cons_of_mem _ (SubH.h x hx)) (by repeat (first | exact List.nil_sublist _ | exact List.Sublist.refl _ | refine List.Sublist.cons_cons _ ?_ | refine List.Sublist.cons _ ?_))) ?_
  rintro ⟨i, cs, q⟩ ⟨hi, hql, hcs, hperm, hup⟩ ih
  dsimp only at hi hql hcs hperm hup ⊢
  repeat (first | refine a1 ?_ | refine a3 ?_ | refine a4 ?_ | refine a5 ?_ | refine a6 ?_ | refine s_fieldB ?_ | refine s_fieldV ?_ | refine s_loadB ?_ | refine s_loadH ?_ | refine s_loadR ?_ | refine s_loadBs ?_ | refine s_loadHs ?_ | refine s_len ?_ | refine s_lenR ?_ | refine s_subI ?_ | refine s_quo ?_ | refine s_index ?_ | refine s_indexR ?_ | refine a7 ?_ | refine a8 ?_ | refine a9 ?_ | refine RW.storeR rfl rfl rfl rfl (by first | rfl | (simp [allOne, cellsL, one1]; done) | (simp [allOne, cellsL, one1]; first | assumption | (refine ⟨?_, ?_⟩ <;> assumption))) rfl ?_ | refine a10 ?_ | refine RW.storeR1 rfl rfl (by first | rfl | exact IsSl.one1 (by assumption) | exact IsSl.one1 (SliceRep.isSl (by assumption))) rfl rfl ?_)
  refine Runs.cond_d rfl (fun hi0 => ?_) (fun hi0 => ?_)
  · have e2 : ((i : Int) - 1) / 2 = (((i - 1) / 2 : Nat) : Int) := by omega
    obtain ⟨a, ha⟩ : ∃ a, q[i]? = some a := ⟨_, List.getElem?_eq_getElem hi⟩
    obtain ⟨b, hb⟩ : ∃ b, q[(i - 1) / 2]? = some b := ⟨_, List.getElem?_eq_getElem (by omega)⟩
    have hstep := fun hlt => hup.step (a := a) (b := b) (by omega) ha hb hlt
    have hdone := fun hd => hup.done (.inr hd)
    have hsp := swp_perm ha hb
    have hsl := swp_length q i ((i - 1) / 2) a b
    have hui : (i - 1) / 2 < i := by omega
    obtain ⟨va, hva, hla⟩ := hcs.part ha
    obtain ⟨vb, hvb, hlb⟩ := hcs.part hb
    obtain ⟨cs1, hp1, hcs1⟩ := hcs.put (s := 4) (k := i) hi rfl ⟨vb, rfl, hvb⟩
    obtain ⟨cs2, hp2, hcs2⟩ := hcs1.put (s := 4) (k := (i - 1) / 2) (by simp; omega) rfl ⟨va, rfl, hva⟩
    have hone13' : IsSl v13 (ps.length + 1) := hv13
    repeat (first | refine a1 ?_ | refine a3 ?_ | refine a4 ?_ | refine a5 ?_ | refine a6 ?_ | refine s_fieldB ?_ | refine s_fieldV ?_ | refine s_loadB ?_ | refine s_loadH ?_ | refine s_loadR ?_ | refine s_loadBs ?_ | refine s_loadHs ?_ | refine s_len ?_ | refine s_lenR ?_ | refine s_subI ?_ | refine s_quo ?_ | refine s_index ?_ | refine s_indexR ?_ | refine a7 ?_ | refine a8 ?_ | refine a9 ?_ | refine RW.storeR rfl rfl rfl rfl (by first | rfl | (simp [allOne, cellsL, one1]; done) | (simp [allOne, cellsL, one1]; first | assumption | (refine ⟨?_, ?_⟩ <;> assumption))) rfl ?_ | refine a10 ?_ | refine RW.storeR1 rfl rfl (by first | rfl | exact IsSl.one1 (by assumption) | exact IsSl.one1 (SliceRep.isSl (by assumption))) rfl rfl ?_)
    rw [e2]
    generalize (i - 1) / 2 = u at *
    refine Runs.regionD _ _ [] (fun x hx => List.mem_cons_of_mem _ hx) (List.Sublist.refl _) (by kernel_rfl) ?_
    refine d1 0 2 ?_
    (first | refine t_fieldB 2 ?_ | refine t_fieldV 2 ?_)
    (first | refine t_loadB 3 ?_ | refine t_loadH 3 ?_ | refine t_loadR 3 ?_)
    refine d1 4 2 ?_
    (first | refine t_fieldB 6 ?_ | refine t_fieldV 6 ?_)
    (first | refine t_loadB 7 ?_ | refine t_loadH 7 ?_ | refine t_loadR 7 ?_)
    refine d2 8 ?_
    (first | refine t_index 9 ?_ | refine t_indexR 9 ?_)
    refine DW.q 10 rfl (by kernel_rfl) (QV.loadRs rfl (hla)) rfl rfl ?_
    refine d1 11 2 ?_
    (first | refine t_fieldB 13 ?_ | refine t_fieldV 13 ?_)
    (first | refine t_loadB 14 ?_ | refine t_loadH 14 ?_ | refine t_loadR 14 ?_)
    refine d2 15 ?_
    (first | refine t_index 16 ?_ | refine t_indexR 16 ?_)
    refine DW.q 17 rfl (by kernel_rfl) (QV.loadRs rfl (hlb)) rfl rfl ?_
    refine DW.callP 18 rfl (by kernel_rfl) rfl rfl (lt_c hva hvb) rfl rfl ?_
    rintro _ _ rfl
    refine d2 19 ?_
    refine DW.done (by kernel_rfl) ?_
    repeat (first | refine a1 ?_ | refine a3 ?_ | refine a4 ?_ | refine a5 ?_ | refine a6 ?_ | refine s_fieldB ?_ | refine s_fieldV ?_ | refine s_loadB ?_ | refine s_loadH ?_ | refine s_loadR ?_ | refine s_loadBs ?_ | refine s_loadHs ?_ | refine s_len ?_ | refine s_lenR ?_ | refine s_subI ?_ | refine s_quo ?_ | refine s_index ?_ | refine s_indexR ?_ | refine a7 ?_ | refine a8 ?_ | refine a9 ?_ | refine RW.storeR rfl rfl rfl rfl (by first | rfl | (simp [allOne, cellsL, one1]; done) | (simp [allOne, cellsL, one1]; first | assumption | (refine ⟨?_, ?_⟩ <;> assumption))) rfl ?_ | refine a10 ?_ | refine RW.storeR1 rfl rfl (by first | rfl | exact IsSl.one1 (by assumption) | exact IsSl.one1 (SliceRep.isSl (by assumption))) rfl rfl ?_)
    refine Runs.cond rfl (fun hn => ?_) (fun hn => ?_)
    · have hn : ¬ partLt a b := by simpa using hn
      rw [← hql]
      refine Runs.ret0 Try.func55 Try.results55 (fun w hm => hR _ w _ H _ (by simp) (Snap.le.refl _) ⟨v13, cs, q, rfl, hcs, hperm, hdone ?_⟩ hm)
      intro a' b' ha' hb'
      rw [ha] at ha'; rw [hb] at hb'
      injection ha' with ha'; injection hb' with hb'; subst ha'; subst hb'
      exact hn
    · have hn : partLt a b := by simpa using hn
      repeat (first | refine a1 ?_ | refine a3 ?_ | refine a4 ?_ | refine a5 ?_ | refine a6 ?_ | refine s_fieldB ?_ | refine s_fieldV ?_ | refine s_loadB ?_ | refine s_loadH ?_ | refine s_loadR ?_ | refine s_loadBs ?_ | refine s_loadHs ?_ | refine s_len ?_ | refine s_lenR ?_ | refine s_subI ?_ | refine s_quo ?_ | refine s_index ?_ | refine s_indexR ?_ | refine a7 ?_ | refine a8 ?_ | refine a9 ?_ | refine RW.storeR rfl rfl rfl rfl (by first | rfl | (simp [allOne, cellsL, one1]; done) | (simp [allOne, cellsL, one1]; first | assumption | (refine ⟨?_, ?_⟩ <;> assumption))) rfl ?_ | refine a10 ?_ | refine RW.storeR1 rfl rfl (by first | rfl | exact IsSl.one1 (by assumption) | exact IsSl.one1 (SliceRep.isSl (by assumption))) rfl rfl ?_)
      refine Runs.regionD _ _ [25, 26, 27] (fun x hx => List.mem_cons_of_mem _ hx) (List.Sublist.refl _) (by kernel_rfl) ?_
      refine d1 0 2 ?_
      (first | refine t_fieldB 2 ?_ | refine t_fieldV 2 ?_)
      (first | refine t_loadB 3 ?_ | refine t_loadH 3 ?_ | refine t_loadR 3 ?_)
      refine d1 4 3 ?_
      (first | refine t_fieldB 7 ?_ | refine t_fieldV 7 ?_)
      (first | refine t_loadB 8 ?_ | refine t_loadH 8 ?_ | refine t_loadR 8 ?_)
      refine d1 9 3 ?_
      (first | refine t_fieldB 12 ?_ | refine t_fieldV 12 ?_)
      (first | refine t_loadB 13 ?_ | refine t_loadH 13 ?_ | refine t_loadR 13 ?_)
      refine d2 14 ?_
      (first | refine t_index 15 ?_ | refine t_indexR 15 ?_)
      refine DW.q 16 rfl (by kernel_rfl) (QV.loadRs rfl (hlb)) rfl rfl ?_
      refine d1 17 2 ?_
      (first | refine t_fieldB 19 ?_ | refine t_fieldV 19 ?_)
      (first | refine t_loadB 20 ?_ | refine t_loadH 20 ?_ | refine t_loadR 20 ?_)
      refine d2 21 ?_
      (first | refine t_index 22 ?_ | refine t_indexR 22 ?_)
      refine DW.q 23 rfl (by kernel_rfl) (QV.loadRs rfl (hla)) rfl rfl ?_
      (first | refine t_index 24 ?_ | refine t_indexR 24 ?_)
      refine DW.storeR 25 rfl (by kernel_rfl) rfl rfl rfl hp1 rfl (by simp [allOne, cellsL, one1]; exact hvb.isSl.one1) rfl ?_
      (first | refine DW.qL 26 rfl (by kernel_rfl) rfl (QF.index rfl rfl (by first | assumption | exact SliceRep.isSl (by assumption)) rfl (by omega)).qv rfl rfl ?_ | refine DW.qL 26 rfl (by kernel_rfl) rfl (QV.indexR rfl rfl rfl (by omega)) rfl rfl ?_)
      refine DW.storeR 27 rfl (by kernel_rfl) rfl rfl rfl hp2 rfl (by simp [allOne, cellsL, one1]; exact hva.isSl.one1) rfl ?_
      refine DW.done (by kernel_rfl) ?_
      repeat (first | refine a1 ?_ | refine a3 ?_ | refine a4 ?_ | refine a5 ?_ | refine a6 ?_ | refine s_fieldB ?_ | refine s_fieldV ?_ | refine s_loadB ?_ | refine s_loadH ?_ | refine s_loadR ?_ | refine s_loadBs ?_ | refine s_loadHs ?_ | refine s_len ?_ | refine s_lenR ?_ | refine s_subI ?_ | refine s_quo ?_ | refine s_index ?_ | refine s_indexR ?_ | refine a7 ?_ | refine a8 ?_ | refine a9 ?_ | refine RW.storeR rfl rfl rfl rfl (by first | rfl | (simp [allOne, cellsL, one1]; done) | (simp [allOne, cellsL, one1]; first | assumption | (refine ⟨?_, ?_⟩ <;> assumption))) rfl ?_ | refine a10 ?_ | refine RW.storeR1 rfl rfl (by first | rfl | exact IsSl.one1 (by assumption) | exact IsSl.one1 (SliceRep.isSl (by assumption))) rfl rfl ?_)
      refine Runs.weak (ih (u, cs2, swp q i u a b) ⟨by dsimp only; omega, by dsimp only; omega, hcs2, hsp.trans hperm, hstep hn⟩ hui) (by repeat (first | exact trivial | refine And.intro rfl ?_)) (fun x hx => List.mem_cons_of_mem _ (SubH.h x hx)) (by repeat (first | exact List.nil_sublist _ | exact List.Sublist.refl _ | refine List.Sublist.cons_cons _ ?_ | refine List.Sublist.cons _ ?_))
  · have hi00 : i = 0 := by omega
    rw [← hql]
    repeat (first | refine a1 ?_ | refine a3 ?_ | refine a4 ?_ | refine a5 ?_ | refine a6 ?_ | refine s_fieldB ?_ | refine s_fieldV ?_ | refine s_loadB ?_ | refine s_loadH ?_ | refine s_loadR ?_ | refine s_loadBs ?_ | refine s_loadHs ?_ | refine s_len ?_ | refine s_lenR ?_ | refine s_subI ?_ | refine s_quo ?_ | refine s_index ?_ | refine s_indexR ?_ | refine a7 ?_ | refine a8 ?_ | refine a9 ?_ | refine RW.storeR rfl rfl rfl rfl (by first | rfl | (simp [allOne, cellsL, one1]; done) | (simp [allOne, cellsL, one1]; first | assumption | (refine ⟨?_, ?_⟩ <;> assumption))) rfl ?_ | refine a10 ?_ | refine RW.storeR1 rfl rfl (by first | rfl | exact IsSl.one1 (by assumption) | exact IsSl.one1 (SliceRep.isSl (by assumption))) rfl rfl ?_)
    refine Runs.fin0 Try.func55 Try.results55 (fun w hm => hR _ w _ H _ (by simp) (Snap.le.refl _) ⟨v13, cs, q, rfl, hcs, hperm, hup.done (.inl hi00)⟩ hm)
end Go.Proofs.Ytjdhcblofkkibaa

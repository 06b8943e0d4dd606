/-
  Whether a way is the first one of those with its cost and a beginning. Conditions: the graph is valid, the way's links are links of the graph.
-/
import Derived.Test.YtjdhcblofkkibaaPf
import Derived.Test.YtjdhcblofkkibaaSr
namespace Go.Proofs.Ytjdhcblofkkibaa
open Go Go.RowKit

def soon (gl : List Lnk) (h : List Int) (xc i cost j : Int) : Bool := decide (j < i) && (decide (tv h (lnk gl j).t ≠ -1) && decide (cost + (lnk gl j).c + tv h (lnk gl j).t ≤ xc))
def leadsR (gl : List Lnk) (h : List Int) (xc from_ : Int) : Nat → Int → List Int → Bool
  | _, _, [] => true
  | k, cost, i :: r => if from_ ≤ (k : Int) ∧ (outOf gl (lnk gl i).f).any (soon gl h xc i cost) = true then false else leadsR gl h xc from_ (k + 1) (cost + (lnk gl i).c) r

theorem sooner_c {H : Snap} {O : List Own} {N : Nat} {gl : List Lnk} {h : List Int} {vl vh vo vk vb vw : Value} {bc b1 b2 b3 b4 : Nat} {i cost xc : Int} {vx : Value} {j : Nat}
    (hg : validG N gl) (hl : SliceRep H LinkL vl gl) (hh : SliceRep H I64 vh h) (hhl : h.length = N) (hhb : ∀ j : Int, 0 ≤ j → j < N → -1 ≤ tv h j ∧ tv h j ≤ 2000000000)
    [ic : GetBlk O bc 84 [.int .i64 (N : Int), vl, vh, vo, vk, vb, vw]] [i1 : GetBlk O b1 79 [.pointer (some ⟨bc, 0, none⟩)]] [i2 : GetBlk O b2 3 [.int .i64 i]] [i3 : GetBlk O b3 3 [.int .i64 cost]] [i4 : GetBlk O b4 60 [vx, .int .i64 xc]]
    (hc : 0 ≤ cost ∧ cost ≤ 9000000000) (hj : j < gl.length) :
    Ctr Try.prog 51 #[.int .i64 (j : Int), .pointer (some ⟨b1, 0, none⟩), .pointer (some ⟨b2, 0, none⟩), .pointer (some ⟨b3, 0, none⟩), .pointer (some ⟨b4, 0, none⟩)] H O (fun _ O' r => O' = O ∧ r = .bool (soon gl h xc i cost (j : Int))) := by
  obtain ⟨hN1, hN2, hlen, hall⟩ := hg
  have hb := hl.isSl.bound
  obtain ⟨x, hx⟩ : ∃ x, gl[j]? = some x := ⟨_, List.getElem?_eq_getElem hj⟩
  have hxo := hall x (List.mem_of_getElem? hx)
  unfold okL at hxo
  obtain ⟨m, hm⟩ : ∃ m : Nat, x.t = (m : Int) := ⟨x.t.toNat, by omega⟩
  have hload : ∀ jj u, [Value.int .i64 x.f, .int .i64 x.t, .int .i64 x.lab, .int .i64 x.c][jj]? = some u → H.cell (vat vl (j * 4 + jj)) = some u := fun jj u hu => hl.flat hx hu
  rw [hm] at hload
  have hhm : H.cell (vat vh (m * 1)) = some (.int .i64 (tv h (m : Int))) := hh.flat1 (tv_at (by omega)) rfl
  have hhmb := hhb (m : Int) (by omega) (by omega)
  have hbh := hh.isSl
  unfold soon
  rw [lnk_at hx, hm]
  refine Ctr.intro Try.func51 rfl Try.ntmps51 rfl (fun E R hM hR => ?_)
  repeat (first | refine a1 ?_ | refine a3 ?_ | refine a4 ?_ | refine a5 ?_ | refine a6 ?_ | refine s_loadB ?_ | refine s_loadH ?_ | refine s_loadR ?_ | refine s_fieldB ?_ | refine s_fieldV ?_ | refine s_index ?_ | refine s_indexR ?_ | refine s_loadBs ?_ | refine s_loadHs ?_ | refine s_addI ?_ | refine a7 ?_ | refine a8 ?_ | refine a9 ?_ | refine RW.storeR rfl rfl rfl rfl (by first | rfl | (simp [allOne, cellsL, one1]; done) | (simp [allOne, cellsL, one1]; first | assumption | (refine ⟨?_, ?_⟩ <;> assumption))) rfl ?_ | refine a10 ?_ | refine RW.storeR1 rfl rfl (by first | rfl | exact IsSl.one1 (by assumption) | exact IsSl.one1 (SliceRep.isSl (by assumption))) rfl rfl ?_)
  refine RW.alloc rfl rfl rfl (fun b7 => ?_)
  repeat (first | refine a1 ?_ | refine a3 ?_ | refine a4 ?_ | refine a5 ?_ | refine a6 ?_ | refine s_loadB ?_ | refine s_loadH ?_ | refine s_loadR ?_ | refine s_fieldB ?_ | refine s_fieldV ?_ | refine s_index ?_ | refine s_indexR ?_ | refine s_loadBs ?_ | refine s_loadHs ?_ | refine s_addI ?_ | refine a7 ?_ | refine a8 ?_ | refine a9 ?_ | refine RW.storeR rfl rfl rfl rfl (by first | rfl | (simp [allOne, cellsL, one1]; done) | (simp [allOne, cellsL, one1]; first | assumption | (refine ⟨?_, ?_⟩ <;> assumption))) rfl ?_ | refine a10 ?_ | refine RW.storeR1 rfl rfl (by first | rfl | exact IsSl.one1 (by assumption) | exact IsSl.one1 (SliceRep.isSl (by assumption))) rfl rfl ?_)
  refine Runs.regionD _ _ [] (fun x hx => List.mem_cons_of_mem _ hx) (List.Sublist.refl _) (by kernel_rfl) ?_
  refine d2 0 ?_
  (first | refine t_loadB 1 ?_ | refine t_loadH 1 ?_ | refine t_loadR 1 ?_)
  refine d1 2 2 ?_
  refine DW.dec 19 rfl (fun h1 => ?_) (fun h1 => ?_)
  · (first | refine t_loadB 4 ?_ | refine t_loadH 4 ?_ | refine t_loadR 4 ?_)
    refine d2 5 ?_
    (first | refine t_fieldB 6 ?_ | refine t_fieldV 6 ?_)
    (first | refine t_loadB 7 ?_ | refine t_loadH 7 ?_ | refine t_loadR 7 ?_)
    (first | refine t_fieldB 8 ?_ | refine t_fieldV 8 ?_)
    (first | refine t_loadB 9 ?_ | refine t_loadH 9 ?_ | refine t_loadR 9 ?_)
    (first | refine t_index 10 ?_ | refine t_indexR 10 ?_)
    (first | refine t_loadB 11 ?_ | refine t_loadH 11 ?_ | refine t_loadR 11 ?_)
    refine d1 12 3 ?_
    refine DW.dec 30 rfl (fun h2 => ?_) (fun h2 => ?_)
    · (first | refine t_loadB 15 ?_ | refine t_loadH 15 ?_ | refine t_loadR 15 ?_)
      (first | refine t_fieldB 16 ?_ | refine t_fieldV 16 ?_)
      (first | refine t_loadB 17 ?_ | refine t_loadH 17 ?_ | refine t_loadR 17 ?_)
      refine t_addI 18 ?_
      (first | refine t_loadB 19 ?_ | refine t_loadH 19 ?_ | refine t_loadR 19 ?_)
      refine d2 20 ?_
      (first | refine t_fieldB 21 ?_ | refine t_fieldV 21 ?_)
      (first | refine t_loadB 22 ?_ | refine t_loadH 22 ?_ | refine t_loadR 22 ?_)
      (first | refine t_fieldB 23 ?_ | refine t_fieldV 23 ?_)
      (first | refine t_loadB 24 ?_ | refine t_loadH 24 ?_ | refine t_loadR 24 ?_)
      (first | refine t_index 25 ?_ | refine t_indexR 25 ?_)
      (first | refine t_loadB 26 ?_ | refine t_loadH 26 ?_ | refine t_loadR 26 ?_)
      refine t_addI 27 ?_
      (first | refine t_fieldB 28 ?_ | refine t_fieldV 28 ?_)
      (first | refine t_loadB 29 ?_ | refine t_loadH 29 ?_ | refine t_loadR 29 ?_)
      refine d1 30 3 ?_
      refine DW.done (by kernel_rfl) ?_
      repeat (first | refine a1 ?_ | refine a3 ?_ | refine a4 ?_ | refine a5 ?_ | refine a6 ?_ | refine s_loadB ?_ | refine s_loadH ?_ | refine s_loadR ?_ | refine s_fieldB ?_ | refine s_fieldV ?_ | refine s_index ?_ | refine s_indexR ?_ | refine s_loadBs ?_ | refine s_loadHs ?_ | refine s_addI ?_ | refine a7 ?_ | refine a8 ?_ | refine a9 ?_ | refine RW.storeR rfl rfl rfl rfl (by first | rfl | (simp [allOne, cellsL, one1]; done) | (simp [allOne, cellsL, one1]; first | assumption | (refine ⟨?_, ?_⟩ <;> assumption))) rfl ?_ | refine a10 ?_ | refine RW.storeR1 rfl rfl (by first | rfl | exact IsSl.one1 (by assumption) | exact IsSl.one1 (SliceRep.isSl (by assumption))) rfl rfl ?_)
      refine Runs.ret1 Try.func51 Try.results51 rfl (fun w hm => hR _ w _ H _ (by simp) (Snap.le.refl _) ⟨rfl, ?_⟩ (hm.sub (fun x hx => List.mem_cons_of_mem _ hx) (List.sublist_cons_self ..)))
      rw [decide_eq_true h1, decide_eq_true h2]; simp
    · refine d3 15 ?_
      refine d3 16 ?_
      refine d3 17 ?_
      refine d3 18 ?_
      refine d3 19 ?_
      refine d3 20 ?_
      refine d3 21 ?_
      refine d3 22 ?_
      refine d3 23 ?_
      refine d3 24 ?_
      refine d3 25 ?_
      refine d3 26 ?_
      refine d3 27 ?_
      refine d3 28 ?_
      refine d3 29 ?_
      refine d3 30 ?_
      refine d1 31 2 ?_
      refine DW.done (by kernel_rfl) ?_
      repeat (first | refine a1 ?_ | refine a3 ?_ | refine a4 ?_ | refine a5 ?_ | refine a6 ?_ | refine s_loadB ?_ | refine s_loadH ?_ | refine s_loadR ?_ | refine s_fieldB ?_ | refine s_fieldV ?_ | refine s_index ?_ | refine s_indexR ?_ | refine s_loadBs ?_ | refine s_loadHs ?_ | refine s_addI ?_ | refine a7 ?_ | refine a8 ?_ | refine a9 ?_ | refine RW.storeR rfl rfl rfl rfl (by first | rfl | (simp [allOne, cellsL, one1]; done) | (simp [allOne, cellsL, one1]; first | assumption | (refine ⟨?_, ?_⟩ <;> assumption))) rfl ?_ | refine a10 ?_ | refine RW.storeR1 rfl rfl (by first | rfl | exact IsSl.one1 (by assumption) | exact IsSl.one1 (SliceRep.isSl (by assumption))) rfl rfl ?_)
      refine Runs.ret1 Try.func51 Try.results51 rfl (fun w hm => hR _ w _ H _ (by simp) (Snap.le.refl _) ⟨rfl, ?_⟩ (hm.sub (fun x hx => List.mem_cons_of_mem _ hx) (List.sublist_cons_self ..)))
      rw [decide_eq_false h2]; simp
  · refine d3 4 ?_
    refine d3 5 ?_
    refine d3 6 ?_
    refine d3 7 ?_
    refine d3 8 ?_
    refine d3 9 ?_
    refine d3 10 ?_
    refine d3 11 ?_
    refine d3 12 ?_
    refine d1 13 2 ?_
    refine d3 15 ?_
    refine d3 16 ?_
    refine d3 17 ?_
    refine d3 18 ?_
    refine d3 19 ?_
    refine d3 20 ?_
    refine d3 21 ?_
    refine d3 22 ?_
    refine d3 23 ?_
    refine d3 24 ?_
    refine d3 25 ?_
    refine d3 26 ?_
    refine d3 27 ?_
    refine d3 28 ?_
    refine d3 29 ?_
    refine d3 30 ?_
    refine d1 31 2 ?_
    refine DW.done (by kernel_rfl) ?_
    repeat (first | refine a1 ?_ | refine a3 ?_ | refine a4 ?_ | refine a5 ?_ | refine a6 ?_ | refine s_loadB ?_ | refine s_loadH ?_ | refine s_loadR ?_ | refine s_fieldB ?_ | refine s_fieldV ?_ | refine s_index ?_ | refine s_indexR ?_ | refine s_loadBs ?_ | refine s_loadHs ?_ | refine s_addI ?_ | refine a7 ?_ | refine a8 ?_ | refine a9 ?_ | refine RW.storeR rfl rfl rfl rfl (by first | rfl | (simp [allOne, cellsL, one1]; done) | (simp [allOne, cellsL, one1]; first | assumption | (refine ⟨?_, ?_⟩ <;> assumption))) rfl ?_ | refine a10 ?_ | refine RW.storeR1 rfl rfl (by first | rfl | exact IsSl.one1 (by assumption) | exact IsSl.one1 (SliceRep.isSl (by assumption))) rfl rfl ?_)
    refine Runs.ret1 Try.func51 Try.results51 rfl (fun w hm => hR _ w _ H _ (by simp) (Snap.le.refl _) ⟨rfl, ?_⟩ (hm.sub (fun x hx => List.mem_cons_of_mem _ hx) (List.sublist_cons_self ..)))
    rw [decide_eq_false h1]; simp

set_option maxHeartbeats 1000000 in
theorem leads_c {H : Snap} {O : List Own} {N : Nat} {gl : List Lnk} {h : List Int} {vl vh vo vk vb vw : Value} {bc : Nat} {from_ : Int} {x : Cand} {vx : Value}
    (hg : validG N gl) (hl : SliceRep H LinkL vl gl) (hh : SliceRep H I64 vh h) (hvo : SliceRep H (SlL I64) vo (outsOf N gl)) (hhl : h.length = N) (hhb : ∀ j : Int, 0 ≤ j → j < N → -1 ≤ tv h j ∧ tv h j ≤ 2000000000)
    [ic : GetBlk O bc 84 [.int .i64 (N : Int), vl, vh, vo, vk, vb, vw]] (hx : SliceRep H I64 vx x.links) (hxl : x.links.length ≤ 2000) (hxi : ∀ i ∈ x.links, 0 ≤ i ∧ i < gl.length) :
    Ctr Try.prog 41 #[.pointer (some ⟨bc, 0, none⟩), .agg #[vx, .int .i64 x.cost], .int .i64 from_] H O (fun _ O' r => O' = O ∧ r = .bool (leadsR gl h x.cost from_ 0 0 x.links)) := by
  have hg' := hg
  obtain ⟨hN1, hN2, hlen, hall⟩ := hg
  have hbx := hx.isSl.bound
  have hbo := hvo.isSl
  rw [outsOf_length] at hbo
  refine Ctr.intro Try.func41 rfl Try.ntmps41 rfl (fun E R hM hR => ?_)
  repeat (first | refine a1 ?_ | refine a3 ?_ | refine a4 ?_ | refine a5 ?_ | refine a6 ?_ | refine s_fieldB ?_ | refine s_fieldV ?_ | refine s_loadB ?_ | refine s_loadH ?_ | refine s_loadR ?_ | refine s_len ?_ | refine s_lenR ?_ | refine s_index ?_ | refine s_indexR ?_ | refine s_loadBs ?_ | refine s_loadHs ?_ | refine s_makeFunc ?_ | refine s_addI ?_ | refine a7 ?_ | refine a8 ?_ | refine a9 ?_ | refine RW.storeR rfl rfl rfl rfl (by first | rfl | (simp [allOne, cellsL, one1]; done) | (simp [allOne, cellsL, one1]; first | assumption | (refine ⟨?_, ?_⟩ <;> assumption))) rfl ?_ | refine a10 ?_ | refine RW.storeR1 rfl rfl (by first | rfl | exact IsSl.one1 (by assumption) | exact IsSl.one1 (SliceRep.isSl (by assumption))) rfl rfl ?_)
  refine RW.box rfl rfl rfl rfl (fun b3 => ?_)
  refine RW.box rfl rfl rfl rfl (fun b4 => ?_)
  repeat (first | refine a1 ?_ | refine a3 ?_ | refine a4 ?_ | refine a5 ?_ | refine a6 ?_ | refine s_fieldB ?_ | refine s_fieldV ?_ | refine s_loadB ?_ | refine s_loadH ?_ | refine s_loadR ?_ | refine s_len ?_ | refine s_lenR ?_ | refine s_index ?_ | refine s_indexR ?_ | refine s_loadBs ?_ | refine s_loadHs ?_ | refine s_makeFunc ?_ | refine s_addI ?_ | refine a7 ?_ | refine a8 ?_ | refine a9 ?_ | refine RW.storeR rfl rfl rfl rfl (by first | rfl | (simp [allOne, cellsL, one1]; done) | (simp [allOne, cellsL, one1]; first | assumption | (refine ⟨?_, ?_⟩ <;> assumption))) rfl ?_ | refine a10 ?_ | refine RW.storeR1 rfl rfl (by first | rfl | exact IsSl.one1 (by assumption) | exact IsSl.one1 (SliceRep.isSl (by assumption))) rfl rfl ?_)
  refine RW.alloc rfl rfl rfl (fun b7 => ?_)
  repeat (first | refine a1 ?_ | refine a3 ?_ | refine a4 ?_ | refine a5 ?_ | refine a6 ?_ | refine s_fieldB ?_ | refine s_fieldV ?_ | refine s_loadB ?_ | refine s_loadH ?_ | refine s_loadR ?_ | refine s_len ?_ | refine s_lenR ?_ | refine s_index ?_ | refine s_indexR ?_ | refine s_loadBs ?_ | refine s_loadHs ?_ | refine s_makeFunc ?_ | refine s_addI ?_ | refine a7 ?_ | refine a8 ?_ | refine a9 ?_ | refine RW.storeR rfl rfl rfl rfl (by first | rfl | (simp [allOne, cellsL, one1]; done) | (simp [allOne, cellsL, one1]; first | assumption | (refine ⟨?_, ?_⟩ <;> assumption))) rfl ?_ | refine a10 ?_ | refine RW.storeR1 rfl rfl (by first | rfl | exact IsSl.one1 (by assumption) | exact IsSl.one1 (SliceRep.isSl (by assumption))) rfl rfl ?_)
  refine Runs.loop (fun (s : Nat × Int) => s.1 ≤ x.links.length ∧ 0 ≤ s.2 ∧ s.2 ≤ s.1 * 1000000 ∧ leadsR gl h x.cost from_ 0 0 x.links = leadsR gl h x.cost from_ s.1 s.2 (x.links.drop s.1)) (fun s => x.links.length - s.1) (fun _ => [H])
    (fun s => .blk b7 3 [.int .i64 s.2] :: .blk b4 60 [vx, .int .i64 x.cost] :: .blk b3 79 [.pointer (some ⟨bc, 0, none⟩)] :: O)
    (fun s => [(2, .int .i64 from_), (3, .pointer (some ⟨b3, 0, none⟩)), (4, .pointer (some ⟨b4, 0, none⟩)), (7, .pointer (some ⟨b7, 0, none⟩)), (13, vx), (14, .int .i64 (x.links.length : Int)), (15, .int .i64 (s.1 : Int))]) (0, 0) ⟨Nat.zero_le _, by simp, by simp, rfl⟩ (fun h => by
      refine Runs.weak (h) (by repeat (first | exact trivial | refine And.intro rfl ?_)) (fun x hx => List.mem_cons_of_mem _ (SubH.h x hx)) (by repeat (first | exact List.nil_sublist _ | exact List.Sublist.refl _ | refine List.Sublist.cons_cons _ ?_ | refine List.Sublist.cons _ ?_))) ?_
  rintro ⟨k, cost⟩ ⟨hk, hc0, hc1, hI⟩ ih
  dsimp only at hk hc0 hc1 hI ⊢
  repeat (first | refine a1 ?_ | refine a3 ?_ | refine a4 ?_ | refine a5 ?_ | refine a6 ?_ | refine s_fieldB ?_ | refine s_fieldV ?_ | refine s_loadB ?_ | refine s_loadH ?_ | refine s_loadR ?_ | refine s_len ?_ | refine s_lenR ?_ | refine s_index ?_ | refine s_indexR ?_ | refine s_loadBs ?_ | refine s_loadHs ?_ | refine s_makeFunc ?_ | refine s_addI ?_ | refine a7 ?_ | refine a8 ?_ | refine a9 ?_ | refine RW.storeR rfl rfl rfl rfl (by first | rfl | (simp [allOne, cellsL, one1]; done) | (simp [allOne, cellsL, one1]; first | assumption | (refine ⟨?_, ?_⟩ <;> assumption))) rfl ?_ | refine a10 ?_ | refine RW.storeR1 rfl rfl (by first | rfl | exact IsSl.one1 (by assumption) | exact IsSl.one1 (SliceRep.isSl (by assumption))) rfl rfl ?_)
  refine Runs.cond_d rfl (fun hlt => ?_) (fun hlt => ?_)
  · obtain ⟨i, hi⟩ : ∃ i, x.links[k]? = some i := ⟨_, List.getElem?_eq_getElem (by omega)⟩
    have hib := hxi i (List.mem_of_getElem? hi)
    obtain ⟨i, rfl⟩ : ∃ m : Nat, i = (m : Int) := ⟨i.toNat, by omega⟩
    obtain ⟨l, hl1⟩ : ∃ l, gl[i]? = some l := ⟨_, List.getElem?_eq_getElem (by omega)⟩
    have hlo := hall l (List.mem_of_getElem? hl1)
    unfold okL at hlo
    obtain ⟨n, hn⟩ : ∃ n : Nat, l.f = (n : Int) := ⟨l.f.toNat, by omega⟩
    have hload : ∀ jj u, [Value.int .i64 l.f, .int .i64 l.t, .int .i64 l.lab, .int .i64 l.c][jj]? = some u → H.cell (vat vl (i * 4 + jj)) = some u := fun jj u hu => hl.flat hl1 hu
    rw [hn] at hload
    obtain ⟨vm, hvm, hcm⟩ := hvo.sl (outsOf_at (N := N) (gl := gl) (i := n) (by omega))
    rw [drop_cons_of hi, leadsR, lnk_at hl1, hn] at hI
    repeat (first | refine a1 ?_ | refine a3 ?_ | refine a4 ?_ | refine a5 ?_ | refine a6 ?_ | refine s_fieldB ?_ | refine s_fieldV ?_ | refine s_loadB ?_ | refine s_loadH ?_ | refine s_loadR ?_ | refine s_len ?_ | refine s_lenR ?_ | refine s_index ?_ | refine s_indexR ?_ | refine s_loadBs ?_ | refine s_loadHs ?_ | refine s_makeFunc ?_ | refine s_addI ?_ | refine a7 ?_ | refine a8 ?_ | refine a9 ?_ | refine RW.storeR rfl rfl rfl rfl (by first | rfl | (simp [allOne, cellsL, one1]; done) | (simp [allOne, cellsL, one1]; first | assumption | (refine ⟨?_, ?_⟩ <;> assumption))) rfl ?_ | refine a10 ?_ | refine RW.storeR1 rfl rfl (by first | rfl | exact IsSl.one1 (by assumption) | exact IsSl.one1 (SliceRep.isSl (by assumption))) rfl rfl ?_)
    refine RW.alloc rfl rfl rfl (fun b9 => ?_)
    repeat (first | refine a1 ?_ | refine a3 ?_ | refine a4 ?_ | refine a5 ?_ | refine a6 ?_ | refine s_fieldB ?_ | refine s_fieldV ?_ | refine s_loadB ?_ | refine s_loadH ?_ | refine s_loadR ?_ | refine s_len ?_ | refine s_lenR ?_ | refine s_index ?_ | refine s_indexR ?_ | refine s_loadBs ?_ | refine s_loadHs ?_ | refine s_makeFunc ?_ | refine s_addI ?_ | refine a7 ?_ | refine a8 ?_ | refine a9 ?_ | refine RW.storeR rfl rfl rfl rfl (by first | rfl | (simp [allOne, cellsL, one1]; done) | (simp [allOne, cellsL, one1]; first | assumption | (refine ⟨?_, ?_⟩ <;> assumption))) rfl ?_ | refine a10 ?_ | refine RW.storeR1 rfl rfl (by first | rfl | exact IsSl.one1 (by assumption) | exact IsSl.one1 (SliceRep.isSl (by assumption))) rfl rfl ?_)
    refine Runs.regionD _ _ [9] (fun x hx => List.mem_cons_of_mem _ hx) (List.Sublist.refl _) (by kernel_rfl) ?_
    (first | refine t_loadB 0 ?_ | refine t_loadH 0 ?_ | refine t_loadR 0 ?_)
    refine d2 1 ?_
    (first | refine t_fieldB 2 ?_ | refine t_fieldV 2 ?_)
    (first | refine t_fieldB 3 ?_ | refine t_fieldV 3 ?_)
    (first | refine t_loadB 4 ?_ | refine t_loadH 4 ?_ | refine t_loadR 4 ?_)
    (first | refine t_loadB 5 ?_ | refine t_loadH 5 ?_ | refine t_loadR 5 ?_)
    (first | refine t_index 6 ?_ | refine t_indexR 6 ?_)
    (first | refine t_loadBs 7 ?_ | refine t_loadHs 7 ?_)
    refine DW.alloc 8 rfl (by kernel_rfl) rfl rfl rfl (fun b10 => ?_)
    (first | refine DW.storeB 9 rfl (by kernel_rfl) rfl rfl rfl rfl (by first | rfl | (simp [allOne, cellsL, one1]; done) | (simp [allOne, cellsL, one1]; first | assumption | (refine ⟨?_, ?_⟩ <;> assumption))) rfl ?_ | refine DW.storeB1 9 rfl (by kernel_rfl) rfl rfl rfl (by first | rfl | exact IsSl.one1 (by assumption) | exact IsSl.one1 (SliceRep.isSl (by assumption))) rfl rfl ?_)
    refine DW.done (by kernel_rfl) ?_
    repeat (first | refine a1 ?_ | refine a3 ?_ | refine a4 ?_ | refine a5 ?_ | refine a6 ?_ | refine s_fieldB ?_ | refine s_fieldV ?_ | refine s_loadB ?_ | refine s_loadH ?_ | refine s_loadR ?_ | refine s_len ?_ | refine s_lenR ?_ | refine s_index ?_ | refine s_indexR ?_ | refine s_loadBs ?_ | refine s_loadHs ?_ | refine s_makeFunc ?_ | refine s_addI ?_ | refine a7 ?_ | refine a8 ?_ | refine a9 ?_ | refine RW.storeR rfl rfl rfl rfl (by first | rfl | (simp [allOne, cellsL, one1]; done) | (simp [allOne, cellsL, one1]; first | assumption | (refine ⟨?_, ?_⟩ <;> assumption))) rfl ?_ | refine a10 ?_ | refine RW.storeR1 rfl rfl (by first | rfl | exact IsSl.one1 (by assumption) | exact IsSl.one1 (SliceRep.isSl (by assumption))) rfl rfl ?_)
    refine Runs.regionD _ _ [] (fun x hx => List.mem_cons_of_mem _ hx) (List.Sublist.refl _) (by kernel_rfl) ?_
    refine d1 0 4 ?_
    refine DW.dec 32 rfl (fun hf => ?_) (fun hf => ?_)
    · (first | refine t_loadB 4 ?_ | refine t_loadH 4 ?_ | refine t_loadR 4 ?_)
      refine d2 5 ?_
      (first | refine t_fieldB 6 ?_ | refine t_fieldV 6 ?_)
      (first | refine t_loadB 7 ?_ | refine t_loadH 7 ?_ | refine t_loadR 7 ?_)
      (first | refine t_fieldB 8 ?_ | refine t_fieldV 8 ?_)
      (first | refine t_loadB 9 ?_ | refine t_loadH 9 ?_ | refine t_loadR 9 ?_)
      (first | refine t_index 10 ?_ | refine t_indexR 10 ?_)
      (first | refine t_loadB 11 ?_ | refine t_loadH 11 ?_ | refine t_loadR 11 ?_)
      refine d2 12 ?_
      refine DW.callL 13 (cap := []) rfl (by kernel_rfl) rfl rfl (cfunc_c (q := soon gl h x.cost (i : Int) cost) hvm (fun H' j hle' hj => ?_)) (List.Sublist.refl _) rfl rfl ?_
      · obtain ⟨j, lj, rfl, hj1, _, _⟩ := outOf_mem hj
        exact sooner_c hg' (hl.mono hle') (hh.mono hle') hhl hhb (by omega) (List.getElem?_eq_some_iff.1 hj1).1
      rintro _ H2 rfl hle2
      refine d2 14 ?_
      refine DW.done (by kernel_rfl) ?_
      cases e : (outOf gl (n : Int)).any (soon gl h x.cost (i : Int) cost) with
      | true =>
        rw [if_pos ⟨hf, e⟩] at hI
        repeat (first | refine a1 ?_ | refine a3 ?_ | refine a4 ?_ | refine a5 ?_ | refine a6 ?_ | refine s_fieldB ?_ | refine s_fieldV ?_ | refine s_loadB ?_ | refine s_loadH ?_ | refine s_loadR ?_ | refine s_len ?_ | refine s_lenR ?_ | refine s_index ?_ | refine s_indexR ?_ | refine s_loadBs ?_ | refine s_loadHs ?_ | refine s_makeFunc ?_ | refine s_addI ?_ | refine a7 ?_ | refine a8 ?_ | refine a9 ?_ | refine RW.storeR rfl rfl rfl rfl (by first | rfl | (simp [allOne, cellsL, one1]; done) | (simp [allOne, cellsL, one1]; first | assumption | (refine ⟨?_, ?_⟩ <;> assumption))) rfl ?_ | refine a10 ?_ | refine RW.storeR1 rfl rfl (by first | rfl | exact IsSl.one1 (by assumption) | exact IsSl.one1 (SliceRep.isSl (by assumption))) rfl rfl ?_)
        refine Runs.ret1 Try.func41 Try.results41 rfl (fun w hm => hR _ w _ H _ (by simp) (Snap.le.refl _) ⟨rfl, by rw [hI]⟩ (hm.sub (fun x hx => List.mem_cons_of_mem _ hx) (List.Sublist.cons _ (List.Sublist.cons _ (List.Sublist.cons _ (List.Sublist.cons _ (List.sublist_cons_self ..)))))))
      | false =>
        rw [if_neg (fun h => by rw [e] at h; cases h.2)] at hI
        repeat (first | refine a1 ?_ | refine a3 ?_ | refine a4 ?_ | refine a5 ?_ | refine a6 ?_ | refine s_fieldB ?_ | refine s_fieldV ?_ | refine s_loadB ?_ | refine s_loadH ?_ | refine s_loadR ?_ | refine s_len ?_ | refine s_lenR ?_ | refine s_index ?_ | refine s_indexR ?_ | refine s_loadBs ?_ | refine s_loadHs ?_ | refine s_makeFunc ?_ | refine s_addI ?_ | refine a7 ?_ | refine a8 ?_ | refine a9 ?_ | refine RW.storeR rfl rfl rfl rfl (by first | rfl | (simp [allOne, cellsL, one1]; done) | (simp [allOne, cellsL, one1]; first | assumption | (refine ⟨?_, ?_⟩ <;> assumption))) rfl ?_ | refine a10 ?_ | refine RW.storeR1 rfl rfl (by first | rfl | exact IsSl.one1 (by assumption) | exact IsSl.one1 (SliceRep.isSl (by assumption))) rfl rfl ?_)
        refine Runs.weak (ih (k + 1, cost + l.c) ⟨by dsimp only; omega, by dsimp only; omega, by dsimp only; omega, hI⟩ (by dsimp only; omega)) (by repeat (first | exact trivial | refine And.intro rfl ?_)) (fun x hx => List.mem_cons_of_mem _ (SubH.h x hx)) (by repeat (first | exact List.nil_sublist _ | exact List.Sublist.refl _ | refine List.Sublist.cons_cons _ ?_ | refine List.Sublist.cons _ ?_))
    · rw [if_neg (fun h => hf h.1)] at hI
      refine d3 4 ?_
      refine d3 5 ?_
      refine d3 6 ?_
      refine d3 7 ?_
      refine d3 8 ?_
      refine d3 9 ?_
      refine d3 10 ?_
      refine d3 11 ?_
      refine d3 12 ?_
      refine d3 13 ?_
      refine d2 14 ?_
      refine DW.done (by kernel_rfl) ?_
      repeat (first | refine a1 ?_ | refine a3 ?_ | refine a4 ?_ | refine a5 ?_ | refine a6 ?_ | refine s_fieldB ?_ | refine s_fieldV ?_ | refine s_loadB ?_ | refine s_loadH ?_ | refine s_loadR ?_ | refine s_len ?_ | refine s_lenR ?_ | refine s_index ?_ | refine s_indexR ?_ | refine s_loadBs ?_ | refine s_loadHs ?_ | refine s_makeFunc ?_ | refine s_addI ?_ | refine a7 ?_ | refine a8 ?_ | refine a9 ?_ | refine RW.storeR rfl rfl rfl rfl (by first | rfl | (simp [allOne, cellsL, one1]; done) | (simp [allOne, cellsL, one1]; first | assumption | (refine ⟨?_, ?_⟩ <;> assumption))) rfl ?_ | refine a10 ?_ | refine RW.storeR1 rfl rfl (by first | rfl | exact IsSl.one1 (by assumption) | exact IsSl.one1 (SliceRep.isSl (by assumption))) rfl rfl ?_)
      refine Runs.weak (ih (k + 1, cost + l.c) ⟨by dsimp only; omega, by dsimp only; omega, by dsimp only; omega, hI⟩ (by dsimp only; omega)) (by repeat (first | exact trivial | refine And.intro rfl ?_)) (fun x hx => List.mem_cons_of_mem _ (SubH.h x hx)) (by repeat (first | exact List.nil_sublist _ | exact List.Sublist.refl _ | refine List.Sublist.cons_cons _ ?_ | refine List.Sublist.cons _ ?_))
  · have hkl : x.links.drop k = [] := List.drop_eq_nil_of_le (by omega)
    rw [hkl, leadsR] at hI
    repeat (first | refine a1 ?_ | refine a3 ?_ | refine a4 ?_ | refine a5 ?_ | refine a6 ?_ | refine s_fieldB ?_ | refine s_fieldV ?_ | refine s_loadB ?_ | refine s_loadH ?_ | refine s_loadR ?_ | refine s_len ?_ | refine s_lenR ?_ | refine s_index ?_ | refine s_indexR ?_ | refine s_loadBs ?_ | refine s_loadHs ?_ | refine s_makeFunc ?_ | refine s_addI ?_ | refine a7 ?_ | refine a8 ?_ | refine a9 ?_ | refine RW.storeR rfl rfl rfl rfl (by first | rfl | (simp [allOne, cellsL, one1]; done) | (simp [allOne, cellsL, one1]; first | assumption | (refine ⟨?_, ?_⟩ <;> assumption))) rfl ?_ | refine a10 ?_ | refine RW.storeR1 rfl rfl (by first | rfl | exact IsSl.one1 (by assumption) | exact IsSl.one1 (SliceRep.isSl (by assumption))) rfl rfl ?_)
    refine Runs.ret1 Try.func41 Try.results41 rfl (fun w hm => hR _ w _ H _ (by simp) (Snap.le.refl _) ⟨rfl, by rw [hI]⟩ (hm.sub (fun x hx => List.mem_cons_of_mem _ hx) (List.Sublist.cons _ (List.Sublist.cons _ (List.sublist_cons_self ..)))))
end Go.Proofs.Ytjdhcblofkkibaa

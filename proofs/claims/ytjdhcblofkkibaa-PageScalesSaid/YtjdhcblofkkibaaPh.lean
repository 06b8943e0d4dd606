/-
  The check of pages: what it computes, and its contract. Conditions: a page of at most 1000000 candidates.
-/
import Derived.Test.YtjdhcblofkkibaaPg
namespace Go.Proofs.Ytjdhcblofkkibaa
open Go Go.RowKit

def laterR (x : Cand) (y : Int × List Int) : Bool :=
  if y.1 ≠ x.cost then decide (x.cost < y.1) else decide (0 ≤ lexCmp (y.2.take (min y.2.length x.links.length)) (x.links.take (min y.2.length x.links.length)))
def stepC (x : Cand) (from_ : Int) (y : Int × List Int) : Bool × Int :=
  (laterR x y, if y.2 = x.links.take (min y.2.length x.links.length) then (y.2.length : Int) else from_)
def hasK (known : List Cand) (p : List Int) : Bool := decide (p = [] ∨ ∃ x ∈ known, p <+: x.links)
def whK (known : List Cand) (p : List Int) : Bool := decide (∃ x ∈ known, p = x.links)
def leftL (gl : List Lnk) (h : List Int) (N : Nat) (known : List Cand) : List (Int × List Int) := visitL gl h N (hasK known) (whK known) N [] 0 0
def accR (gl : List Lnk) (h : List Int) (N : Nat) (known : List Cand) (x : Cand) : Prop :=
  costOf N gl x.links = some x.cost ∧ (runY (stepC x) (leftL gl h N known) (-1)).1 = true ∧ (runY (stepC x) (leftL gl h N known) (-1)).2 ≠ -1 ∧ leadsR gl h x.cost (runY (stepC x) (leftL gl h N known) (-1)).2 0 0 x.links = true
instance (gl : List Lnk) (h : List Int) (N : Nat) (known : List Cand) (x : Cand) : Decidable (accR gl h N known x) := inferInstanceAs (Decidable (_ ∧ _))
def checkN (gl : List Lnk) (h : List Int) (N : Nat) : List Cand → List Cand → Nat
  | known, [] => known.length
  | known, x :: r => if accR gl h N known x then checkN gl h N (known ++ [x]) r else known.length
/-- What Check returns: how many candidates it accepts, and the error. -/
def checkR (N : Int) (gl : List Lnk) (h : List Int) (L : List Cand) (w : Bool) : Int × Int :=
  if ¬ validG N gl then (0, 150) else if ¬ rightP N gl h then (-1, 160) else
    if checkN gl h N.toNat [] L < L.length ∨ (leftL gl h N.toNat (L.take (checkN gl h N.toNat [] L))).isEmpty ≠ w then (((checkN gl h N.toNat [] L : Nat) : Int), 160) else (((checkN gl h N.toNat [] L : Nat) : Int), 0)
theorem Grow.known {T W : AT} {known : List Cand} {x : Cand} (h : Grow T W x.links) (h1 : T.has = hasK known) (h2 : T.isWh = whK known) : W.has = hasK (known ++ [x]) ∧ W.isWh = whK (known ++ [x]) := by
  refine ⟨funext fun p => ?_, funext fun p => ?_⟩
  · rw [Bool.eq_iff_iff, h.1 p, h1]
    simp only [hasK, decide_eq_true_eq, List.mem_append, List.mem_singleton]
    constructor
    · rintro ((h | ⟨y, hy, hp⟩) | h)
      · exact .inl h
      · exact .inr ⟨y, .inl hy, hp⟩
      · exact .inr ⟨x, .inr rfl, h⟩
    · rintro (h | ⟨y, hy | rfl, hp⟩)
      · exact .inl (.inl h)
      · exact .inl (.inr ⟨y, hy, hp⟩)
      · exact .inr hp
  · rw [Bool.eq_iff_iff, h.2 p, h2]
    simp only [whK, decide_eq_true_eq, List.mem_append, List.mem_singleton]
    constructor
    · rintro (⟨y, hy, hp⟩ | h)
      · exact ⟨y, .inl hy, hp⟩
      · exact ⟨x, .inr rfl, h⟩
    · rintro ⟨y, hy | rfl, hp⟩
      · exact .inl ⟨y, hy, hp⟩
      · exact .inr hp

theorem check3_c {H : Snap} {O : List Own} {c : Int} {v : Value} : Ctr Try.prog 43 #[.int .i64 c, v] H O (fun _ O' r => O' = O ∧ r = .bool false) := by
  refine Ctr.intro Try.func43 rfl Try.ntmps43 rfl (fun E R hM hR => ?_)
  repeat (first | refine a1 ?_ | refine a3 ?_ | refine a4 ?_ | refine a5 ?_ | refine a6 ?_ | refine a7 ?_ | refine a8 ?_)
  refine Runs.ret1 Try.func43 Try.results43 rfl (fun w hm => hR _ w _ H _ (List.mem_cons_self ..) (Snap.le.refl _) ?_ hm)
  exact ⟨rfl, rfl⟩

theorem check1_c {H : Snap} {O : List Own} {c : Int} {v vx : Value} {b : List Int} {x : Cand} {b11 b12 : Nat} (hv : SliceRep H I64 v b) (hx : SliceRep H I64 vx x.links) [i1 : GetBlk O b11 60 [vx, .int .i64 x.cost]] [i2 : GetBlk O b12 3 [.int .i64 x.cost]] :
    Ctr Try.prog 37 #[.int .i64 c, v, .pointer (some ⟨b12, 0, none⟩), .pointer (some ⟨b11, 0, none⟩)] H O (fun _ O' r => O' = O ∧ r = .bool (laterR x (c, b))) := by
  have hbv := hv.isSl.bound
  have hbx := hx.isSl.bound
  unfold laterR
  refine Ctr.intro Try.func37 rfl Try.ntmps37 rfl (fun E R hM hR => ?_)
  repeat (first | refine a1 ?_ | refine a3 ?_ | refine a4 ?_ | refine a5 ?_ | refine a6 ?_ | refine s_loadB ?_ | refine s_loadH ?_ | refine s_loadR ?_ | refine s_len ?_ | refine s_lenR ?_ | refine s_fieldB ?_ | refine s_fieldV ?_ | refine s_min ?_ | refine s_sliceHi ?_ | refine a7 ?_ | refine a8 ?_)
  refine Runs.cond_d rfl (fun hne => ?_) (fun hne => ?_)
  · repeat (first | refine a1 ?_ | refine a3 ?_ | refine a4 ?_ | refine a5 ?_ | refine a6 ?_ | refine s_loadB ?_ | refine s_loadH ?_ | refine s_loadR ?_ | refine s_len ?_ | refine s_lenR ?_ | refine s_fieldB ?_ | refine s_fieldV ?_ | refine s_min ?_ | refine s_sliceHi ?_ | refine a7 ?_ | refine a8 ?_)
    refine Runs.ret1 Try.func37 Try.results37 rfl (fun w hm => hR _ w _ H _ (List.mem_cons_self ..) (Snap.le.refl _) ?_ hm)
    dsimp only
    rw [if_pos hne]
    exact ⟨rfl, rfl⟩
  · dsimp only at hR
    rw [if_neg hne] at hR
    repeat (first | refine a1 ?_ | refine a3 ?_ | refine a4 ?_ | refine a5 ?_ | refine a6 ?_ | refine s_loadB ?_ | refine s_loadH ?_ | refine s_loadR ?_ | refine s_len ?_ | refine s_lenR ?_ | refine s_fieldB ?_ | refine s_fieldV ?_ | refine s_min ?_ | refine s_sliceHi ?_ | refine a7 ?_ | refine a8 ?_)
    rw [min_ite]
    have hm1 : min b.length x.links.length ≤ b.length := Nat.min_le_left ..
    have hm2 : min b.length x.links.length ≤ x.links.length := Nat.min_le_right ..
    generalize min b.length x.links.length = m at hm1 hm2 hR ⊢
    have h1 := hv.slv (s := 1) (lo := 0) (hi := m) (mx := capOf v) rfl (Nat.zero_le _) hm1 (Nat.le_trans hm1 hv.capOf_le) (Nat.le_refl _)
    have h2 := hx.slv (s := 1) (lo := 0) (hi := m) (mx := capOf vx) rfl (Nat.zero_le _) hm2 (Nat.le_trans hm2 hx.capOf_le) (Nat.le_refl _)
    simp only [List.drop_zero, Nat.sub_zero] at h1 h2
    repeat (first | refine a1 ?_ | refine a3 ?_ | refine a4 ?_ | refine a5 ?_ | refine a6 ?_ | refine s_loadB ?_ | refine s_loadH ?_ | refine s_loadR ?_ | refine s_len ?_ | refine s_lenR ?_ | refine s_fieldB ?_ | refine s_fieldV ?_ | refine s_min ?_ | refine s_sliceHi ?_ | refine a7 ?_ | refine a8 ?_)
    refine Runs.regionD _ _ [] (fun x hx => List.mem_cons_of_mem _ hx) (List.Sublist.refl _) (by kernel_rfl) ?_
    refine d1 0 2 ?_
    refine t_sliceHi 2 ?_
    (first | refine t_fieldB 3 ?_ | refine t_fieldV 3 ?_)
    (first | refine t_loadB 4 ?_ | refine t_loadH 4 ?_ | refine t_loadR 4 ?_)
    refine d2 5 ?_
    refine t_sliceHi 6 ?_
    refine DW.callV 7 rfl (by kernel_rfl) rfl (compare_c h1 h2) rfl rfl ?_
    rintro _ _ rfl
    refine d1 8 2 ?_
    refine DW.done (by kernel_rfl) ?_
    repeat (first | refine a1 ?_ | refine a3 ?_ | refine a4 ?_ | refine a5 ?_ | refine a6 ?_ | refine s_loadB ?_ | refine s_loadH ?_ | refine s_loadR ?_ | refine s_len ?_ | refine s_lenR ?_ | refine s_fieldB ?_ | refine s_fieldV ?_ | refine s_min ?_ | refine s_sliceHi ?_ | refine a7 ?_ | refine a8 ?_)
    refine Runs.ret1 Try.func37 Try.results37 rfl (fun w hm => hR _ w _ H _ (List.mem_cons_self ..) (Snap.le.refl _) ?_ hm)
    exact ⟨rfl, rfl⟩

theorem check2_c {H : Snap} {F : List Own} {c : Int} {v vx : Value} {b : List Int} {x : Cand} {b11 b12 b14 b15 : Nat} {from_ : Int} (hv : SliceRep H I64 v b) (hx : SliceRep H I64 vx x.links) [i1 : GetBlk F b11 60 [vx, .int .i64 x.cost]] [i2 : GetBlk F b12 3 [.int .i64 x.cost]]
    [i3 : GetBlk F b14 88 [.func (.func 37) #[] #[.pointer (some ⟨b12, 0, none⟩), .pointer (some ⟨b11, 0, none⟩)]]] :
    Ctr Try.prog 40 #[.int .i64 c, v, .pointer (some ⟨b11, 0, none⟩), .pointer (some ⟨b15, 0, none⟩), .pointer (some ⟨b14, 0, none⟩)] H (.blk b15 3 [.int .i64 from_] :: F) (fun _ O' r => O' = .blk b15 3 [.int .i64 (stepC x from_ (c, b)).2] :: F ∧ r = .bool (stepC x from_ (c, b)).1) := by
  have hbv := hv.isSl.bound
  have hbx := hx.isSl.bound
  unfold stepC
  have hm1 : min b.length x.links.length ≤ b.length := Nat.min_le_left ..
  have hm2 : min b.length x.links.length ≤ x.links.length := Nat.min_le_right ..
  have h2 := hx.slv (s := 1) (lo := 0) (hi := min b.length x.links.length) (mx := capOf vx) rfl (Nat.zero_le _) hm2 (Nat.le_trans hm2 hx.capOf_le) (Nat.le_refl _)
  simp only [List.drop_zero, Nat.sub_zero] at h2
  refine Ctr.intro Try.func40 rfl Try.ntmps40 rfl (fun E R hM hR => ?_)
  repeat (first | refine a1 ?_ | refine a3 ?_ | refine a4 ?_ | refine a5 ?_ | refine a6 ?_ | refine s_fieldB ?_ | refine s_fieldV ?_ | refine s_loadB ?_ | refine s_loadH ?_ | refine s_loadR ?_ | refine s_len ?_ | refine s_lenR ?_ | refine s_min ?_ | refine s_sliceHi ?_ | refine a7 ?_ | refine a8 ?_ | refine a9 ?_ | refine RW.storeR rfl rfl rfl rfl (by first | rfl | (simp [allOne, cellsL, one1]; done) | (simp [allOne, cellsL, one1]; first | assumption | (refine ⟨?_, ?_⟩ <;> assumption))) rfl ?_ | refine a10 ?_ | refine RW.storeR1 rfl rfl (by first | rfl | exact IsSl.one1 (by assumption) | exact IsSl.one1 (SliceRep.isSl (by assumption))) rfl rfl ?_)
  rw [min_ite]
  repeat (first | refine a1 ?_ | refine a3 ?_ | refine a4 ?_ | refine a5 ?_ | refine a6 ?_ | refine s_fieldB ?_ | refine s_fieldV ?_ | refine s_loadB ?_ | refine s_loadH ?_ | refine s_loadR ?_ | refine s_len ?_ | refine s_lenR ?_ | refine s_min ?_ | refine s_sliceHi ?_ | refine a7 ?_ | refine a8 ?_ | refine a9 ?_ | refine RW.storeR rfl rfl rfl rfl (by first | rfl | (simp [allOne, cellsL, one1]; done) | (simp [allOne, cellsL, one1]; first | assumption | (refine ⟨?_, ?_⟩ <;> assumption))) rfl ?_ | refine a10 ?_ | refine RW.storeR1 rfl rfl (by first | rfl | exact IsSl.one1 (by assumption) | exact IsSl.one1 (SliceRep.isSl (by assumption))) rfl rfl ?_)
  refine RW.callV rfl (equal_c hv h2) rfl rfl ?_
  rintro _ _ rfl
  repeat (first | refine a1 ?_ | refine a3 ?_ | refine a4 ?_ | refine a5 ?_ | refine a6 ?_ | refine s_fieldB ?_ | refine s_fieldV ?_ | refine s_loadB ?_ | refine s_loadH ?_ | refine s_loadR ?_ | refine s_len ?_ | refine s_lenR ?_ | refine s_min ?_ | refine s_sliceHi ?_ | refine a7 ?_ | refine a8 ?_ | refine a9 ?_ | refine RW.storeR rfl rfl rfl rfl (by first | rfl | (simp [allOne, cellsL, one1]; done) | (simp [allOne, cellsL, one1]; first | assumption | (refine ⟨?_, ?_⟩ <;> assumption))) rfl ?_ | refine a10 ?_ | refine RW.storeR1 rfl rfl (by first | rfl | exact IsSl.one1 (by assumption) | exact IsSl.one1 (SliceRep.isSl (by assumption))) rfl rfl ?_)
  refine Runs.cond_d rfl (fun he => ?_) (fun he => ?_)
  · rw [if_pos he] at hR
    repeat (first | refine a1 ?_ | refine a3 ?_ | refine a4 ?_ | refine a5 ?_ | refine a6 ?_ | refine s_fieldB ?_ | refine s_fieldV ?_ | refine s_loadB ?_ | refine s_loadH ?_ | refine s_loadR ?_ | refine s_len ?_ | refine s_lenR ?_ | refine s_min ?_ | refine s_sliceHi ?_ | refine a7 ?_ | refine a8 ?_ | refine a9 ?_ | refine RW.storeR rfl rfl rfl rfl (by first | rfl | (simp [allOne, cellsL, one1]; done) | (simp [allOne, cellsL, one1]; first | assumption | (refine ⟨?_, ?_⟩ <;> assumption))) rfl ?_ | refine a10 ?_ | refine RW.storeR1 rfl rfl (by first | rfl | exact IsSl.one1 (by assumption) | exact IsSl.one1 (SliceRep.isSl (by assumption))) rfl rfl ?_)
    refine RW.callL (cap := [.pointer (some ⟨b12, 0, none⟩), .pointer (some ⟨b11, 0, none⟩)]) rfl rfl (check1_c (H := H) (c := c) hv hx) (List.Sublist.refl _) rfl rfl ?_
    rintro _ H2 rfl hle2
    repeat (first | refine a1 ?_ | refine a3 ?_ | refine a4 ?_ | refine a5 ?_ | refine a6 ?_ | refine s_fieldB ?_ | refine s_fieldV ?_ | refine s_loadB ?_ | refine s_loadH ?_ | refine s_loadR ?_ | refine s_len ?_ | refine s_lenR ?_ | refine s_min ?_ | refine s_sliceHi ?_ | refine a7 ?_ | refine a8 ?_ | refine a9 ?_ | refine RW.storeR rfl rfl rfl rfl (by first | rfl | (simp [allOne, cellsL, one1]; done) | (simp [allOne, cellsL, one1]; first | assumption | (refine ⟨?_, ?_⟩ <;> assumption))) rfl ?_ | refine a10 ?_ | refine RW.storeR1 rfl rfl (by first | rfl | exact IsSl.one1 (by assumption) | exact IsSl.one1 (SliceRep.isSl (by assumption))) rfl rfl ?_)
    refine Runs.ret1 Try.func40 Try.results40 rfl (fun w hm => hR _ w _ H _ (List.mem_cons_self ..) (Snap.le.refl _) ?_ hm)
    exact ⟨rfl, rfl⟩
  · rw [if_neg he] at hR
    repeat (first | refine a1 ?_ | refine a3 ?_ | refine a4 ?_ | refine a5 ?_ | refine a6 ?_ | refine s_fieldB ?_ | refine s_fieldV ?_ | refine s_loadB ?_ | refine s_loadH ?_ | refine s_loadR ?_ | refine s_len ?_ | refine s_lenR ?_ | refine s_min ?_ | refine s_sliceHi ?_ | refine a7 ?_ | refine a8 ?_ | refine a9 ?_ | refine RW.storeR rfl rfl rfl rfl (by first | rfl | (simp [allOne, cellsL, one1]; done) | (simp [allOne, cellsL, one1]; first | assumption | (refine ⟨?_, ?_⟩ <;> assumption))) rfl ?_ | refine a10 ?_ | refine RW.storeR1 rfl rfl (by first | rfl | exact IsSl.one1 (by assumption) | exact IsSl.one1 (SliceRep.isSl (by assumption))) rfl rfl ?_)
    refine RW.callL (cap := [.pointer (some ⟨b12, 0, none⟩), .pointer (some ⟨b11, 0, none⟩)]) rfl rfl (check1_c (H := H) (c := c) hv hx) (List.Sublist.refl _) rfl rfl ?_
    rintro _ H2 rfl hle2
    repeat (first | refine a1 ?_ | refine a3 ?_ | refine a4 ?_ | refine a5 ?_ | refine a6 ?_ | refine s_fieldB ?_ | refine s_fieldV ?_ | refine s_loadB ?_ | refine s_loadH ?_ | refine s_loadR ?_ | refine s_len ?_ | refine s_lenR ?_ | refine s_min ?_ | refine s_sliceHi ?_ | refine a7 ?_ | refine a8 ?_ | refine a9 ?_ | refine RW.storeR rfl rfl rfl rfl (by first | rfl | (simp [allOne, cellsL, one1]; done) | (simp [allOne, cellsL, one1]; first | assumption | (refine ⟨?_, ?_⟩ <;> assumption))) rfl ?_ | refine a10 ?_ | refine RW.storeR1 rfl rfl (by first | rfl | exact IsSl.one1 (by assumption) | exact IsSl.one1 (SliceRep.isSl (by assumption))) rfl rfl ?_)
    refine Runs.ret1 Try.func40 Try.results40 rfl (fun w hm => hR _ w _ H _ (List.mem_cons_self ..) (Snap.le.refl _) ?_ hm)
    exact ⟨rfl, rfl⟩
end Go.Proofs.Ytjdhcblofkkibaa

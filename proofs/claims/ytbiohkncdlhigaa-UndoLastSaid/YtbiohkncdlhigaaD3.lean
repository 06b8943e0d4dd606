/-
  Contracts: how marks are carried, on both sides. Conditions: numbers of at most 1000000.
-/
import Derived.Test.YtbiohkncdlhigaaD2
namespace Go.Proofs.Ytbiohkncdlhigaa
open Go Go.RowKit

def smallI (x : Int) : Prop := -1000000 ≤ x ∧ x ≤ 1000000
theorem shut_c {H : Snap} {p a n : Int} (hp : smallI p) (ha : smallI a) (hn : smallI n) : Pure Try.prog 68 #[.int .i64 p, .int .i64 a, .int .i64 n] H (fun _ r => r = .int .i64 (shutP p a n)) := by
  unfold smallI at *
  refine Pure.intro Try.func68 rfl Try.ntmps68 rfl (fun E R hM hR => ?_)
  repeat (first | refine a1 ?_ | refine a4 ?_ | refine a5 ?_ | refine a6 ?_)
  refine Runs.cond_d rfl (fun h1 => ?_) (fun h1 => ?_)
  · repeat (first | refine a1 ?_ | refine a4 ?_ | refine a5 ?_ | refine a6 ?_)
    refine Runs.ret1 Try.func68 Try.results68 rfl (fun w hm => hR _ w _ H _ (List.mem_cons_self ..) (Snap.le.refl _) ?_ hm)
    rw [shutP, if_pos h1]
  · repeat (first | refine a1 ?_ | refine a4 ?_ | refine a5 ?_ | refine a6 ?_ | refine s_addI ?_)
    refine Runs.cond_d rfl (fun h2 => ?_) (fun h2 => ?_)
    · repeat (first | refine a1 ?_ | refine a4 ?_ | refine a5 ?_ | refine a6 ?_)
      refine Runs.ret1 Try.func68 Try.results68 rfl (fun w hm => hR _ w _ H _ (List.mem_cons_self ..) (Snap.le.refl _) ?_ hm)
      rw [shutP, if_neg h1, if_pos h2]
    · repeat (first | refine a1 ?_ | refine a4 ?_ | refine a5 ?_ | refine a6 ?_ | refine s_subI ?_)
      refine Runs.ret1 Try.func68 Try.results68 rfl (fun w hm => hR _ w _ H _ (List.mem_cons_self ..) (Snap.le.refl _) ?_ hm)
      rw [shutP, if_neg h1, if_neg h2]
theorem kept_c {H : Snap} {p a n : Int} {be ba : Nat} (hp : smallI p) (ha : smallI a) (hn : 0 ≤ n ∧ n ≤ 1000000) :
    Ctr Try.prog 71 #[.int .i64 p, .pointer (some ⟨be, 0, none⟩), .pointer (some ⟨ba, 0, none⟩)] H [.blk be 3 [.int .i64 (a + n)], .blk ba 3 [.int .i64 a]]
      (fun _ O' r => O' = [.blk be 3 [.int .i64 (a + n)], .blk ba 3 [.int .i64 a]] ∧ r = .int .i64 (shutP p a n)) := by
  unfold smallI at *
  have hkey : p - (if (if a + n < p then a + n else p) - a < 0 then 0 else (if a + n < p then a + n else p) - a) = shutP p a n := by
    unfold shutP
    split <;> split <;> (try split) <;> (try split) <;> omega
  refine Ctr.intro Try.func71 rfl Try.ntmps71 rfl (fun E R hM hR => ?_)
  repeat (first | refine a1 ?_ | refine a4 ?_ | refine a5 ?_ | refine a6 ?_ | refine s_loadB ?_ | refine s_min ?_ | refine s_subI ?_ | refine s_max ?_)
  by_cases h1 : a + n < p
  · rw [if_pos h1] at *
    skip
    by_cases h2 : a + n - a < 0
    · omega
    · rw [if_neg h2] at *
      skip
      refine Runs.ret1 Try.func71 Try.results71 rfl (fun w hm => hR _ w _ H _ (List.mem_cons_self ..) (Snap.le.refl _) ?_ hm)
      exact ⟨rfl, by rw [hkey]⟩
  · rw [if_neg h1] at *
    skip
    by_cases h2 : p - a < 0
    · rw [if_pos h2] at *
      skip
      refine Runs.ret1 Try.func71 Try.results71 rfl (fun w hm => hR _ w _ H _ (List.mem_cons_self ..) (Snap.le.refl _) ?_ hm)
      exact ⟨rfl, by rw [hkey]⟩
    · rw [if_neg h2] at *
      skip
      refine Runs.ret1 Try.func71 Try.results71 rfl (fun w hm => hR _ w _ H _ (List.mem_cons_self ..) (Snap.le.refl _) ?_ hm)
      exact ⟨rfl, by rw [hkey]⟩
set_option maxHeartbeats 1000000 in
theorem shrunk_c {H : Snap} {m : Mk} {a n : Int} (h1 : smallI m.fr) (h2 : smallI m.to_) (ha : smallI a) (hn : 0 ≤ n ∧ n ≤ 1000000) : Pure Try.prog 67 #[mkV m, .int .i64 a, .int .i64 (a + n)] H (fun _ r => r = mkV (withoutM m a n)) := by
  obtain ⟨i, fr, to, wh⟩ := m
  dsimp only at h1 h2
  have hs1 := fun H be ba => kept_c (H := H) (be := be) (ba := ba) h1 ha hn
  have hs2 := fun H be ba => kept_c (H := H) (be := be) (ba := ba) h2 ha hn
  have b1 : -2000000 ≤ shutP fr a n ∧ shutP fr a n ≤ 1000000 := by unfold smallI at *; unfold shutP; split <;> (try split) <;> omega
  have b2 : -2000000 ≤ shutP to a n ∧ shutP to a n ≤ 1000000 := by unfold smallI at *; unfold shutP; split <;> (try split) <;> omega
  unfold smallI at h1 h2 ha
  show Pure Try.prog 67 #[.agg #[.int .i64 i, .int .i64 fr, .int .i64 to, .bool wh], .int .i64 a, .int .i64 (a + n)] H _
  unfold withoutM
  dsimp only
  refine Pure.intro Try.func67 rfl Try.ntmps67 rfl (fun E R hM hR => ?_)
  repeat (first | refine a4 ?_ | refine a6 ?_)
  refine RW.box rfl rfl rfl rfl (fun b3 => ?_)
  refine RW.box rfl rfl rfl rfl (fun b4 => ?_)
  refine RW.box rfl rfl rfl rfl (fun b5 => ?_)
  refine RW.alloc rfl rfl rfl (fun b6 => ?_)
  repeat (first | refine a1 ?_ | refine a4 ?_ | refine a5 ?_ | refine a6 ?_ | refine s_makeFunc ?_ | refine s_fieldB ?_ | refine s_loadB ?_ | refine s_subI ?_)
  refine Runs.regionD _ _ [9, 10, 11] (fun x hx => List.mem_cons_of_mem _ hx) (List.Sublist.refl _) (by kernel_rfl) ?_
  refine d2 0 ?_
  refine t_fieldB 1 ?_
  refine t_loadB 2 ?_
  refine d2 4 ?_
  refine t_fieldB 5 ?_
  refine t_loadB 6 ?_
  refine DW.callK 3 rfl (by kernel_rfl) rfl rfl (hs1 H b5 b4) rfl rfl ?_
  rintro _ _ rfl
  refine t_fieldB 8 ?_
  refine DW.callK 7 rfl (by kernel_rfl) rfl rfl (hs2 H b5 b4) rfl rfl ?_
  rintro _ _ rfl
  refine DW.storeB 9 rfl (by kernel_rfl) rfl rfl rfl rfl (by first | rfl | (simp [allOne, cellsL, one1]; done) | (simp [allOne, cellsL, one1]; first | assumption | (refine ⟨?_, ?_⟩ <;> assumption))) rfl ?_
  refine DW.qL 10 rfl (by kernel_rfl) rfl (QF.fieldB rfl).qv rfl rfl ?_
  refine DW.storeB 11 rfl (by kernel_rfl) rfl rfl rfl rfl (by first | rfl | (simp [allOne, cellsL, one1]; done) | (simp [allOne, cellsL, one1]; first | assumption | (refine ⟨?_, ?_⟩ <;> assumption))) rfl ?_
  refine DW.done (by kernel_rfl) ?_
  generalize shutP fr a n = f2 at *
  generalize shutP to a n = t2 at *
  cases wh with
  | true =>
    repeat (first | refine a1 ?_ | refine a4 ?_ | refine a5 ?_ | refine a6 ?_ | refine s_fieldB ?_ | refine s_loadB ?_ | refine s_subI ?_ | refine s_loadBs ?_ | refine a9 ?_)
    refine Runs.retC Try.func67 Try.results67 rfl (fun w hm => hR _ w _ H _ (List.mem_cons_self ..) (Snap.le.refl _) ?_ hm)
    rfl
  | false =>
    repeat (first | refine a1 ?_ | refine a3 ?_ | refine a4 ?_ | refine a5 ?_ | refine a6 ?_ | refine s_fieldB ?_ | refine s_loadB ?_ | refine s_loadBs ?_ | refine a9 ?_)
    refine Runs.retC Try.func67 Try.results67 rfl (fun w hm => hR _ w _ H _ (List.mem_cons_self ..) (Snap.le.refl _) ?_ hm)
    rfl
theorem without_c {H : Snap} {m : Mk} {a n : Int} (h1 : smallI m.fr) (h2 : smallI m.to_) (ha : smallI a) (hn : 0 ≤ n ∧ n ≤ 1000000) : Pure Try.prog 61 #[mkV m, .int .i64 a, .int .i64 n] H (fun _ r => r = mkV (withoutM m a n)) := by
  obtain ⟨i, fr, to, wh⟩ := m
  dsimp only at h1 h2
  have hs1 := shut_c (H := H) h1 ha (n := n) (by unfold smallI; omega)
  have hs2 := shut_c (H := H) h2 ha (n := n) (by unfold smallI; omega)
  have b1 : -2000000 ≤ shutP fr a n ∧ shutP fr a n ≤ 1000000 := by unfold smallI at *; unfold shutP; split <;> (try split) <;> omega
  have b2 : -2000000 ≤ shutP to a n ∧ shutP to a n ≤ 1000000 := by unfold smallI at *; unfold shutP; split <;> (try split) <;> omega
  unfold smallI at h1 h2 ha
  show Pure Try.prog 61 #[.agg #[.int .i64 i, .int .i64 fr, .int .i64 to, .bool wh], .int .i64 a, .int .i64 n] H _
  unfold withoutM
  dsimp only
  refine Pure.intro Try.func61 rfl Try.ntmps61 rfl (fun E R hM hR => ?_)
  repeat (first | refine a4 ?_ | refine a6 ?_)
  refine RW.box rfl rfl rfl rfl (fun b3 => ?_)
  refine RW.alloc rfl rfl rfl (fun b6 => ?_)
  repeat (first | refine a1 ?_ | refine a4 ?_ | refine a5 ?_ | refine a6 ?_ | refine s_fieldB ?_ | refine s_loadB ?_ | refine s_subI ?_)
  refine Runs.regionD _ _ [11, 12, 13] (fun x hx => List.mem_cons_of_mem _ hx) (List.Sublist.refl _) (by kernel_rfl) ?_
  refine t_fieldB 0 ?_
  refine t_loadB 1 ?_
  refine d1 2 2 ?_
  refine t_fieldB 5 ?_
  refine t_loadB 6 ?_
  refine d1 7 2 ?_
  refine DW.callV 4 rfl (by kernel_rfl) rfl (hs1) rfl rfl ?_
  rintro _ _ rfl
  refine t_fieldB 10 ?_
  refine DW.callV 9 rfl (by kernel_rfl) rfl (hs2) rfl rfl ?_
  rintro _ _ rfl
  refine DW.storeB 11 rfl (by kernel_rfl) rfl rfl rfl rfl (by first | rfl | (simp [allOne, cellsL, one1]; done) | (simp [allOne, cellsL, one1]; first | assumption | (refine ⟨?_, ?_⟩ <;> assumption))) rfl ?_
  refine DW.qL 12 rfl (by kernel_rfl) rfl (QF.fieldB rfl).qv rfl rfl ?_
  refine DW.storeB 13 rfl (by kernel_rfl) rfl rfl rfl rfl (by first | rfl | (simp [allOne, cellsL, one1]; done) | (simp [allOne, cellsL, one1]; first | assumption | (refine ⟨?_, ?_⟩ <;> assumption))) rfl ?_
  refine DW.done (by kernel_rfl) ?_
  generalize shutP fr a n = f2 at *
  generalize shutP to a n = t2 at *
  cases wh with
  | true =>
    repeat (first | refine a1 ?_ | refine a4 ?_ | refine a5 ?_ | refine a6 ?_ | refine s_fieldB ?_ | refine s_loadB ?_ | refine s_subI ?_ | refine s_loadBs ?_ | refine a9 ?_)
    refine Runs.retC Try.func61 Try.results61 rfl (fun w hm => hR _ w _ H _ (List.mem_cons_self ..) (Snap.le.refl _) ?_ hm)
    rfl
  | false =>
    repeat (first | refine a1 ?_ | refine a3 ?_ | refine a4 ?_ | refine a5 ?_ | refine a6 ?_ | refine s_fieldB ?_ | refine s_loadB ?_ | refine s_loadBs ?_ | refine a9 ?_)
    refine Runs.retC Try.func61 Try.results61 rfl (fun w hm => hR _ w _ H _ (List.mem_cons_self ..) (Snap.le.refl _) ?_ hm)
    rfl

def movedI (m : Mk) (a k : Int) (ins : Bool) (p : Int) : Int := if a < p then p + k else if p = a ∧ ins = false ∧ m.fr = a then p + k else p
theorem moved_c {H : Snap} {m : Mk} {p a k : Int} {ins : Bool} {ba bi bm bk : Nat} (hp : smallI p) (hk : smallI k) :
    Ctr Try.prog 70 #[.int .i64 p, .pointer (some ⟨ba, 0, none⟩), .pointer (some ⟨bi, 0, none⟩), .pointer (some ⟨bm, 0, none⟩), .pointer (some ⟨bk, 0, none⟩)] H
      [.blk ba 3 [.int .i64 a], .blk bi 4 [.bool ins], .blk bm 44 [.int .i64 m.id, .int .i64 m.fr, .int .i64 m.to_, .bool m.wh], .blk bk 3 [.int .i64 k]]
      (fun _ O' r => O' = [.blk ba 3 [.int .i64 a], .blk bi 4 [.bool ins], .blk bm 44 [.int .i64 m.id, .int .i64 m.fr, .int .i64 m.to_, .bool m.wh], .blk bk 3 [.int .i64 k]] ∧ r = .int .i64 (movedI m a k ins p)) := by
  unfold smallI at *
  refine Ctr.intro Try.func70 rfl Try.ntmps70 rfl (fun E R hM hR => ?_)
  repeat (first | refine a1 ?_ | refine a4 ?_ | refine a5 ?_ | refine a6 ?_ | refine s_loadB ?_)
  refine RW.dec 10 rfl (fun h1 => ?_) (fun h1 => ?_)
  · repeat (first | refine a1 ?_ | refine a3 ?_ | refine a4 ?_ | refine a5 ?_ | refine a6 ?_ | refine s_loadB ?_ | refine s_addI ?_ | refine a7 ?_)
    refine Runs.ret1 Try.func70 Try.results70 rfl (fun w hm => hR _ w _ H _ (List.mem_cons_self ..) (Snap.le.refl _) ?_ hm)
    exact ⟨rfl, by rw [movedI, if_pos h1]⟩
  repeat (first | refine a1 ?_ | refine s_loadB ?_)
  refine RW.dec 14 rfl (fun h2 => ?_) (fun h2 => ?_)
  · cases ins with
    | true =>
      repeat (first | refine a1 ?_ | refine a3 ?_ | refine a4 ?_ | refine a5 ?_ | refine a6 ?_ | refine s_loadB ?_ | refine a8 ?_)
      refine Runs.ret1 Try.func70 Try.results70 rfl (fun w hm => hR _ w _ H _ (List.mem_cons_self ..) (Snap.le.refl _) ?_ hm)
      exact ⟨rfl, by rw [movedI, if_neg h1, if_neg (by simp)]⟩
    | false =>
      repeat (first | refine a1 ?_ | refine a5 ?_ | refine s_loadB ?_ | refine s_fieldB ?_)
      refine Runs.cond_d rfl (fun h3 => ?_) (fun h3 => ?_)
      · repeat (first | refine a1 ?_ | refine a4 ?_ | refine a5 ?_ | refine a6 ?_ | refine s_loadB ?_ | refine s_addI ?_)
        refine Runs.ret1 Try.func70 Try.results70 rfl (fun w hm => hR _ w _ H _ (List.mem_cons_self ..) (Snap.le.refl _) ?_ hm)
        exact ⟨rfl, by rw [movedI, if_neg h1, if_pos ⟨h2, rfl, h3⟩]⟩
      · repeat (first | refine a1 ?_ | refine a4 ?_ | refine a5 ?_ | refine a6 ?_)
        refine Runs.ret1 Try.func70 Try.results70 rfl (fun w hm => hR _ w _ H _ (List.mem_cons_self ..) (Snap.le.refl _) ?_ hm)
        exact ⟨rfl, by rw [movedI, if_neg h1, if_neg (fun h => h3 h.2.2)]⟩
  · repeat (first | refine a1 ?_ | refine a3 ?_ | refine a4 ?_ | refine a5 ?_ | refine a6 ?_ | refine a8 ?_)
    refine Runs.ret1 Try.func70 Try.results70 rfl (fun w hm => hR _ w _ H _ (List.mem_cons_self ..) (Snap.le.refl _) ?_ hm)
    exact ⟨rfl, by rw [movedI, if_neg h1, if_neg (fun h => h2 h.1)]⟩
set_option maxHeartbeats 1000000 in
theorem grown_c {H : Snap} {m : Mk} {a k : Int} (hm : m.fr < m.to_) (h1 : smallI m.fr) (h2 : smallI m.to_) (ha : smallI a) (hk : smallI k) : Pure Try.prog 66 #[mkV m, .int .i64 a, .int .i64 k] H (fun _ r => r = mkV (openM m a k)) := by
  obtain ⟨i, fr, to, wh⟩ := m
  dsimp only at h1 h2 hm
  have hs1 := fun H ins ba bi bm bk => moved_c (H := H) (m := ⟨i, fr, to, wh⟩) (a := a) (ins := ins) (ba := ba) (bi := bi) (bm := bm) (bk := bk) h1 hk
  have hs2 := fun H ins ba bi bm bk => moved_c (H := H) (m := ⟨i, fr, to, wh⟩) (a := a) (ins := ins) (ba := ba) (bi := bi) (bm := bm) (bk := bk) h2 hk
  have hkey : openM ⟨i, fr, to, wh⟩ a k = ⟨i, movedI ⟨i, fr, to, wh⟩ a k (decide (fr < a ∧ a < to)) fr, movedI ⟨i, fr, to, wh⟩ a k (decide (fr < a ∧ a < to)) to, wh && !(decide (fr < a ∧ a < to))⟩ := by
    unfold openM movedI
    dsimp only
    by_cases c1 : to ≤ a
    · have e : decide (fr < a ∧ a < to) = false := decide_eq_false (by omega)
      rw [if_pos c1, e, if_neg (by omega), if_neg (by omega), if_neg (by omega), if_neg (by omega)]
      simp
    · rw [if_neg c1]
      by_cases c2 : fr < a
      · have e : decide (fr < a ∧ a < to) = true := decide_eq_true (by omega)
        rw [if_pos c2, e, if_neg (by omega), if_neg (by simp), if_pos (by omega)]
        simp
      · have e : decide (fr < a ∧ a < to) = false := decide_eq_false (by omega)
        rw [if_neg c2, e, if_pos (show a < to by omega)]
        by_cases c3 : a < fr
        · rw [if_pos c3]; simp
        · rw [if_neg c3, if_pos ⟨by omega, rfl, by omega⟩]; simp
  rw [hkey]
  generalize hf2 : movedI ⟨i, fr, to, wh⟩ a k (decide (fr < a ∧ a < to)) fr = f2 at *
  generalize ht2 : movedI ⟨i, fr, to, wh⟩ a k (decide (fr < a ∧ a < to)) to = t2 at *
  unfold smallI at h1 h2 ha hk
  show Pure Try.prog 66 #[.agg #[.int .i64 i, .int .i64 fr, .int .i64 to, .bool wh], .int .i64 a, .int .i64 k] H _
  refine Pure.intro Try.func66 rfl Try.ntmps66 rfl (fun E R hM hR => ?_)
  repeat (first | refine a4 ?_ | refine a6 ?_)
  refine RW.box rfl rfl rfl rfl (fun b3 => ?_)
  refine RW.box rfl rfl rfl rfl (fun b4 => ?_)
  refine RW.box rfl rfl rfl rfl (fun b5 => ?_)
  refine RW.alloc rfl rfl rfl (fun b6 => ?_)
  repeat (first | refine a1 ?_ | refine a4 ?_ | refine a5 ?_ | refine a6 ?_ | refine s_fieldB ?_ | refine s_loadB ?_)
  refine RW.joinF (α := (Bool × Nat)) (fun s => decide (fr < a ∧ a < to) = s.1) (fun _ => [H]) (fun s => [.blk s.2 4 [.bool s.1], .blk b6 44 [.int .i64 0, .int .i64 0, .int .i64 0, .bool false], .blk b5 3 [.int .i64 k], .blk b4 3 [.int .i64 a], .blk b3 44 [.int .i64 i, .int .i64 fr, .int .i64 to, .bool wh]]) (fun s => [(3, .pointer (some ⟨b3, 0, none⟩)), (4, .pointer (some ⟨b4, 0, none⟩)), (5, .pointer (some ⟨b5, 0, none⟩)), (6, .pointer (some ⟨b6, 0, none⟩)), (7, .pointer (some ⟨s.2, 0, none⟩))]) (fun hj => ?_) ?_
  ·
    refine RW.dec 13 rfl (fun c1 => ?_) (fun c1 => ?_)
    · repeat (first | refine a1 ?_ | refine s_fieldB ?_ | refine s_loadB ?_)
      by_cases c2 : a < to
      · rw [decide_eq_true c2]
        skip
        refine RW.alloc rfl rfl rfl (fun b7 => ?_)
        repeat (refine a9 ?_)
        refine RW.nil ?_
        refine Runs.weak (hj (true, b7) (decide_eq_true ⟨c1, c2⟩)) (by repeat (first | exact trivial | refine And.intro rfl ?_)) (fun x hx => List.mem_cons_of_mem _ (SubH.h x hx)) (by repeat (first | exact List.nil_sublist _ | exact List.Sublist.refl _ | refine List.Sublist.cons_cons _ ?_ | refine List.Sublist.cons _ ?_))
      · rw [decide_eq_false c2]
        skip
        refine RW.alloc rfl rfl rfl (fun b7 => ?_)
        repeat (refine a9 ?_)
        refine RW.nil ?_
        refine Runs.weak (hj (false, b7) (decide_eq_false (by omega))) (by repeat (first | exact trivial | refine And.intro rfl ?_)) (fun x hx => List.mem_cons_of_mem _ (SubH.h x hx)) (by repeat (first | exact List.nil_sublist _ | exact List.Sublist.refl _ | refine List.Sublist.cons_cons _ ?_ | refine List.Sublist.cons _ ?_))
    · repeat (first | refine a1 ?_ | refine a3 ?_)
      refine RW.alloc rfl rfl rfl (fun b7 => ?_)
      repeat (refine a9 ?_)
      refine RW.nil ?_
      refine Runs.weak (hj (false, b7) (decide_eq_false (by omega))) (by repeat (first | exact trivial | refine And.intro rfl ?_)) (fun x hx => List.mem_cons_of_mem _ (SubH.h x hx)) (by repeat (first | exact List.nil_sublist _ | exact List.Sublist.refl _ | refine List.Sublist.cons_cons _ ?_ | refine List.Sublist.cons _ ?_))
  rintro ⟨ins, b7⟩ hins
  dsimp only at hins ⊢
  rw [hins] at hf2 ht2
  rw [hins] at hR
  have hs1 := hs1 H ins b4 b7 b3 b5
  have hs2 := hs2 H ins b4 b7 b3 b5
  rw [hf2] at hs1
  rw [ht2] at hs2
  repeat (first | refine a1 ?_ | refine a4 ?_ | refine a5 ?_ | refine a6 ?_ | refine s_makeFunc ?_)
  refine Runs.regionD _ _ [9, 10, 11] (fun x hx => List.mem_cons_of_mem _ hx) (List.Sublist.refl _) (by kernel_rfl) ?_
  refine d2 0 ?_
  refine t_fieldB 1 ?_
  refine t_loadB 2 ?_
  refine d2 4 ?_
  refine t_fieldB 5 ?_
  refine t_loadB 6 ?_
  refine DW.callK 3 rfl (by kernel_rfl) rfl rfl (hs1) rfl rfl ?_
  rintro _ _ rfl
  refine t_fieldB 8 ?_
  refine DW.callK 7 rfl (by kernel_rfl) rfl rfl (hs2) rfl rfl ?_
  rintro _ _ rfl
  refine DW.storeB 9 rfl (by kernel_rfl) rfl rfl rfl rfl (by first | rfl | (simp [allOne, cellsL, one1]; done) | (simp [allOne, cellsL, one1]; first | assumption | (refine ⟨?_, ?_⟩ <;> assumption))) rfl ?_
  refine DW.qL 10 rfl (by kernel_rfl) rfl (QF.fieldB rfl).qv rfl rfl ?_
  refine DW.storeB 11 rfl (by kernel_rfl) rfl rfl rfl rfl (by first | rfl | (simp [allOne, cellsL, one1]; done) | (simp [allOne, cellsL, one1]; first | assumption | (refine ⟨?_, ?_⟩ <;> assumption))) rfl ?_
  refine DW.done (by kernel_rfl) ?_
  cases wh <;> cases ins
  · repeat (first | refine a1 ?_ | refine a3 ?_ | refine a4 ?_ | refine a5 ?_ | refine a6 ?_ | refine s_fieldB ?_ | refine s_loadB ?_ | refine s_loadBs ?_ | refine a9 ?_)
    refine Runs.retC Try.func66 Try.results66 rfl (fun w hm => hR _ w _ H _ (List.mem_cons_self ..) (Snap.le.refl _) ?_ hm)
    rfl
  · repeat (first | refine a1 ?_ | refine a3 ?_ | refine a4 ?_ | refine a5 ?_ | refine a6 ?_ | refine s_fieldB ?_ | refine s_loadB ?_ | refine s_loadBs ?_ | refine a9 ?_)
    refine Runs.retC Try.func66 Try.results66 rfl (fun w hm => hR _ w _ H _ (List.mem_cons_self ..) (Snap.le.refl _) ?_ hm)
    rfl
  · repeat (first | refine a1 ?_ | refine a4 ?_ | refine a5 ?_ | refine a6 ?_ | refine s_fieldB ?_ | refine s_loadB ?_ | refine s_loadBs ?_ | refine a9 ?_)
    refine Runs.retC Try.func66 Try.results66 rfl (fun w hm => hR _ w _ H _ (List.mem_cons_self ..) (Snap.le.refl _) ?_ hm)
    rfl
  · repeat (first | refine a1 ?_ | refine a4 ?_ | refine a5 ?_ | refine a6 ?_ | refine s_fieldB ?_ | refine s_loadB ?_ | refine s_loadBs ?_ | refine a9 ?_)
    refine Runs.retC Try.func66 Try.results66 rfl (fun w hm => hR _ w _ H _ (List.mem_cons_self ..) (Snap.le.refl _) ?_ hm)
    rfl
theorem open_c {H : Snap} {m : Mk} {a k : Int} (h1 : smallI m.fr) (h2 : smallI m.to_) (_ha : smallI a) (hk : smallI k) : Pure Try.prog 60 #[mkV m, .int .i64 a, .int .i64 k] H (fun _ r => r = mkV (openM m a k)) := by
  obtain ⟨i, fr, to, wh⟩ := m
  unfold smallI at *
  dsimp only at h1 h2
  show Pure Try.prog 60 #[.agg #[.int .i64 i, .int .i64 fr, .int .i64 to, .bool wh], .int .i64 a, .int .i64 k] H _
  unfold openM
  dsimp only
  refine Pure.intro Try.func60 rfl Try.ntmps60 rfl (fun E R hM hR => ?_)
  repeat (first | refine a4 ?_ | refine a6 ?_)
  refine RW.box rfl rfl rfl rfl (fun b3 => ?_)
  refine RW.alloc rfl rfl rfl (fun b6 => ?_)
  repeat (first | refine a1 ?_ | refine a4 ?_ | refine a5 ?_ | refine a6 ?_ | refine s_fieldB ?_ | refine s_loadB ?_)
  refine Runs.cond_d rfl (fun c1 => ?_) (fun c1 => ?_)
  · repeat (first | refine a4 ?_ | refine a5 ?_ | refine a6 ?_ | refine s_loadBs ?_ | refine a9 ?_)
    refine Runs.retC Try.func60 Try.results60 rfl (fun w hm => hR _ w _ H _ (List.mem_cons_self ..) (Snap.le.refl _) ?_ hm)
    rw [if_pos c1]
  · repeat (first | refine a1 ?_ | refine a4 ?_ | refine a5 ?_ | refine a6 ?_ | refine s_fieldB ?_ | refine s_loadB ?_)
    refine Runs.cond_d rfl (fun c2 => ?_) (fun c2 => ?_)
    · repeat (first | refine a1 ?_ | refine a4 ?_ | refine a5 ?_ | refine a6 ?_ | refine s_fieldB ?_ | refine s_loadB ?_ | refine s_loadBs ?_ | refine s_addI ?_ | refine a9 ?_)
      refine Runs.retC Try.func60 Try.results60 rfl (fun w hm => hR _ w _ H _ (List.mem_cons_self ..) (Snap.le.refl _) ?_ hm)
      rw [if_neg c1, if_pos c2]
    · repeat (first | refine a1 ?_ | refine a4 ?_ | refine a5 ?_ | refine a6 ?_ | refine s_fieldB ?_ | refine s_loadB ?_ | refine s_loadBs ?_ | refine s_addI ?_ | refine a9 ?_)
      refine Runs.retC Try.func60 Try.results60 rfl (fun w hm => hR _ w _ H _ (List.mem_cons_self ..) (Snap.le.refl _) ?_ hm)
      rw [if_neg c1, if_neg c2]
end Go.Proofs.Ytbiohkncdlhigaa

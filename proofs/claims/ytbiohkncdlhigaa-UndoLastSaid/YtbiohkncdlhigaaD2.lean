/-
  Contracts: possible edits of the reference, texts after an edit. Conditions: texts of at most 100000 bytes.
-/
import Derived.Test.YtbiohkncdlhigaaMD1
namespace Go.Proofs.Ytbiohkncdlhigaa
open Go Go.RowKit

def pieceP (e : Ed) (n : Int) : Prop := 0 ≤ e.at_ ∧ 0 ≤ e.len ∧ e.at_ ≤ n ∧ e.len ≤ n - e.at_
instance (e : Ed) (n : Int) : Decidable (pieceP e n) := inferInstanceAs (Decidable (_ ∧ _))
set_option maxHeartbeats 1000000 in
theorem rposs_c {H : Snap} {e : Ed} {n : Int} (ht : e.tx.length ≤ 100000) (hn : 0 ≤ n ∧ n ≤ 100000) : Pure Try.prog 64 #[edV e, .int .i64 n] H (fun _ r => r = .bool (decide (possE e n))) := by
  refine Pure.intro Try.func64 rfl Try.ntmps64 rfl (fun E R hM hR => ?_)
  repeat (first | refine a4 ?_ | refine a6 ?_)
  refine RW.box rfl rfl rfl rfl (fun b2 => ?_)
  repeat (first | refine a1 ?_ | refine a4 ?_ | refine a5 ?_ | refine a6 ?_ | refine s_fieldB ?_ | refine s_loadB ?_)
  refine RW.join (Hs' := [H]) (O' := [.blk b2 31 [.int .i64 e.k, .int .i64 e.at_, .int .i64 e.len, .int .i64 e.to_, str e.tx]]) (l' := [(1, .int .i64 n), (2, .pointer (some ⟨b2, 0, none⟩)), (5, .bool (decide (pieceP e n)))]) (fun hj => ?_) ?_
  · have hno : ¬ pieceP e n → Runs Try.prog 64 58 E R _ _ _ [(1, .int .i64 n), (2, .pointer (some ⟨b2, 0, none⟩)), (5, .bool false)] := fun h => by
      rw [decide_eq_false h] at hj
      exact hj
    refine RW.dec 9 rfl (fun h1 => ?_) (fun h1 => ?_)
    · repeat (first | refine a1 ?_ | refine s_fieldB ?_ | refine s_loadB ?_)
      refine RW.dec 14 rfl (fun h2 => ?_) (fun h2 => ?_)
      · repeat (first | refine a1 ?_ | refine s_fieldB ?_ | refine s_loadB ?_)
        refine RW.dec 20 rfl (fun h3 => ?_) (fun h3 => ?_)
        · repeat (first | refine a1 ?_ | refine s_fieldB ?_ | refine s_loadB ?_ | refine s_subI ?_)
          have e5 : pieceP e n ↔ e.len ≤ n - e.at_ := by unfold pieceP; omega
          rw [decide_eq_decide.2 e5] at hj
          refine RW.nil ?_
          refine Runs.weak (hj) (by repeat (first | exact trivial | refine And.intro rfl ?_)) (fun x hx => List.mem_cons_of_mem _ (SubH.h x hx)) (by repeat (first | exact List.nil_sublist _ | exact List.Sublist.refl _ | refine List.Sublist.cons_cons _ ?_ | refine List.Sublist.cons _ ?_))
        · repeat (first | refine a1 ?_ | refine a3 ?_)
          refine RW.nil ?_
          refine Runs.weak (hno (by unfold pieceP; omega)) (by repeat (first | exact trivial | refine And.intro rfl ?_)) (fun x hx => List.mem_cons_of_mem _ (SubH.h x hx)) (by repeat (first | exact List.nil_sublist _ | exact List.Sublist.refl _ | refine List.Sublist.cons_cons _ ?_ | refine List.Sublist.cons _ ?_))
      · repeat (first | refine a1 ?_ | refine a3 ?_)
        refine RW.nil ?_
        refine Runs.weak (hno (by unfold pieceP; omega)) (by repeat (first | exact trivial | refine And.intro rfl ?_)) (fun x hx => List.mem_cons_of_mem _ (SubH.h x hx)) (by repeat (first | exact List.nil_sublist _ | exact List.Sublist.refl _ | refine List.Sublist.cons_cons _ ?_ | refine List.Sublist.cons _ ?_))
    · repeat (first | refine a1 ?_ | refine a3 ?_)
      refine RW.nil ?_
      refine Runs.weak (hno (by unfold pieceP; omega)) (by repeat (first | exact trivial | refine And.intro rfl ?_)) (fun x hx => List.mem_cons_of_mem _ (SubH.h x hx)) (by repeat (first | exact List.nil_sublist _ | exact List.Sublist.refl _ | refine List.Sublist.cons_cons _ ?_ | refine List.Sublist.cons _ ?_))
  repeat (first | refine a1 ?_ | refine a4 ?_ | refine a5 ?_ | refine a6 ?_ | refine s_fieldB ?_ | refine s_loadB ?_)
  refine Runs.cond_d rfl (fun hk1 => ?_) (fun hk1 => ?_)
  · repeat (first | refine a1 ?_ | refine a4 ?_ | refine a6 ?_ | refine s_fieldB ?_ | refine s_loadB ?_)
    refine RW.callV rfl (in_c (H := H)) rfl rfl ?_
    rintro _ _ rfl
    repeat (refine a1 ?_)
    refine RW.dec 37 rfl (fun h1 => ?_) (fun h1 => ?_)
    · repeat (first | refine s_fieldB ?_ | refine s_loadB ?_)
      refine RW.callV rfl (rplain_c (H := H) ht) rfl rfl ?_
      rintro _ _ rfl
      repeat (first | refine a1 ?_ | refine a5 ?_)
      refine Runs.ret1 Try.func64 Try.results64 rfl (fun w hm => hR _ w _ H _ (List.mem_cons_self ..) (Snap.le.refl _) ?_ hm)
      congr 1
      rw [decide_eq_decide]
      unfold possE
      constructor
      · intro h
        refine ⟨by omega, by omega, .inl ⟨hk1, fun h0 => ?_, by omega, h.1⟩⟩
        rw [h0] at h; simp at h
      · intro h
        rcases h.2.2 with h | h | h
        · have : e.tx.length ≠ 0 := fun h0 => h.2.1 (List.eq_nil_of_length_eq_zero h0)
          exact ⟨h.2.2.2, by omega, by omega⟩
        · omega
        · omega
    · repeat (first | refine a1 ?_ | refine a3 ?_ | refine a5 ?_)
      refine Runs.ret1 Try.func64 Try.results64 rfl (fun w hm => hR _ w _ H _ (List.mem_cons_self ..) (Snap.le.refl _) ?_ hm)
      rw [decide_eq_false (by unfold possE; omega)]
  repeat (first | refine a1 ?_ | refine a4 ?_ | refine a5 ?_ | refine a6 ?_)
  refine Runs.cond_d rfl (fun hk2 => ?_) (fun hk2 => ?_)
  · rw [decide_eq_true hk2]
    repeat (first | refine a1 ?_ | refine a4 ?_ | refine a5 ?_ | refine a6 ?_ | refine a7 ?_)
    refine Runs.ret1 Try.func64 Try.results64 rfl (fun w hm => hR _ w _ H _ (List.mem_cons_self ..) (Snap.le.refl _) ?_ hm)
    congr 1
    rw [decide_eq_decide]
    unfold possE pieceP
    omega
  repeat (first | refine a1 ?_ | refine a5 ?_ | refine a6 ?_)
  refine Runs.cond_d rfl (fun hk4 => ?_) (fun hk4 => ?_)
  · repeat (first | refine a1 ?_ | refine a4 ?_ | refine a5 ?_ | refine a6 ?_)
    refine Runs.ret1 Try.func64 Try.results64 rfl (fun w hm => hR _ w _ H _ (List.mem_cons_self ..) (Snap.le.refl _) ?_ hm)
    congr 1
    rw [decide_eq_decide]
    unfold possE pieceP
    omega
  repeat (first | refine a1 ?_ | refine a4 ?_ | refine a5 ?_ | refine a6 ?_)
  refine Runs.cond_d rfl (fun hk3 => ?_) (fun hk3 => ?_)
  · repeat (first | refine a1 ?_ | refine a4 ?_ | refine a6 ?_)
    refine RW.dec 49 rfl (fun h1 => ?_) (fun h1 => ?_)
    · unfold pieceP at h1
      repeat (first | refine a1 ?_ | refine s_fieldB ?_ | refine s_loadB ?_ | refine s_subI ?_)
      refine RW.callV rfl (in_c (H := H)) rfl rfl ?_
      rintro _ _ rfl
      repeat (first | refine a1 ?_ | refine a5 ?_)
      refine Runs.ret1 Try.func64 Try.results64 rfl (fun w hm => hR _ w _ H _ (List.mem_cons_self ..) (Snap.le.refl _) ?_ hm)
      congr 1
      rw [decide_eq_decide]
      unfold possE
      omega
    · unfold pieceP at h1
      repeat (first | refine a1 ?_ | refine a3 ?_ | refine a5 ?_)
      refine Runs.ret1 Try.func64 Try.results64 rfl (fun w hm => hR _ w _ H _ (List.mem_cons_self ..) (Snap.le.refl _) ?_ hm)
      rw [decide_eq_false (by unfold possE; omega)]
  · repeat (first | refine a1 ?_ | refine a4 ?_ | refine a5 ?_ | refine a6 ?_)
    refine Runs.ret1 Try.func64 Try.results64 rfl (fun w hm => hR _ w _ H _ (List.mem_cons_self ..) (Snap.le.refl _) ?_ hm)
    rw [decide_eq_false (by unfold possE; omega)]

theorem possE.nums {e : Ed} {n : Int} (h : possE e n) : 0 ≤ e.at_ ∧ e.at_ ≤ n ∧ (e.k = 1 ∧ 1 ≤ e.tx.length ∧ e.tx.length ≤ 40 ∨ (e.k = 2 ∨ e.k = 4) ∧ 0 ≤ e.len ∧ e.len ≤ n - e.at_ ∨ e.k = 3 ∧ 0 ≤ e.len ∧ e.len ≤ n - e.at_ ∧ 0 ≤ e.to_ ∧ e.to_ ≤ n - e.len) := by
  obtain ⟨h1, h2, h3⟩ := h
  refine ⟨h1, h2, ?_⟩
  rcases h3 with h3 | h3 | h3
  · refine .inl ⟨h3.1, ?_, h3.2.2.1⟩
    have : e.tx.length ≠ 0 := fun h0 => h3.2.1 (List.eq_nil_of_length_eq_zero h0)
    omega
  · exact .inr (.inl h3)
  · exact .inr (.inr h3)
theorem applyDel_c {H : Snap} {s : List UInt8} {a l t : Nat} {x : List UInt8} (hs : s.length ≤ 100000) (h : a + l ≤ s.length) : Pure Try.prog 91 #[str s, edV ⟨2, a, l, t, x⟩] H (fun _ r => r = str (delT s a l)) := by
  show Pure Try.prog 91 #[str s, .agg #[.int .i64 2, .int .i64 (a : Int), .int .i64 (l : Int), .int .i64 (t : Int), str x]] H (fun _ r => r = str (delT s a l))
  refine Pure.intro Try.func91 rfl Try.ntmps91 rfl (fun E R hM hR => ?_)
  repeat (first | refine a4 ?_ | refine a6 ?_)
  refine RW.box rfl rfl rfl rfl (fun b3 => ?_)
  repeat (first | refine a1 ?_ | refine a4 ?_ | refine a5 ?_ | refine a6 ?_ | refine s_fieldB ?_ | refine s_loadB ?_ | refine a7 ?_ | refine a8 ?_)
  refine Runs.regionD _ _ [] (fun x hx => List.mem_cons_of_mem _ hx) (List.Sublist.refl _) (by kernel_rfl) ?_
  refine d2 0 ?_
  refine t_fieldB 1 ?_
  refine t_loadB 2 ?_
  refine t_sliceSHi 3 ?_
  refine d2 4 ?_
  refine t_fieldB 5 ?_
  refine t_loadB 6 ?_
  refine t_fieldB 7 ?_
  refine t_loadB 8 ?_
  refine t_addI 9 ?_
  refine t_sliceSLo 10 ?_
  refine t_addS 11 ?_
  refine d2 12 ?_
  refine DW.done (by kernel_rfl) ?_
  skip
  refine Runs.ret1 Try.func91 Try.results91 rfl (fun w hm => hR _ w _ H _ (List.mem_cons_self ..) (Snap.le.refl _) ?_ hm)
  rfl
set_option maxHeartbeats 1000000 in
theorem apply_c {H : Snap} {s : List UInt8} {e : Ed} (hs : s.length ≤ 100000) (h : possE e s.length) : Pure Try.prog 91 #[str s, edV e] H (fun _ r => r = str (applyT s e)) := by
  replace h := h.nums
  obtain ⟨ek, ea, el, et, ex⟩ := e
  dsimp only at h
  obtain ⟨a, rfl⟩ : ∃ a : Nat, ea = (a : Int) := ⟨ea.toNat, by omega⟩
  unfold applyT
  dsimp only
  rw [Int.toNat_natCast]
  show Pure Try.prog 91 #[str s, .agg #[.int .i64 ek, .int .i64 (a : Int), .int .i64 el, .int .i64 et, str ex]] H _
  refine Pure.intro Try.func91 rfl Try.ntmps91 rfl (fun E R hM hR => ?_)
  repeat (first | refine a4 ?_ | refine a6 ?_)
  refine RW.box rfl rfl rfl rfl (fun b3 => ?_)
  repeat (first | refine a1 ?_ | refine a4 ?_ | refine a5 ?_ | refine a6 ?_ | refine s_fieldB ?_ | refine s_loadB ?_)
  refine Runs.cond_d rfl (fun hk1 => ?_) (fun hk1 => ?_)
  · repeat (refine a4 ?_)
    have hx : ex.length ≤ 40 := by omega
    refine Runs.regionD _ _ [] (fun x hx => List.mem_cons_of_mem _ hx) (List.Sublist.refl _) (by kernel_rfl) ?_
    refine d2 0 ?_
    refine t_fieldB 1 ?_
    refine t_loadB 2 ?_
    refine t_sliceSHi 3 ?_
    refine t_fieldB 4 ?_
    refine t_loadB 5 ?_
    refine t_addS 6 ?_
    refine d2 7 ?_
    refine t_fieldB 8 ?_
    refine t_loadB 9 ?_
    refine t_sliceSLo 10 ?_
    refine t_addS 11 ?_
    refine d2 12 ?_
    refine DW.done (by kernel_rfl) ?_
    skip
    refine Runs.ret1 Try.func91 Try.results91 rfl (fun w hm => hR _ w _ H _ (List.mem_cons_self ..) (Snap.le.refl _) ?_ hm)
    rw [if_pos hk1]; rfl
  repeat (first | refine a1 ?_ | refine a4 ?_ | refine a5 ?_ | refine a6 ?_)
  refine Runs.cond_d rfl (fun hk2 => ?_) (fun hk2 => ?_)
  · obtain ⟨l, rfl⟩ : ∃ a : Nat, el = (a : Int) := ⟨el.toNat, by omega⟩
    repeat (refine a4 ?_)
    refine Runs.regionD _ _ [] (fun x hx => List.mem_cons_of_mem _ hx) (List.Sublist.refl _) (by kernel_rfl) ?_
    refine d2 0 ?_
    refine t_fieldB 1 ?_
    refine t_loadB 2 ?_
    refine t_sliceSHi 3 ?_
    refine d2 4 ?_
    refine t_fieldB 5 ?_
    refine t_loadB 6 ?_
    refine t_fieldB 7 ?_
    refine t_loadB 8 ?_
    refine t_addI 9 ?_
    refine t_sliceSLo 10 ?_
    refine t_addS 11 ?_
    refine d2 12 ?_
    refine DW.done (by kernel_rfl) ?_
    skip
    refine Runs.ret1 Try.func91 Try.results91 rfl (fun w hm => hR _ w _ H _ (List.mem_cons_self ..) (Snap.le.refl _) ?_ hm)
    rw [if_neg hk1, if_pos hk2, Int.toNat_natCast]; rfl
  repeat (first | refine a1 ?_ | refine a4 ?_ | refine a5 ?_ | refine a6 ?_)
  refine Runs.cond_d rfl (fun hk3 => ?_) (fun hk3 => ?_)
  · obtain ⟨l, rfl⟩ : ∃ a : Nat, el = (a : Int) := ⟨el.toNat, by omega⟩
    obtain ⟨t, rfl⟩ : ∃ a : Nat, et = (a : Int) := ⟨et.toNat, by omega⟩
    have hdl : (delT s a l).length = s.length - l := delT_length (by omega)
    repeat (first | refine a1 ?_ | refine a4 ?_ | refine a6 ?_ | refine s_fieldB ?_ | refine s_loadB ?_ | refine s_build ?_)
    refine RW.callV rfl (applyDel_c (H := H) (t := 0) (x := []) hs (by omega)) rfl rfl ?_
    rintro _ _ rfl
    repeat (first | refine a1 ?_ | refine a4 ?_ | refine a5 ?_)
    refine Runs.regionD _ _ [] (fun x hx => List.mem_cons_of_mem _ hx) (List.Sublist.refl _) (by kernel_rfl) ?_
    refine d2 0 ?_
    refine t_fieldB 1 ?_
    refine t_loadB 2 ?_
    refine t_sliceSHi 3 ?_
    refine d2 4 ?_
    refine t_fieldB 5 ?_
    refine t_loadB 6 ?_
    refine t_fieldB 7 ?_
    refine t_loadB 8 ?_
    refine t_fieldB 9 ?_
    refine t_loadB 10 ?_
    refine t_addI 11 ?_
    refine t_sliceSLH 12 ?_
    refine t_addS 13 ?_
    refine d2 14 ?_
    refine t_fieldB 15 ?_
    refine t_loadB 16 ?_
    refine t_sliceSLo 17 ?_
    refine t_addS 18 ?_
    refine d2 19 ?_
    refine DW.done (by kernel_rfl) ?_
    skip
    refine Runs.ret1 Try.func91 Try.results91 rfl (fun w hm => hR _ w _ H _ (List.mem_cons_self ..) (Snap.le.refl _) ?_ hm)
    rw [if_neg hk1, if_neg hk2, if_pos hk3, Int.toNat_natCast, Int.toNat_natCast]; rfl
  · repeat (first | refine a1 ?_ | refine a4 ?_ | refine a5 ?_ | refine a6 ?_)
    refine Runs.ret1 Try.func91 Try.results91 rfl (fun w hm => hR _ w _ H _ (List.mem_cons_self ..) (Snap.le.refl _) ?_ hm)
    rw [if_neg hk1, if_neg hk2, if_neg hk3]
set_option maxHeartbeats 1000000 in
theorem rtext_c {H : Snap} {s : List UInt8} {e : Ed} (hs : s.length ≤ 100000) (h : possE e s.length) : Pure Try.prog 65 #[str s, edV e] H (fun _ r => r = str (applyT s e)) := by
  replace h := h.nums
  obtain ⟨ek, ea, el, et, ex⟩ := e
  dsimp only at h
  obtain ⟨a, rfl⟩ : ∃ a : Nat, ea = (a : Int) := ⟨ea.toNat, by omega⟩
  unfold applyT
  dsimp only
  rw [Int.toNat_natCast]
  show Pure Try.prog 65 #[str s, .agg #[.int .i64 ek, .int .i64 (a : Int), .int .i64 el, .int .i64 et, str ex]] H _
  refine Pure.intro Try.func65 rfl Try.ntmps65 rfl (fun E R hM hR => ?_)
  repeat (first | refine a4 ?_ | refine a6 ?_)
  refine RW.box rfl rfl rfl rfl (fun b3 => ?_)
  repeat (first | refine a1 ?_ | refine a4 ?_ | refine a5 ?_ | refine a6 ?_ | refine s_fieldB ?_ | refine s_loadB ?_)
  refine Runs.cond_d rfl (fun hk1 => ?_) (fun hk1 => ?_)
  · repeat (refine a4 ?_)
    have hx : ex.length ≤ 40 := by omega
    refine Runs.regionD _ _ [] (fun x hx => List.mem_cons_of_mem _ hx) (List.Sublist.refl _) (by kernel_rfl) ?_
    refine d2 0 ?_
    refine t_fieldB 1 ?_
    refine t_loadB 2 ?_
    refine t_sliceSHi 3 ?_
    refine t_fieldB 4 ?_
    refine t_loadB 5 ?_
    refine t_addS 6 ?_
    refine d2 7 ?_
    refine t_fieldB 8 ?_
    refine t_loadB 9 ?_
    refine t_sliceSLo 10 ?_
    refine t_addS 11 ?_
    refine d2 12 ?_
    refine DW.done (by kernel_rfl) ?_
    skip
    refine Runs.ret1 Try.func65 Try.results65 rfl (fun w hm => hR _ w _ H _ (List.mem_cons_self ..) (Snap.le.refl _) ?_ hm)
    rw [if_pos hk1]; rfl
  repeat (first | refine a1 ?_ | refine a4 ?_ | refine a5 ?_ | refine a6 ?_)
  refine Runs.cond_d rfl (fun hk2 => ?_) (fun hk2 => ?_)
  · obtain ⟨l, rfl⟩ : ∃ a : Nat, el = (a : Int) := ⟨el.toNat, by omega⟩
    repeat (refine a4 ?_)
    refine Runs.regionD _ _ [] (fun x hx => List.mem_cons_of_mem _ hx) (List.Sublist.refl _) (by kernel_rfl) ?_
    refine d2 0 ?_
    refine t_fieldB 1 ?_
    refine t_loadB 2 ?_
    refine t_sliceSHi 3 ?_
    refine d2 4 ?_
    refine t_fieldB 5 ?_
    refine t_loadB 6 ?_
    refine t_fieldB 7 ?_
    refine t_loadB 8 ?_
    refine t_addI 9 ?_
    refine t_sliceSLo 10 ?_
    refine t_addS 11 ?_
    refine d2 12 ?_
    refine DW.done (by kernel_rfl) ?_
    skip
    refine Runs.ret1 Try.func65 Try.results65 rfl (fun w hm => hR _ w _ H _ (List.mem_cons_self ..) (Snap.le.refl _) ?_ hm)
    rw [if_neg hk1, if_pos hk2, Int.toNat_natCast]; rfl
  repeat (first | refine a1 ?_ | refine a4 ?_ | refine a5 ?_ | refine a6 ?_)
  refine Runs.cond_d rfl (fun hk3 => ?_) (fun hk3 => ?_)
  · obtain ⟨l, rfl⟩ : ∃ a : Nat, el = (a : Int) := ⟨el.toNat, by omega⟩
    obtain ⟨t, rfl⟩ : ∃ a : Nat, et = (a : Int) := ⟨et.toNat, by omega⟩
    have hdl : (s.take a ++ s.drop (a + l)).length = s.length - l := delT_length (s := s) (i := a) (n := l) (by omega)
    repeat (refine a4 ?_)
    refine Runs.regionD _ _ [] (fun x hx => List.mem_cons_of_mem _ hx) (List.Sublist.refl _) (by kernel_rfl) ?_
    refine d2 0 ?_
    refine t_fieldB 1 ?_
    refine t_loadB 2 ?_
    refine t_fieldB 3 ?_
    refine t_loadB 4 ?_
    refine t_fieldB 5 ?_
    refine t_loadB 6 ?_
    refine t_addI 7 ?_
    refine t_sliceSLH 8 ?_
    refine d2 9 ?_
    refine t_fieldB 10 ?_
    refine t_loadB 11 ?_
    refine t_sliceSHi 12 ?_
    refine d2 13 ?_
    refine t_fieldB 14 ?_
    refine t_loadB 15 ?_
    refine t_fieldB 16 ?_
    refine t_loadB 17 ?_
    refine t_addI 18 ?_
    refine t_sliceSLo 19 ?_
    refine t_addS 20 ?_
    refine d1 21 2 ?_
    refine DW.done (by kernel_rfl) ?_
    repeat (refine a4 ?_)
    refine Runs.regionD _ _ [] (fun x hx => List.mem_cons_of_mem _ hx) (List.Sublist.refl _) (by kernel_rfl) ?_
    refine d2 0 ?_
    refine t_fieldB 1 ?_
    refine t_loadB 2 ?_
    refine t_sliceSHi 3 ?_
    refine d2 4 ?_
    refine t_addS 5 ?_
    refine d2 6 ?_
    refine t_fieldB 7 ?_
    refine t_loadB 8 ?_
    refine t_sliceSLo 9 ?_
    refine t_addS 10 ?_
    refine d2 11 ?_
    refine DW.done (by kernel_rfl) ?_
    skip
    refine Runs.ret1 Try.func65 Try.results65 rfl (fun w hm => hR _ w _ H _ (List.mem_cons_self ..) (Snap.le.refl _) ?_ hm)
    rw [if_neg hk1, if_neg hk2, if_pos hk3, Int.toNat_natCast, Int.toNat_natCast]; rfl
  · repeat (first | refine a1 ?_ | refine a4 ?_ | refine a5 ?_ | refine a6 ?_)
    refine Runs.ret1 Try.func65 Try.results65 rfl (fun w hm => hR _ w _ H _ (List.mem_cons_self ..) (Snap.le.refl _) ?_ hm)
    rw [if_neg hk1, if_neg hk2, if_neg hk3]
end Go.Proofs.Ytbiohkncdlhigaa

/-
  Contracts: Concat and Delete on slices of steps; replaying. Conditions: at most 1000 elements.
  Contracts: replaying, doing a step in a past, of both sides. Conditions: valid documents, at most 500 steps, texts of at most 100000 bytes.
-/
import Derived.Test.YtbiohkncdlhigaaUh
namespace Go.Proofs.Ytbiohkncdlhigaa
open Go Go.RowKit

theorem take_flat {xss : List (List Stp)} {k : Nat} {x : List Stp} (hx : xss[k]? = some x) : (xss.take (k + 1)).flatten = (xss.take k).flatten ++ x := by
  rw [List.take_add_one, hx]
  simp
set_option maxHeartbeats 1000000 in
theorem concat_c {H : Snap} {v : Value} {xss : List (List Stp)} (hv : SliceRep H (SlL StepL) v xss) (hl : xss.flatten.length ≤ 1000) : Ctr Try.prog 45 #[v] H [] (fun _ O' r => O' = [.row 33 8 r xss.flatten.length (stCs xss.flatten)] ∧ IsSl r xss.flatten.length) := by
  have hb := hv.isSl.bound
  have hle : ∀ k, (xss.take k).flatten.length ≤ xss.flatten.length := fun k => by
    conv => rhs; rw [← List.take_append_drop k xss, List.flatten_append, List.length_append]
    omega
  refine Ctr.intro Try.func45 rfl Try.ntmps45 rfl (fun E R hM hR => ?_)
  repeat (first | refine a1 ?_ | refine a4 ?_ | refine a5 ?_ | refine a6 ?_ | refine s_len ?_)
  refine Runs.loop (fun k : Nat => k ≤ xss.length) (fun k => xss.length - k) (fun _ => [H]) (fun _ => []) (fun k => [(0, v), (3, .int .i64 (((xss.take k).flatten.length : Nat) : Int)), (9, v), (10, .int .i64 (xss.length : Int)), (11, .int .i64 (k : Int))]) 0 (Nat.zero_le _)
    (fun h => by refine Runs.weak (h) (by repeat (first | exact trivial | refine And.intro rfl ?_)) (fun x hx => List.mem_cons_of_mem _ (SubH.h x hx)) (by repeat (first | exact List.nil_sublist _ | exact List.Sublist.refl _ | refine List.Sublist.cons_cons _ ?_ | refine List.Sublist.cons _ ?_))) ?_
  rintro k hk ih
  repeat (first | refine a1 ?_ | refine a4 ?_ | refine a5 ?_ | refine a6 ?_)
  refine Runs.cond_d rfl (fun hlt => ?_) (fun hlt => ?_)
  · obtain ⟨x, hx⟩ : ∃ x, xss[k]? = some x := ⟨_, List.getElem?_eq_getElem (by omega)⟩
    obtain ⟨vl, hvl, hcell⟩ := hv.sl hx
    have e1 : (((xss.take (k + 1)).flatten.length : Nat) : Int) = (((xss.take k).flatten.length : Nat) : Int) + (x.length : Int) := by rw [take_flat hx, List.length_append]; omega
    have h1 := hle (k + 1)
    repeat (first | refine a1 ?_ | refine a4 ?_ | refine a5 ?_ | refine a6 ?_ | refine s_len ?_ | refine s_index ?_ | refine s_loadH ?_ | refine s_addI ?_ | refine a8 ?_)
    rw [← e1]
    skip
    refine Runs.weak (ih (k + 1) (by omega) (by omega)) (by repeat (first | exact trivial | refine And.intro rfl ?_)) (fun x hx => List.mem_cons_of_mem _ (SubH.h x hx)) (by repeat (first | exact List.nil_sublist _ | exact List.Sublist.refl _ | refine List.Sublist.cons_cons _ ?_ | refine List.Sublist.cons _ ?_))
  have hfull : xss.take k = xss := List.take_of_length_le (by omega)
  rw [hfull]
  repeat refine a1 ?_
  repeat refine a3 ?_
  repeat (first | refine a1 ?_ | refine a4 ?_ | refine a6 ?_)
  refine RW.callO rfl rfl (grow_c (H := H) (m := xss.flatten.length) hl) rfl rfl ?_
  rintro vg H2 _ ⟨rfl, hsg⟩ hle2
  dsimp only [List.cons_append, List.nil_append]
  repeat (first | refine a1 ?_ | refine a4 ?_ | refine a5 ?_ | refine a6 ?_ | refine s_len ?_)
  refine Runs.loop (fun s : Nat × Value => s.1 ≤ xss.length ∧ IsSl s.2 (xss.take s.1).flatten.length) (fun s => xss.length - s.1) (fun _ => [H]) (fun s => [.row 33 8 s.2 (xss.take s.1).flatten.length (stCs (xss.take s.1).flatten)]) (fun s => [(6, s.2), (25, v), (26, .int .i64 (xss.length : Int)), (27, .int .i64 (s.1 : Int))]) (0, vg) ⟨Nat.zero_le _, hsg⟩
    (fun h => by refine Runs.weak (h) (by repeat (first | exact trivial | refine And.intro rfl ?_)) (fun x hx => List.mem_cons_of_mem _ (SubH.h x hx)) (by repeat (first | exact List.nil_sublist _ | exact List.Sublist.refl _ | refine List.Sublist.cons_cons _ ?_ | refine List.Sublist.cons _ ?_))) ?_
  rintro ⟨k, vk⟩ ⟨hk, hsk⟩ ih
  dsimp only at hk hsk ih ⊢
  repeat (first | refine a1 ?_ | refine a4 ?_ | refine a5 ?_ | refine a6 ?_)
  refine Runs.cond_d rfl (fun hlt2 => ?_) (fun hlt2 => ?_)
  · obtain ⟨x, hx⟩ : ∃ x, xss[k]? = some x := ⟨_, List.getElem?_eq_getElem (by omega)⟩
    obtain ⟨vl, hvl, hcell⟩ := hv.sl hx
    have h1 := hle (k + 1)
    have e1 := take_flat hx
    rw [e1, List.length_append] at h1
    repeat (first | refine a1 ?_ | refine a4 ?_ | refine a5 ?_ | refine a6 ?_ | refine s_index ?_ | refine s_loadH ?_)
    refine RW.appendH rfl rfl (hvl) (by rfl) rfl (by decide) (by omega) (by omega) (fun _ _ => inferInstance) rfl rfl (fun ds v2 hc h2 => ?_)
    have e2 := stCs_of hc
    subst e2
    repeat (first | refine a1 ?_ | refine a4 ?_ | refine a5 ?_ | refine a6 ?_ | refine s_addI ?_)
    have hI : IsSl v2 (xss.take (k + 1)).flatten.length := by rw [e1, List.length_append]; exact h2
    have ih2 := ih (k + 1, v2) ⟨by dsimp only; omega, hI⟩ (by dsimp only; omega)
    dsimp only at ih2
    rw [e1, List.length_append, stCs, List.flatMap_append] at ih2
    refine Runs.weak (ih2) (by repeat (first | exact trivial | refine And.intro rfl ?_)) (fun x hx => List.mem_cons_of_mem _ (SubH.h x hx)) (by repeat (first | exact List.nil_sublist _ | exact List.Sublist.refl _ | refine List.Sublist.cons_cons _ ?_ | refine List.Sublist.cons _ ?_))
  · have hfull2 : xss.take k = xss := List.take_of_length_le (by omega)
    rw [hfull2] at hsk ⊢
    repeat (first | refine a1 ?_ | refine a4 ?_ | refine a5 ?_ | refine a6 ?_)
    refine Runs.ret1 Try.func45 Try.results45 rfl (fun w hm => hR _ w _ H _ (List.mem_cons_self ..) (Snap.le.refl _) ?_ hm)
    exact ⟨rfl, hsk⟩
theorem stCs_del {ss : List Stp} {i : Nat} (hi : i < ss.length) : (stCs ss).take (i * 8) ++ (stCs ss).drop ((i + 1) * 8) = stCs (ss.take i ++ ss.drop (i + 1)) := by
  have e : ∀ j, j ≤ ss.length → (stCs ss).take (j * 8) = stCs (ss.take j) ∧ (stCs ss).drop (j * 8) = stCs (ss.drop j) := fun j hj => by
    have h1 : stCs ss = stCs (ss.take j) ++ stCs (ss.drop j) := by
      rw [stCs, stCs, stCs, ← List.flatMap_append, List.take_append_drop]
    have h2 : (stCs (ss.take j)).length = j * 8 := by rw [stCs_len, List.length_take]; omega
    rw [h1, ← h2]
    exact ⟨List.take_left, List.drop_left⟩
  rw [(e i (by omega)).1, (e (i + 1) (by omega)).2, stCs, stCs, stCs, List.flatMap_append]
set_option maxHeartbeats 1000000 in
theorem delete_c {H : Snap} {v : Value} {ss : List Stp} {i : Nat} (hi : i < ss.length) (hl : ss.length ≤ 1000) : Ctr Try.prog 47 #[v, .int .i64 (i : Int), .int .i64 ((i : Int) + 1)] H [.row 33 8 v ss.length (stCs ss)] (fun _ O' r => O' = [.row 33 8 r (ss.length - 1) (stCs (ss.take i ++ ss.drop (i + 1)))] ∧ IsSl r (ss.length - 1)) := by
  refine Ctr.intro Try.func47 rfl Try.ntmps47 rfl (fun E R hM hR => ?_)
  refine Runs.rowSl v (fun hsv hov => ?_)
  have hone : ∀ u ∈ stCs ss, one1 u = true := allOne_eq (stCs_one ss)
  repeat (first | refine a1 ?_ | refine a4 ?_ | refine a5 ?_ | refine a6 ?_ | refine s_len ?_)
  refine RW.q (QF.sliceLHM (lo := i) (hi := i + 1) (m := ss.length) rfl rfl rfl rfl hsv rfl (by omega) rfl (by omega) (by omega) (Nat.le_refl _)).qv rfl rfl ?_
  repeat (first | refine a1 ?_ | refine a4 ?_ | refine a5 ?_ | refine a6 ?_)
  rw [decide_eq_false (show ¬ (i : Int) = (i : Int) + 1 by omega)]
  repeat (first | refine a1 ?_ | refine a4 ?_ | refine a5 ?_ | refine a6 ?_ | refine s_len ?_ | refine a8 ?_)
  refine Runs.regionD _ ([]) [] (fun x hx => List.mem_cons_of_mem _ hx) SubO.h (by kernel_rfl) ?_
  rw [show ((i : Int) + 1) = ((i + 1 : Nat) : Int) from by omega]
  refine d1 0 2 ?_
  refine t_sliceHi 2 ?_
  refine d1 3 2 ?_
  refine t_sliceLo 5 ?_
  refine DW.h 6 true rfl (by kernel_rfl) (HV.appendDel (v := v) (i := i) (lo := i + 1) (n := ss.length) rfl rfl (by omega) (by omega) (by omega) hone (fun _ => inferInstance)) rfl rfl (by simp) ?_
  rintro _ _ _ ⟨rfl, rfl, hvN, b, c, rfl, hc⟩
  refine ⟨fun _ w hm => hm.sub (fun x hx => List.mem_cons_of_mem _ (SubH.h x hx)) SubO.h, ?_⟩
  refine d2 7 ?_
  refine DW.done (by kernel_rfl) ?_
  rw [stCs_del hi]
  generalize hm : i + (ss.length - (i + 1)) = m at *
  have hm1 : ss.length = m + 1 := by omega
  repeat (first | refine a1 ?_ | refine a4 ?_ | refine a6 ?_ | refine s_len ?_)
  refine RW.q (QF.sliceLHc (lo := m) (hi := m + 1) rfl rfl rfl hvN rfl (by omega) (by omega) (by show m + 1 ≤ c; omega)).qv rfl rfl ?_
  refine RW.h0 (HV.clearTail (m := m) (b := b) (c := c) rfl rfl (by omega) (by decide) rfl) rfl ?_
  rintro _ _ _ ⟨rfl, rfl⟩
  repeat (first | refine a1 ?_ | refine a4 ?_ | refine a5 ?_ | refine a6 ?_)
  refine Runs.ret1 Try.func47 Try.results47 rfl (fun w hm => hR _ w _ H _ (List.mem_cons_self ..) (Snap.le.refl _) ?_ hm)
  have e9 : ss.length - 1 = m := by omega
  rw [e9]
  exact ⟨rfl, hvN⟩

/-! ### Replaying -/
def replS (a : Int) : Dc → List Stp → Dc
  | d, [] => d
  | d, s :: ss => if skipS a s then replS a d ss else if (stD d s).2 = 0 then replS a (stD d s).1 ss else replS a d ss
theorem replS_run {a : Int} : ∀ {ss : List Stp} {d D : Dc}, runS a d ss = some D → replS a d ss = D
  | [], d, D, h => by rw [runS, Option.some.injEq] at h; exact h
  | s :: ss, d, D, h => by
    by_cases c : skipS a s
    · rw [runS_skip c] at h; rw [replS, if_pos c]; exact replS_run h
    · obtain ⟨h1, h2⟩ := runS_step c h
      rw [replS, if_neg c, if_pos h1]; exact replS_run h2
theorem replS_app {a : Int} : ∀ {x y : List Stp} {d : Dc}, replS a d (x ++ y) = replS a (replS a d x) y
  | [], _, _ => rfl
  | s :: x, y, d => by
    rw [List.cons_append, replS, replS]
    split
    · exact replS_app
    · split
      · exact replS_app
      · exact replS_app
theorem take_one {ss : List Stp} {k : Nat} {s : Stp} (hs : ss[k]? = some s) : ss.take (k + 1) = ss.take k ++ [s] := by
  rw [List.take_add_one, hs]; rfl
end Go.Proofs.Ytbiohkncdlhigaa
namespace Go.Proofs.Ytbiohkncdlhigaa
open Go Go.RowKit

theorem replS_valid {a : Int} : ∀ {ss : List Stp} {d : Dc}, validD d → validD (replS a d ss)
  | [], _, h => h
  | s :: ss, d, h => by
    rw [replS]
    split
    · exact replS_valid h
    · split
      · rename_i h2; exact replS_valid (stD_valid h h2)
      · exact replS_valid h
theorem replS_skip1 {a : Int} {d : Dc} {s : Stp} (h : skipS a s) : replS a d [s] = d := by rw [replS, if_pos h]; rfl
theorem replS_do1 {a : Int} {d : Dc} {s : Stp} (h : ¬ skipS a s) (h2 : (stD d s).2 = 0) : replS a d [s] = (stD d s).1 := by rw [replS, if_neg h, if_pos h2]; rfl
theorem replS_no1 {a : Int} {d : Dc} {s : Stp} (h : ¬ skipS a s) (h2 : ¬ (stD d s).2 = 0) : replS a d [s] = d := by rw [replS, if_neg h, if_neg h2]; rfl
set_option maxHeartbeats 2000000 in
theorem replay_c {H : Snap} {vd vs : Value} {ss : List Stp} {a : Int} {m : Nat} (ho1 : one1 vd = true) (hv : SliceRep H StepL vs ss) (ht : ∀ s ∈ ss, s.e.tx.length ≤ 100000) (hm : m ≤ 100000) : Pure Try.prog 17 #[.agg #[vd, vs], .int .i64 a, .int .i64 (m : Int)] H (fun H' r => DocR H' r (replS a nilD (ss.take m))) := by
  have hbd := hv.isSl.bound
  have ho2 := hv.isSl.one1
  refine Pure.intro Try.func17 rfl Try.ntmps17 rfl (fun E R hM hR => ?_)
  repeat (first | refine a4 ?_ | refine a6 ?_)
  refine RW.box rfl rfl rfl rfl (fun b3 => ?_)
  refine RW.alloc rfl rfl rfl (fun b6 => ?_)
  repeat (first | refine a4 ?_ | refine a5 ?_ | refine a6 ?_ | refine s_build ?_)
  refine RW.alloc rfl rfl rfl (fun b7 => ?_)
  repeat (first | refine a1 ?_ | refine a4 ?_ | refine a5 ?_ | refine a6 ?_ | refine a9 ?_)
  refine Runs.loop (fun s : Nat × Snap × Dc × Value => s.1 ≤ m ∧ s.1 ≤ ss.length ∧ H.le s.2.1 ∧ validD s.2.2.1 ∧ SliceRep s.2.1 MarkL s.2.2.2 s.2.2.1.ms ∧ s.2.2.1 = replS a nilD (ss.take s.1)) (fun s => ss.length - s.1) (fun s => [s.2.1, H]) (fun s => [.blk b7 36 [str s.2.2.1.tx, s.2.2.2], .blk b6 36 [str [], .slice none 0 0], .blk b3 27 [vd, vs]]) (fun s => [(1, .int .i64 a), (2, .int .i64 (m : Int)), (3, .pointer (some ⟨b3, 0, none⟩)), (6, .pointer (some ⟨b6, 0, none⟩)), (7, .pointer (some ⟨b7, 0, none⟩)), (8, .int .i64 (s.1 : Int))]) (0, H, nilD, .slice none 0 0) ⟨Nat.zero_le _, Nat.zero_le _, Snap.le.refl H, nilD_valid, SliceRep.nil, rfl⟩
    (fun h => by refine Runs.weak (h) (by repeat (first | exact trivial | refine And.intro rfl ?_)) (fun x hx => List.mem_cons_of_mem _ (SubH.h x hx)) (by repeat (first | exact List.nil_sublist _ | exact List.Sublist.refl _ | refine List.Sublist.cons_cons _ ?_ | refine List.Sublist.cons _ ?_))) ?_
  rintro ⟨k, Hk, d, vm⟩ ⟨hk1, hk2, hle, hdv, hr, hd2⟩ ih
  dsimp only at hk1 hk2 hle hdv hr hd2 ih ⊢
  have hro := hr.isSl.one1
  repeat (first | refine a1 ?_ | refine a4 ?_ | refine a6 ?_)
  by_cases c1 : (k : Int) < (m : Int)
  · rw [decide_eq_true c1]
    repeat (first | refine a1 ?_ | refine a5 ?_ | refine s_fieldB ?_ | refine s_loadB ?_ | refine s_len ?_)
    by_cases c2 : (k : Int) < (ss.length : Int)
    · rw [decide_eq_true c2]
      obtain ⟨s, hs⟩ : ∃ s, ss[k]? = some s := ⟨_, List.getElem?_eq_getElem (by omega)⟩
      have hs8 := hv.st hs
      have hts := ht s (List.mem_of_getElem? hs)
      have htk := take_one hs
      repeat (first | refine a1 ?_ | refine a4 ?_ | refine a6 ?_ | refine s_fieldB ?_ | refine s_fieldV ?_ | refine s_loadB ?_ | refine s_loadH ?_ | refine s_index ?_ | refine a7 ?_)
      by_cases c3 : s.app = a
      · rw [decide_eq_true c3]
        repeat (first | refine a1 ?_ | refine a5 ?_ | refine s_fieldB ?_ | refine s_fieldV ?_ | refine s_loadB ?_ | refine s_loadH ?_ | refine s_index ?_)
        cases hun : s.un with
        | true =>
          have hnx : replS a d [s] = d := replS_skip1 (.inr hun)
          repeat (first | refine a1 ?_ | refine a4 ?_ | refine a5 ?_ | refine a6 ?_ | refine s_addI ?_ | refine a8 ?_)
          refine Runs.weak (ih (k + 1, Hk, d, vm) ⟨by dsimp only; omega, by dsimp only; omega, hle, hdv, hr, by dsimp only; rw [htk, replS_app, ← hd2, hnx]⟩ (by dsimp only; omega)) (by repeat (first | exact trivial | refine And.intro rfl ?_)) (fun x hx => List.mem_cons_of_mem _ (SubH.h x hx)) (by repeat (first | exact List.nil_sublist _ | exact List.Sublist.refl _ | refine List.Sublist.cons_cons _ ?_ | refine List.Sublist.cons _ ?_))
        | false =>
          have hnsk : ¬ skipS a s := by
            rintro (h | h)
            · exact h c3
            · rw [hun] at h; cases h
          repeat (first | refine a4 ?_ | refine a7 ?_)
          refine Runs.regionD _ _ [11] (fun x hx => List.mem_cons_of_mem _ hx) (List.Sublist.refl _) (by kernel_rfl) ?_
          refine t_loadBs 0 ?_
          refine t_fieldB 1 ?_
          refine t_loadB 2 ?_
          refine d2 3 ?_
          refine t_index 4 ?_
          refine t_loadHs 5 ?_
          refine DW.float 10 rfl rfl ?_
          refine DWf.call 6 rfl rfl rfl (by kernel_rfl) (by kernel_rfl) rfl rfl rfl rfl rfl rfl (rapply_c (H := Hk) hr hdv hts) ?_
          rintro _ H2 ⟨vx, rfl, hrx⟩ hle2
          obtain ⟨vm2, rfl, hrm⟩ := hrx
          have hro2 := hrm.isSl.one1
          refine DWf.qF 7 rfl rfl (by kernel_rfl) (qev_eq rfl) (fun _ => qev_eq rfl) rfl rfl ?_
          refine DWf.qF 8 rfl rfl (by kernel_rfl) (qev_eq rfl) (fun _ => qev_eq rfl) rfl rfl ?_
          refine DWf.qF 9 rfl rfl (by kernel_rfl) (qev_eq rfl) (fun _ => qev_eq rfl) rfl rfl ?_
          refine DWf.take rfl (by kernel_rfl) rfl rfl rfl (fun b9 => ?_)
          simp only [List.cons_append, List.nil_append]
          refine DW.storeB 11 rfl (by kernel_rfl) rfl rfl rfl rfl (by first | rfl | (simp [allOne, cellsL, one1]; done) | (simp [allOne, cellsL, one1]; first | assumption | (refine ⟨?_, ?_⟩ <;> assumption) | (refine ⟨?_, ?_, ?_⟩ <;> assumption))) rfl ?_
          refine d2 12 ?_
          refine DW.done (by kernel_rfl) ?_
          repeat (first | refine a1 ?_ | refine a4 ?_ | refine a5 ?_ | refine a6 ?_)
          refine Runs.cond_d rfl (fun h0 => ?_) (fun h0 => ?_)
          · repeat (first | refine a1 ?_ | refine a4 ?_ | refine a5 ?_ | refine a6 ?_ | refine s_loadBs ?_ | refine s_addI ?_ | refine a9 ?_)
            have hnx := replS_do1 hnsk h0
            refine Runs.weak (ih (k + 1, H2, (stD d s).1, vm2) ⟨by dsimp only; omega, by dsimp only; omega, hle.trans hle2, stD_valid hdv h0, hrm, by dsimp only; rw [htk, replS_app, ← hd2, hnx]⟩ (by dsimp only; omega)) (by repeat (first | exact trivial | refine And.intro rfl ?_)) (fun x hx => List.mem_cons_of_mem _ (SubH.h x hx)) (by repeat (first | exact List.nil_sublist _ | exact List.Sublist.refl _ | refine List.Sublist.cons_cons _ ?_ | refine List.Sublist.cons _ ?_))
          · have hnx := replS_no1 hnsk h0
            repeat (first | refine a1 ?_ | refine a4 ?_ | refine a5 ?_ | refine a6 ?_ | refine s_addI ?_)
            refine Runs.weak (ih (k + 1, Hk, d, vm) ⟨by dsimp only; omega, by dsimp only; omega, hle, hdv, hr, by dsimp only; rw [htk, replS_app, ← hd2, hnx]⟩ (by dsimp only; omega)) (by repeat (first | exact trivial | refine And.intro rfl ?_)) (fun x hx => List.mem_cons_of_mem _ (SubH.h x hx)) (by repeat (first | exact List.nil_sublist _ | exact List.Sublist.refl _ | refine List.Sublist.cons_cons _ ?_ | refine List.Sublist.cons _ ?_))
      · rw [decide_eq_false c3]
        have hnx : replS a d [s] = d := replS_skip1 (.inl c3)
        repeat (first | refine a1 ?_ | refine a3 ?_ | refine a4 ?_ | refine a5 ?_ | refine a6 ?_ | refine s_addI ?_ | refine a8 ?_)
        refine Runs.weak (ih (k + 1, Hk, d, vm) ⟨by dsimp only; omega, by dsimp only; omega, hle, hdv, hr, by dsimp only; rw [htk, replS_app, ← hd2, hnx]⟩ (by dsimp only; omega)) (by repeat (first | exact trivial | refine And.intro rfl ?_)) (fun x hx => List.mem_cons_of_mem _ (SubH.h x hx)) (by repeat (first | exact List.nil_sublist _ | exact List.Sublist.refl _ | refine List.Sublist.cons_cons _ ?_ | refine List.Sublist.cons _ ?_))
    · rw [decide_eq_false c2]
      have hfin : d = replS a nilD (ss.take m) := by rw [hd2, List.take_of_length_le (by omega), List.take_of_length_le (by omega)]
      repeat (first | refine a4 ?_ | refine a5 ?_ | refine a6 ?_ | refine s_loadBs ?_ | refine a8 ?_ | refine a9 ?_)
      refine Runs.retC Try.func17 Try.results17 rfl (fun w hm => hR _ w _ Hk _ (by simp) (hle) ?_ hm)
      exact ⟨vm, by rw [← hfin], by rw [← hfin]; exact hr⟩
  · rw [decide_eq_false c1]
    have hkm : k = m := by omega
    have hfin : d = replS a nilD (ss.take m) := by rw [hd2, hkm]
    repeat (first | refine a1 ?_ | refine a3 ?_ | refine a4 ?_ | refine a5 ?_ | refine a6 ?_ | refine s_loadBs ?_ | refine a8 ?_ | refine a9 ?_)
    refine Runs.retC Try.func17 Try.results17 rfl (fun w hm => hR _ w _ Hk _ (by simp) (hle) ?_ hm)
    exact ⟨vm, by rw [← hfin], by rw [← hfin]; exact hr⟩
end Go.Proofs.Ytbiohkncdlhigaa

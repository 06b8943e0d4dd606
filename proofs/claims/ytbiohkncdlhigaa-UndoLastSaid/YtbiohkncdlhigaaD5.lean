/-
  Contracts: Do of both sides, equality of documents, finding marks. Conditions: the document's marks lie in its text.
-/
import Derived.Test.YtbiohkncdlhigaaD4
namespace Go.Proofs.Ytbiohkncdlhigaa
open Go Go.RowKit

theorem carryL_succ {ms : List Mk} {e : Ed} {k : Nat} {m : Mk} (h : ms[k]? = some m) : carryL (ms.take (k + 1)) e = carryL (ms.take k) e ++ if (carryM m e).2 = true then [(carryM m e).1] else [] := by
  unfold carryL
  rw [take_snoc_of h, List.filterMap_append]
  congr 1
  by_cases hc : (carryM m e).2 = true <;> simp [hc]
abbrev mkCs (ms : List Mk) : List Value := ms.flatMap mkC
theorem mkCs_snoc (ms : List Mk) (x : Mk) : mkCs (ms ++ [x]) = mkCs ms ++ mkC x := by simp [mkCs]
theorem mkCs_rep (H : Snap) (ms : List Mk) : CellsRep H MarkL ms (mkCs ms) := flat_rep ms

set_option maxHeartbeats 2000000 in
theorem do_c {H : Snap} {s : List UInt8} {vm : Value} {ms : List Mk} {e : Ed} (hv : SliceRep H MarkL vm ms) (hs : s.length ≤ 100000) (ht : e.tx.length ≤ 100000) (hms : ∀ m ∈ ms, okM s.length m) (hml : ms.length ≤ 100000) :
    Pure Try.prog 89 #[.agg #[str s, vm], edV e] H (fun H' r => ∃ v, r = .tuple #[v, .int .i64 (doD ⟨s, ms⟩ e).2] ∧ DocR H' v (doD ⟨s, ms⟩ e).1) := by
  refine Pure.intro Try.func89 rfl Try.ntmps89 rfl (fun E R hM hR => ?_)
  repeat (first | refine a4 ?_ | refine a6 ?_)
  refine RW.box rfl rfl rfl rfl (fun b2 => ?_)
  refine RW.box rfl rfl rfl rfl (fun b3 => ?_)
  refine RW.alloc rfl rfl rfl (fun b4 => ?_)
  repeat (first | refine a1 ?_ | refine a4 ?_ | refine a5 ?_ | refine a6 ?_ | refine s_loadBs ?_ | refine s_fieldB ?_ | refine s_loadB ?_ | refine s_lenS ?_)
  refine RW.callV rfl (poss_c (H := H) (e := e) (n := s.length) ht (by omega)) rfl rfl ?_
  rintro _ _ rfl
  repeat (first | refine a1 ?_ | refine a5 ?_)
  by_cases hp : possE e s.length
  · rw [decide_eq_true hp]
    repeat (first | refine a4 ?_ | refine a6 ?_ | refine s_loadBs ?_ | refine s_fieldB ?_ | refine s_loadB ?_ | refine a8 ?_)
    refine RW.callV rfl (apply_c (H := H) hs hp) rfl rfl ?_
    rintro _ _ rfl
    have hal := applyT_length hp
    have hpn := hp.nums
    repeat (refine s_build ?_)
    refine RW.alloc rfl rfl rfl (fun b6 => ?_)
    repeat (first | refine a1 ?_ | refine a4 ?_ | refine a5 ?_ | refine a6 ?_ | refine s_fieldB ?_ | refine s_loadB ?_ | refine s_lenS ?_ | refine a9 ?_)
    refine Runs.cond_d rfl (fun hbig => ?_) (fun hbig => ?_)
    · have hd : doD ⟨s, ms⟩ e = (⟨[], []⟩, 2) := by rw [doD, if_pos hp, if_pos (by dsimp only; omega)]
      rw [hd] at hR
      repeat (first | refine a1 ?_ | refine a4 ?_ | refine a5 ?_ | refine a6 ?_ | refine s_build ?_ | refine a9 ?_)
      refine Runs.retCT Try.func89 Try.results89 rfl rfl (fun w hm => hR _ w _ H _ (List.mem_cons_self ..) (Snap.le.refl _) ?_ hm)
      exact ⟨_, rfl, _, rfl, SliceRep.nil⟩
    · have hd : doD ⟨s, ms⟩ e = (⟨applyT s e, carryL ms e⟩, 0) := by rw [doD, if_pos hp, if_neg (by dsimp only; omega)]
      rw [hd] at hR
      have hvs := hv.isSl
      generalize applyT s e = t at *
      repeat (first | refine a1 ?_ | refine a4 ?_ | refine a5 ?_ | refine a6 ?_ | refine s_fieldB ?_ | refine s_loadB ?_ | refine s_len ?_)
      refine Runs.addNil 44 4 ?_
      refine Runs.loop (fun (s : Nat × Value) => s.1 ≤ ms.length) (fun s => ms.length - s.1) (fun _ => [H])
        (fun s => [.row 44 4 s.2 (carryL (ms.take s.1) e).length (mkCs (carryL (ms.take s.1) e)), .blk b6 36 [str t, s.2], .blk b4 36 [str [], .slice none 0 0], .blk b3 31 [.int .i64 e.k, .int .i64 e.at_, .int .i64 e.len, .int .i64 e.to_, str e.tx]])
        (fun s => [(3, .pointer (some ⟨b3, 0, none⟩)), (4, .pointer (some ⟨b4, 0, none⟩)), (6, .pointer (some ⟨b6, 0, none⟩)), (29, vm), (30, .int .i64 (ms.length : Int)), (31, .int .i64 (s.1 : Int))]) (0, .slice none 0 0) (Nat.zero_le _) (fun h => by
          refine Runs.weak (h) (by repeat (first | exact trivial | refine And.intro rfl ?_)) (fun x hx => List.mem_cons_of_mem _ (SubH.h x hx)) (by repeat (first | exact List.nil_sublist _ | exact List.Sublist.refl _ | refine List.Sublist.cons_cons _ ?_ | refine List.Sublist.cons _ ?_))) ?_
      rintro ⟨k, v⟩ hk ih
      dsimp only at hk ⊢
      refine Runs.rowSl v (fun hrv _ => ?_)
      have hcl := carryL_length (ms.take k) e
      have htk : (ms.take k).length = k := by simp; omega
      repeat (first | refine a1 ?_ | refine a4 ?_ | refine a5 ?_ | refine a6 ?_)
      refine Runs.cond_d rfl (fun hkl => ?_) (fun hkl => ?_)
      · obtain ⟨m, hmk⟩ : ∃ m, ms[k]? = some m := ⟨_, List.getElem?_eq_getElem (by omega)⟩
        have hml2 := hv.mk hmk
        have hcs := carryL_succ (e := e) hmk
        repeat (first | refine a4 ?_ | refine a6 ?_ | refine s_loadHs ?_ | refine s_index ?_)
        refine RW.alloc rfl rfl rfl (fun b8 => ?_)
        repeat (first | refine a4 ?_ | refine a5 ?_ | refine a6 ?_ | refine s_loadBs ?_ | refine a9 ?_)
        refine RW.callV rfl (carry_c (H := H) (hms m (List.mem_of_getElem? hmk)) hp (by omega)) rfl rfl ?_
        rintro _ _ rfl
        repeat (refine a1 ?_)
        refine RW.alloc rfl rfl rfl (fun b9 => ?_)
        repeat (first | refine a1 ?_ | refine a4 ?_ | refine a5 ?_ | refine a6 ?_ | refine a9 ?_)
        refine Runs.cond rfl (fun hc => ?_) (fun hc => ?_)
        · rw [if_pos hc] at hcs
          repeat (first | refine a6 ?_ | refine s_loadBs ?_ | refine s_fieldB ?_ | refine s_loadB ?_)
          refine RW.buildSlice rfl rfl rfl rfl rfl rfl rfl (fun v45 hv45 => ?_)
          refine RW.appendR rfl rfl (by assumption) rfl rfl rfl (by decide) (by omega) (by omega) (fun _ => inferInstance) rfl rfl (fun v46 hv46 => ?_)
          repeat (first | refine a1 ?_ | refine a4 ?_ | refine a5 ?_ | refine a6 ?_ | refine s_fieldB ?_ | refine s_addI ?_ | refine a10 ?_)
          have h := ih (k + 1, v46) (by dsimp only; omega) (by dsimp only; omega)
          dsimp only at h
          rw [hcs, List.length_append, mkCs_snoc] at h
          refine Runs.weak (h) (by repeat (first | exact trivial | refine And.intro rfl ?_)) (fun x hx => List.mem_cons_of_mem _ (SubH.h x hx)) (by repeat (first | exact List.nil_sublist _ | exact List.Sublist.refl _ | refine List.Sublist.cons_cons _ ?_ | refine List.Sublist.cons _ ?_))
        · rw [if_neg (by rw [hc]; simp), List.append_nil] at hcs
          repeat (first | refine a1 ?_ | refine a4 ?_ | refine a5 ?_ | refine a6 ?_ | refine s_addI ?_)
          have h := ih (k + 1, v) (by dsimp only; omega) (by dsimp only; omega)
          dsimp only at h
          rw [hcs] at h
          refine Runs.weak (h) (by repeat (first | exact trivial | refine And.intro rfl ?_)) (fun x hx => List.mem_cons_of_mem _ (SubH.h x hx)) (by repeat (first | exact List.nil_sublist _ | exact List.Sublist.refl _ | refine List.Sublist.cons_cons _ ?_ | refine List.Sublist.cons _ ?_))
      · have hke : ms.take k = ms := List.take_of_length_le (by omega)
        rw [hke]
        refine Runs.freeze (H := H) v hM (fun H5 hle5 hs5 hc5 => ?_)
        have hr5 : SliceRep H5 MarkL v (carryL ms e) := SliceRep.of_row hs5 rfl (mkCs_rep H5 _) (Snap.le.refl _) hc5
        repeat (first | refine a1 ?_ | refine a4 ?_ | refine a5 ?_ | refine a6 ?_ | refine s_loadBs ?_ | refine a9 ?_)
        refine Runs.retCT Try.func89 Try.results89 rfl rfl (fun w hm => hR _ w _ H5 _ (by simp) (hle5) ?_ hm)
        exact ⟨_, rfl, _, rfl, hr5⟩
  · have hd : doD ⟨s, ms⟩ e = (⟨[], []⟩, 290) := by rw [doD, if_neg hp]
    rw [hd] at hR
    rw [decide_eq_false hp]
    repeat (first | refine a1 ?_ | refine a4 ?_ | refine a5 ?_ | refine a6 ?_ | refine s_build ?_ | refine a7 ?_ | refine a9 ?_)
    refine Runs.retCT Try.func89 Try.results89 rfl rfl (fun w hm => hR _ w _ H _ (List.mem_cons_self ..) (Snap.le.refl _) ?_ hm)
    exact ⟨_, rfl, _, rfl, SliceRep.nil⟩

set_option maxHeartbeats 2000000 in
theorem rdo_c {H : Snap} {s : List UInt8} {vm : Value} {ms : List Mk} {e : Ed} (hv : SliceRep H MarkL vm ms) (hs : s.length ≤ 100000) (ht : e.tx.length ≤ 100000) (hms : ∀ m ∈ ms, okM s.length m) (hml : ms.length ≤ 100000) :
    Pure Try.prog 53 #[.agg #[str s, vm], edV e] H (fun H' r => ∃ v, r = .tuple #[v, .int .i64 (doD ⟨s, ms⟩ e).2] ∧ DocR H' v (doD ⟨s, ms⟩ e).1) := by
  refine Pure.intro Try.func53 rfl Try.ntmps53 rfl (fun E R hM hR => ?_)
  repeat (first | refine a4 ?_ | refine a6 ?_)
  refine RW.box rfl rfl rfl rfl (fun b2 => ?_)
  refine RW.box rfl rfl rfl rfl (fun b3 => ?_)
  refine RW.alloc rfl rfl rfl (fun b4 => ?_)
  repeat (first | refine a1 ?_ | refine a4 ?_ | refine a5 ?_ | refine a6 ?_ | refine s_loadBs ?_ | refine s_fieldB ?_ | refine s_loadB ?_ | refine s_lenS ?_)
  refine RW.callV rfl (rposs_c (H := H) (e := e) (n := s.length) ht (by omega)) rfl rfl ?_
  rintro _ _ rfl
  repeat (first | refine a1 ?_ | refine a5 ?_)
  by_cases hp : possE e s.length
  · rw [decide_eq_true hp]
    repeat (first | refine a4 ?_ | refine a6 ?_ | refine s_loadBs ?_ | refine s_fieldB ?_ | refine s_loadB ?_ | refine a8 ?_)
    refine RW.callV rfl (rtext_c (H := H) hs hp) rfl rfl ?_
    rintro _ _ rfl
    have hal := applyT_length hp
    have hpn := hp.nums
    repeat (refine s_build ?_)
    refine RW.alloc rfl rfl rfl (fun b6 => ?_)
    repeat (first | refine a1 ?_ | refine a4 ?_ | refine a5 ?_ | refine a6 ?_ | refine s_fieldB ?_ | refine s_loadB ?_ | refine s_lenS ?_ | refine a9 ?_)
    refine Runs.cond_d rfl (fun hbig => ?_) (fun hbig => ?_)
    · have hd : doD ⟨s, ms⟩ e = (⟨[], []⟩, 2) := by rw [doD, if_pos hp, if_pos (by dsimp only; omega)]
      rw [hd] at hR
      repeat (first | refine a1 ?_ | refine a4 ?_ | refine a5 ?_ | refine a6 ?_ | refine s_build ?_ | refine a9 ?_)
      refine Runs.retCT Try.func53 Try.results53 rfl rfl (fun w hm => hR _ w _ H _ (List.mem_cons_self ..) (Snap.le.refl _) ?_ hm)
      exact ⟨_, rfl, _, rfl, SliceRep.nil⟩
    · have hd : doD ⟨s, ms⟩ e = (⟨applyT s e, carryL ms e⟩, 0) := by rw [doD, if_pos hp, if_neg (by dsimp only; omega)]
      rw [hd] at hR
      have hvs := hv.isSl
      generalize applyT s e = t at *
      repeat (first | refine a1 ?_ | refine a4 ?_ | refine a5 ?_ | refine a6 ?_)
      refine Runs.addNil 44 4 ?_
      refine Runs.loop (fun (s : Nat × Value) => s.1 ≤ ms.length) (fun s => ms.length - s.1) (fun _ => [H])
        (fun u => [.row 44 4 u.2 (carryL (ms.take u.1) e).length (mkCs (carryL (ms.take u.1) e)), .blk b6 36 [str t, u.2], .blk b4 36 [str [], .slice none 0 0], .blk b3 31 [.int .i64 e.k, .int .i64 e.at_, .int .i64 e.len, .int .i64 e.to_, str e.tx], .blk b2 36 [str s, vm]])
        (fun u => [(2, .pointer (some ⟨b2, 0, none⟩)), (3, .pointer (some ⟨b3, 0, none⟩)), (4, .pointer (some ⟨b4, 0, none⟩)), (6, .pointer (some ⟨b6, 0, none⟩)), (7, .int .i64 (u.1 : Int))]) (0, .slice none 0 0) (Nat.zero_le _) (fun h => by
          refine Runs.weak (h) (by repeat (first | exact trivial | refine And.intro rfl ?_)) (fun x hx => List.mem_cons_of_mem _ (SubH.h x hx)) (by repeat (first | exact List.nil_sublist _ | exact List.Sublist.refl _ | refine List.Sublist.cons_cons _ ?_ | refine List.Sublist.cons _ ?_))) ?_
      rintro ⟨k, v⟩ hk ih
      dsimp only at hk ⊢
      refine Runs.rowSl v (fun hrv _ => ?_)
      have hcl := carryL_length (ms.take k) e
      have htk : (ms.take k).length = k := by simp; omega
      repeat (first | refine a1 ?_ | refine a4 ?_ | refine a5 ?_ | refine a6 ?_ | refine s_fieldB ?_ | refine s_loadB ?_ | refine s_len ?_)
      refine Runs.cond_d rfl (fun hkl => ?_) (fun hkl => ?_)
      · obtain ⟨m, hmk⟩ : ∃ m, ms[k]? = some m := ⟨_, List.getElem?_eq_getElem (by omega)⟩
        have hml2 := hv.mk hmk
        have hcs := carryL_succ (e := e) hmk
        repeat (refine a4 ?_)
        refine Runs.regionD _ _ [11] (fun x hx => List.mem_cons_of_mem _ hx) (List.Sublist.refl _) (by kernel_rfl) ?_
        refine t_fieldB 0 ?_
        refine t_loadB 1 ?_
        refine d2 2 ?_
        refine t_index 3 ?_
        refine t_loadHs 4 ?_
        refine t_loadBs 5 ?_
        refine DW.float 10 rfl rfl ?_
        refine DWf.call 6 rfl rfl rfl (by kernel_rfl) (by kernel_rfl) rfl rfl rfl rfl rfl rfl (rcarry_c (H := H) (hms m (List.mem_of_getElem? hmk)) hp (by omega)) ?_
        rintro _ H2 rfl _
        refine DWf.qF 7 rfl rfl (by kernel_rfl) (qev_eq rfl) (fun _ => qev_eq rfl) rfl rfl ?_
        refine DWf.qF 8 rfl rfl (by kernel_rfl) (qev_eq rfl) (fun _ => qev_eq rfl) rfl rfl ?_
        refine DWf.qF 9 rfl rfl (by kernel_rfl) (qev_eq rfl) (fun _ => qev_eq rfl) rfl rfl ?_
        refine DWf.take rfl (by kernel_rfl) rfl rfl rfl (fun b8 => ?_)
        simp only [List.cons_append, List.nil_append]
        refine DW.storeB 11 rfl (by kernel_rfl) rfl rfl rfl rfl (by first | rfl | (simp [allOne, cellsL, one1]; done) | (simp [allOne, cellsL, one1]; first | assumption | (refine ⟨?_, ?_⟩ <;> assumption))) rfl ?_
        refine d2 12 ?_
        refine DW.done (by kernel_rfl) ?_
        repeat (first | refine a1 ?_ | refine a4 ?_ | refine a5 ?_ | refine a6 ?_)
        refine Runs.cond rfl (fun hc => ?_) (fun hc => ?_)
        · rw [if_pos hc] at hcs
          repeat (first | refine a6 ?_ | refine s_loadBs ?_ | refine s_fieldB ?_ | refine s_loadB ?_)
          refine RW.buildSlice rfl rfl rfl rfl rfl rfl rfl (fun v45 hv45 => ?_)
          refine RW.appendR rfl rfl (by assumption) rfl rfl rfl (by decide) (by omega) (by omega) (fun _ => inferInstance) rfl rfl (fun v46 hv46 => ?_)
          repeat (first | refine a1 ?_ | refine a4 ?_ | refine a5 ?_ | refine a6 ?_ | refine s_fieldB ?_ | refine s_addI ?_ | refine a10 ?_)
          have h := ih (k + 1, v46) (by dsimp only; omega) (by dsimp only; omega)
          dsimp only at h
          rw [hcs, List.length_append, mkCs_snoc] at h
          refine Runs.weak (h) (by repeat (first | exact trivial | refine And.intro rfl ?_)) (fun x hx => List.mem_cons_of_mem _ (SubH.h x hx)) (by repeat (first | exact List.nil_sublist _ | exact List.Sublist.refl _ | refine List.Sublist.cons_cons _ ?_ | refine List.Sublist.cons _ ?_))
        · rw [if_neg (by rw [hc]; simp), List.append_nil] at hcs
          repeat (first | refine a1 ?_ | refine a4 ?_ | refine a5 ?_ | refine a6 ?_ | refine s_addI ?_)
          have h := ih (k + 1, v) (by dsimp only; omega) (by dsimp only; omega)
          dsimp only at h
          rw [hcs] at h
          refine Runs.weak (h) (by repeat (first | exact trivial | refine And.intro rfl ?_)) (fun x hx => List.mem_cons_of_mem _ (SubH.h x hx)) (by repeat (first | exact List.nil_sublist _ | exact List.Sublist.refl _ | refine List.Sublist.cons_cons _ ?_ | refine List.Sublist.cons _ ?_))
      · have hke : ms.take k = ms := List.take_of_length_le (by omega)
        rw [hke]
        refine Runs.freeze (H := H) v hM (fun H5 hle5 hs5 hc5 => ?_)
        have hr5 : SliceRep H5 MarkL v (carryL ms e) := SliceRep.of_row hs5 rfl (mkCs_rep H5 _) (Snap.le.refl _) hc5
        repeat (first | refine a1 ?_ | refine a4 ?_ | refine a5 ?_ | refine a6 ?_ | refine s_loadBs ?_ | refine a9 ?_)
        refine Runs.retCT Try.func53 Try.results53 rfl rfl (fun w hm => hR _ w _ H5 _ (by simp) (hle5) ?_ hm)
        exact ⟨_, rfl, _, rfl, hr5⟩
  · have hd : doD ⟨s, ms⟩ e = (⟨[], []⟩, 290) := by rw [doD, if_neg hp]
    rw [hd] at hR
    rw [decide_eq_false hp]
    repeat (first | refine a1 ?_ | refine a4 ?_ | refine a5 ?_ | refine a6 ?_ | refine s_build ?_ | refine a7 ?_ | refine a9 ?_)
    refine Runs.retCT Try.func53 Try.results53 rfl rfl (fun w hm => hR _ w _ H _ (List.mem_cons_self ..) (Snap.le.refl _) ?_ hm)
    exact ⟨_, rfl, _, rfl, SliceRep.nil⟩
end Go.Proofs.Ytbiohkncdlhigaa

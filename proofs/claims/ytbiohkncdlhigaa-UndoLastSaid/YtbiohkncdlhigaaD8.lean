/-
  Contract: Put of the reference. Conditions: the document's marks lie in its text, in order.
-/
import Derived.Test.YtbiohkncdlhigaaD7
namespace Go.Proofs.Ytbiohkncdlhigaa
open Go Go.RowKit

theorem cntLt_le (ms : List Mk) (i : Int) : cntLt ms i ≤ ms.length := by
  unfold cntLt
  exact (List.takeWhile_sublist _).length_le
theorem tw_imp {α : Type} {p : α → Bool} : ∀ {L : List α} {x : α}, x ∈ L.takeWhile p → p x = true
  | [], _, h => by cases h
  | y :: L, x, h => by
    rw [List.takeWhile_cons] at h
    split at h
    · rename_i hy
      rcases List.mem_cons.1 h with rfl | h
      · exact hy
      · exact tw_imp h
    · cases h
theorem cntLt_lt {ms : List Mk} (hs : ms.Pairwise (fun a b => a.id < b.id)) {i : Int} (hno : ¬ hasId ms i) {k : Nat} {m : Mk} (hm : ms[k]? = some m) : i < m.id ↔ cntLt ms i ≤ k := by
  have hkl := (List.getElem?_eq_some_iff.1 hm).1
  have hle := cntLt_le ms i
  have hne : m.id ≠ i := fun e => hno ⟨m, List.mem_of_getElem? hm, e⟩
  have hp : ms.takeWhile (fun m : Mk => decide (m.id < i)) = ms.take (cntLt ms i) := (take_while (fun m : Mk => decide (m.id < i)) ms).1
  have hd : ms.dropWhile (fun m : Mk => decide (m.id < i)) = ms.drop (cntLt ms i) := (take_while (fun m : Mk => decide (m.id < i)) ms).2
  constructor
  · intro h
    refine Nat.le_of_not_lt fun hlt => ?_
    have hmem : m ∈ ms.takeWhile (fun m : Mk => decide (m.id < i)) := by
      rw [hp]
      exact List.mem_of_getElem? (i := k) (by rw [List.getElem?_take_of_lt hlt]; exact hm)
    have := tw_imp hmem
    simp only [decide_eq_true_eq] at this
    omega
  · intro h
    have hle2 : cntLt ms i < ms.length := by omega
    obtain ⟨y, hy⟩ : ∃ y, ms[cntLt ms i]? = some y := ⟨_, List.getElem?_eq_getElem (by omega)⟩
    have hyi : ¬ y.id < i := by
      have h2 : (ms.dropWhile (fun m : Mk => decide (m.id < i))).head? = some y := by rw [hd, List.head?_drop]; exact hy
      have h3 := List.head?_dropWhile_not (fun m : Mk => decide (m.id < i)) ms
      rw [h2] at h3
      simpa using h3
    rcases Nat.lt_or_ge (cntLt ms i) k with h2 | h2
    · have := sorted_at hs hy hm h2; omega
    · have e : cntLt ms i = k := by omega
      rw [e, hm] at hy
      have e2 := Option.some.inj hy
      subst e2
      omega
theorem carryL_noId {ms : List Mk} {e : Ed} {s : List UInt8} {i : Int} (hm : ∀ m ∈ ms, okM s.length m) (h : possE e s.length) (hno : ¬ hasId ms i) : ¬ hasId (carryL ms e) i := by
  rintro ⟨m, hmem, hi⟩
  obtain ⟨x, hx, he⟩ := List.mem_filterMap.1 hmem
  split at he
  · rename_i hc
    injection he with he
    subst he
    exact hno ⟨x, hx, by rw [← (carryM_ok (hm x hx) h hc).2]; exact hi⟩
  · cases he
/-- The marks of the loop after k of them. -/
def putL (x : Mk) (ms : List Mk) (k : Nat) : List Mk := if cntLt ms x.id < k then ms.take (cntLt ms x.id) ++ x :: (ms.take k).drop (cntLt ms x.id) else ms.take k
theorem putL_end (x : Mk) (ms : List Mk) : (if cntLt ms x.id < ms.length then putL x ms ms.length else putL x ms ms.length ++ [x]) = insM x ms := by
  rw [insM_cnt]
  unfold putL
  by_cases h : cntLt ms x.id < ms.length
  · rw [if_pos h, if_pos h, List.take_length]
  · have := cntLt_le ms x.id
    rw [if_neg h, if_neg h, List.take_length, List.take_of_length_le (by omega), List.drop_eq_nil_of_le (by omega)]
theorem putL_succ {x : Mk} {ms : List Mk} {k : Nat} {m : Mk} (h : ms[k]? = some m) : putL x ms (k + 1) = if cntLt ms x.id = k then putL x ms k ++ [x] ++ [m] else putL x ms k ++ [m] := by
  unfold putL
  have htk := take_snoc_of h
  have hkl := (List.getElem?_eq_some_iff.1 h).1
  rw [htk]
  by_cases h1 : cntLt ms x.id = k
  · rw [if_pos h1, if_pos (by omega), if_neg (by omega), h1, List.drop_append_of_le_length (by simp; omega), List.drop_eq_nil_of_le (by simp; omega)]
    simp
  · rw [if_neg h1]
    by_cases h2 : cntLt ms x.id < k
    · rw [if_pos (by omega), if_pos h2, List.drop_append_of_le_length (by simp; omega)]
      simp
    · rw [if_neg (by omega), if_neg h2]
theorem putL_length (x : Mk) (ms : List Mk) (k : Nat) : (putL x ms k).length ≤ k + 1 := by
  unfold putL
  split <;> simp <;> omega

set_option maxHeartbeats 2000000 in
theorem rput_c {H : Snap} {s t : List UInt8} {vm : Value} {ms : List Mk} {i a : Int} (hv : SliceRep H MarkL vm ms) (hl : s.length ≤ 100000) (ht : t.length ≤ 100000) (hok : ∀ m ∈ ms, okM s.length m) (hml : ms.length ≤ 100000) (hs : ms.Pairwise (fun a b => a.id < b.id)) :
    Pure Try.prog 54 #[.agg #[str s, vm], .agg #[.int .i64 i, .int .i64 a, str t]] H (fun H' r => ∃ v, r = .tuple #[v, .int .i64 (putD ⟨s, ms⟩ i a t).2] ∧ DocR H' v (putD ⟨s, ms⟩ i a t).1) := by
  have hba := hv.isSl.bound
  refine Pure.intro Try.func54 rfl Try.ntmps54 rfl (fun E R hM hR => ?_)
  repeat (first | refine a4 ?_ | refine a6 ?_)
  refine RW.box rfl rfl rfl rfl (fun b2 => ?_)
  refine RW.box rfl rfl rfl rfl (fun b3 => ?_)
  refine RW.alloc rfl rfl rfl (fun b4 => ?_)
  repeat (first | refine a1 ?_ | refine a4 ?_ | refine a5 ?_ | refine a6 ?_ | refine s_fieldB ?_ | refine s_loadB ?_ | refine s_build ?_)
  refine RW.alloc rfl rfl rfl (fun b6 => ?_)
  repeat (first | refine a4 ?_ | refine a5 ?_ | refine a6 ?_ | refine s_fieldB ?_ | refine s_loadB ?_ | refine s_loadBs ?_ | refine s_lenS ?_ | refine a9 ?_)
  refine RW.callV rfl (rposs_c (H := H) (e := ⟨1, a, 0, 0, t⟩) (n := s.length) ht (by omega)) rfl rfl ?_
  rintro _ _ rfl
  by_cases hp : possE ⟨1, a, 0, 0, t⟩ s.length
  · rw [decide_eq_true hp]
    repeat (first | refine a1 ?_ | refine s_fieldB ?_ | refine s_loadB ?_)
    refine RW.dec 29 rfl (fun hi0 => ?_) (fun hi0 => ?_)
    · have hd : putD ⟨s, ms⟩ i a t = (⟨[], []⟩, 290) := by rw [putD, if_pos (.inr (.inl hi0))]
      rw [hd] at hR
      repeat (first | refine a1 ?_ | refine a3 ?_ | refine a4 ?_ | refine a5 ?_ | refine a6 ?_ | refine s_build ?_ | refine a7 ?_ | refine a9 ?_)
      refine Runs.retCT Try.func54 Try.results54 rfl rfl (fun w hm => hR _ w _ H _ (List.mem_cons_self ..) (Snap.le.refl _) ?_ hm)
      exact ⟨_, rfl, _, rfl, SliceRep.nil⟩
    repeat (first | refine s_fieldB ?_ | refine s_loadB ?_ | refine s_loadBs ?_)
    refine RW.callV rfl (rfind_c hv (i := i)) rfl rfl ?_
    rintro v9 H2 hf
    rcases hf with ⟨hno, rfl⟩ | ⟨k, m, hm, hmi, rfl⟩
    · have hpd : putD ⟨s, ms⟩ i a t = if (doD ⟨s, ms⟩ ⟨1, a, 0, 0, t⟩).2 ≠ 0 ∨ 100 ≤ ms.length then (⟨[], []⟩, 2) else (⟨(doD ⟨s, ms⟩ ⟨1, a, 0, 0, t⟩).1.tx, insM ⟨i, a, a + t.length, true⟩ (doD ⟨s, ms⟩ ⟨1, a, 0, 0, t⟩).1.ms⟩, 0) := by
        rw [putD, if_neg]
        rintro (h | h | h)
        · exact h hp
        · omega
        · exact hno h
      have hpn := hp.nums
      dsimp only at hpn
      repeat (first | refine a1 ?_ | refine a4 ?_ | refine a5 ?_ | refine a6 ?_ | refine s_loadBs ?_ | refine a8 ?_)
      refine RW.call rfl (rdo_c (e := ⟨1, a, 0, 0, t⟩) hv hl ht hok hml) rfl rfl ?_
      rintro v8 H3 ⟨vd, hvd, hrd⟩ hle3
      subst hvd
      by_cases hbig : 400 < (applyT s ⟨1, a, 0, 0, t⟩).length
      · have hdd : doD ⟨s, ms⟩ ⟨1, a, 0, 0, t⟩ = (⟨[], []⟩, 2) := by rw [doD, if_pos hp, if_pos hbig]
        rw [hdd] at hrd hpd ⊢
        rw [if_pos (.inl (by decide))] at hpd
        rw [hpd] at hR
        obtain ⟨vm3, rfl, hrm3⟩ := hrd
        dsimp only at *
        have hi3 := hrm3.isSl
        have ho3 := hi3.one1
        repeat (refine a1 ?_)
        refine RW.alloc rfl rfl rfl (fun b7 => ?_)
        repeat (first | refine a1 ?_ | refine a3 ?_ | refine a4 ?_ | refine a5 ?_ | refine a6 ?_ | refine s_build ?_ | refine a7 ?_ | refine a9 ?_)
        refine Runs.retCT Try.func54 Try.results54 rfl rfl (fun w hm => hR _ w _ H _ (List.mem_cons_self ..) (Snap.le.refl _) ?_ hm)
        exact ⟨_, rfl, _, rfl, SliceRep.nil⟩
      · have hdd : doD ⟨s, ms⟩ ⟨1, a, 0, 0, t⟩ = (⟨applyT s ⟨1, a, 0, 0, t⟩, carryL ms ⟨1, a, 0, 0, t⟩⟩, 0) := by rw [doD, if_pos hp, if_neg hbig]
        rw [hdd] at hrd hpd ⊢
        obtain ⟨vm3, rfl, hrm3⟩ := hrd
        have hs3 := carryL_sorted hok hp hs
        have hno3 := carryL_noId hok hp hno
        have hcl := carryL_length ms ⟨1, a, 0, 0, t⟩
        dsimp only at *
        generalize carryL ms ⟨1, a, 0, 0, t⟩ = ms3 at *
        generalize applyT s ⟨1, a, 0, 0, t⟩ = s3 at *
        have hi3 := hrm3.isSl
        have ho3 := hi3.one1
        have hb3 := hi3.bound
        repeat (refine a1 ?_)
        refine RW.alloc rfl rfl rfl (fun b7 => ?_)
        repeat (first | refine a1 ?_ | refine a4 ?_ | refine a5 ?_ | refine a6 ?_ | refine s_fieldB ?_ | refine s_loadB ?_ | refine s_len ?_ | refine a9 ?_)
        refine Runs.cond_d rfl (fun hfull => ?_) (fun hfull => ?_)
        · rw [if_pos (.inr (by omega))] at hpd
          rw [hpd] at hR
          repeat (first | refine a1 ?_ | refine a4 ?_ | refine a5 ?_ | refine a6 ?_ | refine s_build ?_ | refine a9 ?_)
          refine Runs.retCT Try.func54 Try.results54 rfl rfl (fun w hm => hR _ w _ H _ (List.mem_cons_self ..) (Snap.le.refl _) ?_ hm)
          exact ⟨_, rfl, _, rfl, SliceRep.nil⟩
        rw [if_neg (by omega)] at hpd
        rw [hpd] at hR
        repeat (first | refine a4 ?_ | refine a6 ?_)
        refine RW.buildSlice rfl rfl rfl rfl rfl rfl rfl (fun v9 hv9 => ?_)
        repeat (first | refine a1 ?_ | refine a4 ?_ | refine a5 ?_ | refine a6 ?_ | refine s_fieldB ?_ | refine s_loadB ?_ | refine s_build ?_ | refine s_lenS ?_ | refine s_addI ?_)
        refine RW.alloc rfl rfl rfl (fun b11 => ?_)
        repeat (first | refine a1 ?_ | refine a4 ?_ | refine a5 ?_ | refine a6 ?_ | refine a9 ?_)
        have h0 : putL ⟨i, a, a + t.length, true⟩ ms3 0 = [] := by simp [putL]
        refine Runs.loop (fun (u : Nat × Value) => u.1 ≤ ms3.length) (fun u => ms3.length - u.1) (fun _ => [H3, H])
          (fun u => [.blk b11 44 [.int .i64 i, .int .i64 a, .int .i64 (a + (t.length : Int)), .bool true], .row 44 4 u.2 (putL ⟨i, a, a + t.length, true⟩ ms3 u.1).length (mkCs (putL ⟨i, a, a + t.length, true⟩ ms3 u.1)), .blk b7 36 [str s3, vm3], .blk b4 36 [str [], .slice none 0 0], .blk b3 98 [.int .i64 i, .int .i64 a, str t]])
          (fun u => [(3, .pointer (some ⟨b3, 0, none⟩)), (4, .pointer (some ⟨b4, 0, none⟩)), (7, .pointer (some ⟨b7, 0, none⟩)), (9, u.2), (10, .bool (decide (cntLt ms3 i < u.1))), (11, .pointer (some ⟨b11, 0, none⟩)), (12, .int .i64 (u.1 : Int)), (5, .int .i64 0)]) (0, v9) (Nat.zero_le _) (fun h => by
            dsimp only at h
            rw [h0, decide_eq_false (Nat.not_lt_zero _)] at h
            refine Runs.weak (h) (by repeat (first | exact trivial | refine And.intro rfl ?_)) (fun x hx => List.mem_cons_of_mem _ (SubH.h x hx)) (by repeat (first | exact List.nil_sublist _ | exact List.Sublist.refl _ | refine List.Sublist.cons_cons _ ?_ | refine List.Sublist.cons _ ?_))) ?_
        rintro ⟨k, v⟩ hk ih
        dsimp only at hk ⊢
        refine Runs.rowSl v (fun hrv _ => ?_)
        have hpl := putL_length ⟨i, a, a + t.length, true⟩ ms3 k
        repeat (first | refine a1 ?_ | refine a4 ?_ | refine a5 ?_ | refine a6 ?_ | refine s_fieldB ?_ | refine s_loadB ?_ | refine s_len ?_)
        refine Runs.cond_d rfl (fun hkl => ?_) (fun hkl => ?_)
        · obtain ⟨m, hmk⟩ : ∃ m, ms3[k]? = some m := ⟨_, List.getElem?_eq_getElem (by omega)⟩
          have hml2 := hrm3.mk hmk
          have hps := putL_succ (x := ⟨i, a, a + t.length, true⟩) hmk
          have hlt := cntLt_lt hs3 hno3 hmk
          by_cases hd : cntLt ms3 i < k
          · rw [decide_eq_true hd]
            rw [if_neg (by dsimp only; omega)] at hps
            repeat (refine a4 ?_)
            refine Runs.regionD _ _ [] (fun x hx => List.mem_cons_of_mem _ hx) (List.Sublist.refl _) (by kernel_rfl) ?_
            refine d1 0 3 ?_
            refine d3 3 ?_
            refine d3 4 ?_
            refine d3 5 ?_
            refine d3 6 ?_
            refine d3 7 ?_
            refine d3 8 ?_
            refine d3 9 ?_
            refine d3 10 ?_
            refine d3 11 ?_
            refine d2 12 ?_
            refine DW.done (by kernel_rfl) ?_
            repeat (first | refine a1 ?_ | refine a4 ?_ | refine a6 ?_ | refine s_fieldB ?_ | refine s_loadB ?_ | refine s_loadHs ?_ | refine s_index ?_ | refine a8 ?_)
            refine RW.buildSlice rfl rfl rfl rfl rfl rfl rfl (fun v94 hv94 => ?_)
            refine RW.appendR rfl rfl (by assumption) rfl rfl rfl (by decide) (by omega) (by omega) (fun _ => inferInstance) rfl rfl (fun v95 hv95 => ?_)
            repeat (first | refine a1 ?_ | refine a4 ?_ | refine a5 ?_ | refine a6 ?_ | refine s_addI ?_)
            have h := ih (k + 1, v95) (by dsimp only; omega) (by dsimp only; omega)
            dsimp only at h
            rw [hps, List.length_append, mkCs_snoc, decide_eq_true (by omega : cntLt ms3 i < k + 1)] at h
            refine Runs.weak (h) (by repeat (first | exact trivial | refine And.intro rfl ?_)) (fun x hx => List.mem_cons_of_mem _ (SubH.h x hx)) (by repeat (first | exact List.nil_sublist _ | exact List.Sublist.refl _ | refine List.Sublist.cons_cons _ ?_ | refine List.Sublist.cons _ ?_))
          · rw [decide_eq_false hd]
            repeat (refine a4 ?_)
            refine Runs.regionD _ _ [] (fun x hx => List.mem_cons_of_mem _ hx) (List.Sublist.refl _) (by kernel_rfl) ?_
            refine d1 0 3 ?_
            refine t_fieldB 3 ?_
            refine t_loadB 4 ?_
            refine t_fieldB 5 ?_
            refine t_loadB 6 ?_
            refine d2 7 ?_
            refine t_index 8 ?_
            refine t_fieldV 9 ?_
            refine t_loadH 10 ?_
            refine d1 11 2 ?_
            refine DW.done (by kernel_rfl) ?_
            skip
            refine Runs.cond_d rfl (fun hid => ?_) (fun hid => ?_)
            · rw [if_pos (by dsimp only; omega)] at hps
              repeat (first | refine a1 ?_ | refine a6 ?_ | refine s_loadBs ?_)
              refine RW.buildSlice rfl rfl rfl rfl rfl rfl rfl (fun v86 hv86 => ?_)
              refine RW.appendR rfl rfl (by assumption) rfl rfl rfl (by decide) (by omega) (by omega) (fun _ => inferInstance) rfl rfl (fun v87 hv87 => ?_)
              repeat (first | refine a1 ?_ | refine a5 ?_ | refine a6 ?_ | refine s_fieldB ?_ | refine s_loadB ?_ | refine s_loadHs ?_ | refine s_index ?_)
              refine RW.buildSlice rfl rfl rfl rfl rfl rfl rfl (fun v94 hv94 => ?_)
              refine RW.appendR rfl rfl (by assumption) rfl rfl rfl (by decide) (by omega) (by omega) (fun _ => inferInstance) rfl rfl (fun v95 hv95 => ?_)
              repeat (first | refine a1 ?_ | refine a4 ?_ | refine a5 ?_ | refine a6 ?_ | refine s_addI ?_)
              have h := ih (k + 1, v95) (by dsimp only; omega) (by dsimp only; omega)
              dsimp only at h
              rw [hps, List.length_append, mkCs_snoc, List.length_append, mkCs_snoc, decide_eq_true (by omega : cntLt ms3 i < k + 1)] at h
              refine Runs.weak (h) (by repeat (first | exact trivial | refine And.intro rfl ?_)) (fun x hx => List.mem_cons_of_mem _ (SubH.h x hx)) (by repeat (first | exact List.nil_sublist _ | exact List.Sublist.refl _ | refine List.Sublist.cons_cons _ ?_ | refine List.Sublist.cons _ ?_))
            · rw [if_neg (by dsimp only; omega)] at hps
              repeat (first | refine a1 ?_ | refine a4 ?_ | refine a6 ?_ | refine s_fieldB ?_ | refine s_loadB ?_ | refine s_loadHs ?_ | refine s_index ?_)
              refine RW.buildSlice rfl rfl rfl rfl rfl rfl rfl (fun v94 hv94 => ?_)
              refine RW.appendR rfl rfl (by assumption) rfl rfl rfl (by decide) (by omega) (by omega) (fun _ => inferInstance) rfl rfl (fun v95 hv95 => ?_)
              repeat (first | refine a1 ?_ | refine a4 ?_ | refine a5 ?_ | refine a6 ?_ | refine s_addI ?_)
              have h := ih (k + 1, v95) (by dsimp only; omega) (by dsimp only; omega)
              dsimp only at h
              rw [hps, List.length_append, mkCs_snoc, decide_eq_false (by omega : ¬ cntLt ms3 i < k + 1)] at h
              refine Runs.weak (h) (by repeat (first | exact trivial | refine And.intro rfl ?_)) (fun x hx => List.mem_cons_of_mem _ (SubH.h x hx)) (by repeat (first | exact List.nil_sublist _ | exact List.Sublist.refl _ | refine List.Sublist.cons_cons _ ?_ | refine List.Sublist.cons _ ?_))
        · have hke : k = ms3.length := by omega
          subst hke
          have hpe := putL_end ⟨i, a, a + t.length, true⟩ ms3
          dsimp only at hpe
          by_cases hd : cntLt ms3 i < ms3.length
          · rw [if_pos hd] at hpe
            rw [decide_eq_true hd, hpe]
            rw [hpe] at hrv
            have hov := hrv.one1
            repeat (first | refine a1 ?_ | refine a4 ?_ | refine a5 ?_ | refine a6 ?_ | refine s_fieldB ?_ | refine s_loadBs ?_ | refine a8 ?_ | refine a9 ?_ | refine a10 ?_)
            refine Runs.freeze (H := H) v hM (fun H5 hle5 hs5 hc5 => ?_)
            have hr5 : SliceRep H5 MarkL v _ := SliceRep.of_row hs5 rfl (mkCs_rep H5 _) (Snap.le.refl _) hc5
            skip
            refine Runs.retCT Try.func54 Try.results54 rfl rfl (fun w hm => hR _ w _ H5 _ (by simp) (hle5) ?_ hm)
            exact ⟨_, rfl, _, rfl, hr5⟩
          · rw [if_neg hd] at hpe
            rw [decide_eq_false hd]
            repeat (first | refine a1 ?_ | refine a4 ?_ | refine a5 ?_ | refine a6 ?_ | refine s_loadBs ?_ | refine a7 ?_)
            refine RW.buildSlice rfl rfl rfl rfl rfl rfl rfl (fun v100 hv100 => ?_)
            refine RW.appendR rfl rfl (by assumption) rfl rfl rfl (by decide) (by omega) (by omega) (fun _ => inferInstance) rfl rfl (fun v101 hv101 => ?_)
            have hov := hv101.one1
            have hl2 : (putL ⟨i, a, a + t.length, true⟩ ms3 ms3.length).length + 1 = (insM ⟨i, a, a + t.length, true⟩ ms3).length := by rw [← hpe]; simp
            have hc2 : mkCs (putL ⟨i, a, a + t.length, true⟩ ms3 ms3.length) ++ mkC ⟨i, a, a + t.length, true⟩ = mkCs (insM ⟨i, a, a + t.length, true⟩ ms3) := by rw [← hpe, mkCs_snoc]
            repeat (first | refine a1 ?_ | refine a4 ?_ | refine a5 ?_ | refine a6 ?_ | refine s_fieldB ?_ | refine s_loadBs ?_ | refine a9 ?_ | refine a10 ?_)
            refine Runs.freeze (H := H) v101 hM (fun H5 hle5 hs5 hc5 => ?_)
            rw [hl2] at hs5
            replace hc5 : ∀ (j : Nat) (u : Value), (mkCs (insM ⟨i, a, a + t.length, true⟩ ms3))[j]? = some u → H5.cell (vat v101 j) = some u := by rw [← hc2]; exact hc5
            have hr5 : SliceRep H5 MarkL v101 _ := SliceRep.of_row hs5 rfl (mkCs_rep H5 _) (Snap.le.refl _) hc5
            skip
            refine Runs.retCT Try.func54 Try.results54 rfl rfl (fun w hm => hR _ w _ H5 _ (by simp) (hle5) ?_ hm)
            exact ⟨_, rfl, _, rfl, hr5⟩
    · have hd : putD ⟨s, ms⟩ i a t = (⟨[], []⟩, 290) := by rw [putD, if_pos (.inr (.inr ⟨m, List.mem_of_getElem? hm, hmi⟩))]
      rw [hd] at hR
      repeat (first | refine a1 ?_ | refine a4 ?_ | refine a5 ?_ | refine a6 ?_ | refine s_build ?_ | refine a7 ?_ | refine a9 ?_)
      refine Runs.retCT Try.func54 Try.results54 rfl rfl (fun w hm => hR _ w _ H _ (List.mem_cons_self ..) (Snap.le.refl _) ?_ hm)
      exact ⟨_, rfl, _, rfl, SliceRep.nil⟩
  · have hd : putD ⟨s, ms⟩ i a t = (⟨[], []⟩, 290) := by rw [putD, if_pos (.inl hp)]
    rw [hd] at hR
    rw [decide_eq_false hp]
    repeat (first | refine a1 ?_ | refine a3 ?_ | refine a4 ?_ | refine a5 ?_ | refine a6 ?_ | refine s_build ?_ | refine a7 ?_ | refine a9 ?_)
    refine Runs.retCT Try.func54 Try.results54 rfl rfl (fun w hm => hR _ w _ H _ (List.mem_cons_self ..) (Snap.le.refl _) ?_ hm)
    exact ⟨_, rfl, _, rfl, SliceRep.nil⟩
end Go.Proofs.Ytbiohkncdlhigaa

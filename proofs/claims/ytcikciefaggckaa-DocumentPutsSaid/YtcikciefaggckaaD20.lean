/-
  The law DocumentPuts. Conditions: the raw data hold bytes.
-/
import Derived.Test.YtcikciefaggckaaD13
import Derived.Test.YtcikciefaggckaaD16
import Derived.Test.YtcikciefaggckaaDr
namespace Go.Proofs.Ytcikciefaggckaa
open Go Go.RowKit

theorem insM_end {x : Mk} {ms : List Mk} (h : ∀ m ∈ ms, m.id < x.id) : insM x ms = ms ++ [x] := by
  unfold insM
  have h1 : ms.takeWhile (fun m => decide (m.id < x.id)) = ms ∧ ms.dropWhile (fun m => decide (m.id < x.id)) = [] := by
    induction ms with
    | nil => exact ⟨rfl, rfl⟩
    | cons y ms ih =>
      have hy := h y (List.mem_cons_self ..)
      obtain ⟨i1, i2⟩ := ih fun m hm => h m (List.mem_cons_of_mem _ hm)
      rw [List.takeWhile_cons, List.dropWhile_cons, if_pos (by simpa using hy), if_pos (by simpa using hy), i1, i2]
      exact ⟨rfl, rfl⟩
  rw [h1.1, h1.2]
theorem carryL_from {ms : List Mk} {e : Ed} {s : List UInt8} {m : Mk} (hok : ∀ m ∈ ms, okM s.length m) (hp : possE e s.length) (hm : m ∈ carryL ms e) : ∃ z ∈ ms, (carryM z e).2 = true ∧ (carryM z e).1 = m ∧ z.id = m.id := by
  obtain ⟨z, hz, hze⟩ := List.mem_filterMap.1 hm
  split at hze
  · rename_i hc
    injection hze with hze
    exact ⟨z, hz, hc, hze, by rw [← hze, (carryM_ok (hok z hz) hp hc).2]⟩
  · cases hze
theorem putD_new {d : Dc} {A : Int} {W : List UInt8} (hp : possE ⟨1, A, 0, 0, W⟩ d.tx.length) (hid : ∀ m ∈ d.ms, m.id < 99) (hl : d.ms.length < 100) : putD d 99 A W = if 400 < (applyT d.tx ⟨1, A, 0, 0, W⟩).length then (⟨[], []⟩, 2) else (⟨applyT d.tx ⟨1, A, 0, 0, W⟩, insM ⟨99, A, A + W.length, true⟩ (carryL d.ms ⟨1, A, 0, 0, W⟩)⟩, 0) := by
  unfold putD
  rw [if_neg]
  · unfold doD
    rw [if_pos hp]
    by_cases hb : 400 < (applyT d.tx ⟨1, A, 0, 0, W⟩).length
    · rw [if_pos hb, if_pos hb, if_pos (.inl (by decide))]
    · rw [if_neg hb, if_neg hb, if_neg]
      rintro (h | h)
      · exact h rfl
      · omega
  · rintro (h | h | ⟨m, hm, he⟩)
    · exact h hp
    · omega
    · have := hid m hm
      omega
set_option maxHeartbeats 4000000 in
theorem puts_c {H : Snap} {v vx vy : Value} {l : List Rw} {x y : Rw} (hv : SliceRep H RwL v l) (hb : ∀ x ∈ l, okRw x) (hvx : SliceRep H U8 vx x.tx) (hx : okRw x) (hvy : SliceRep H U8 vy y.tx) (hy : okRw y) :
    Pure Try.prog 9 #[v, .agg #[.int .u8 x.k, .int .u8 x.a, .int .u8 x.l, .int .u8 x.t, vx], .agg #[.int .u8 y.k, .int .u8 y.a, .int .u8 y.l, .int .u8 y.t, vy]] H (fun _ r => r = .bool true) := by
  have hval := (madeK_valid l (min l.length 14)).1
  have hids := (madeK_valid l (min l.length 14)).2.1
  have hcnt := (madeK_valid l (min l.length 14)).2.2
  have hox := hvx.isSl.one1
  have hoy := hvy.isSl.one1
  have hx2 : okRw ⟨0, x.a, x.l, x.t, x.tx⟩ := ⟨⟨show (0 : Int) ≤ 0 by decide, show (0 : Int) ≤ 255 by decide⟩, hx.2⟩
  refine Pure.intro Try.func9 rfl Try.ntmps9 rfl (fun E R hM hR => ?_)
  repeat (first | refine a1 ?_ | refine a3 ?_ | refine a4 ?_ | refine a5 ?_ | refine a6 ?_ | refine s_fieldB ?_ | refine s_fieldV ?_ | refine s_loadBs ?_ | refine s_loadHs ?_ | refine s_loadB ?_ | refine s_loadH ?_ | refine s_loadR ?_ | refine s_lenS ?_ | refine s_len ?_ | refine s_lenR ?_ | refine s_addI ?_ | refine s_neqS ?_ | refine s_subI ?_ | refine s_index ?_ | refine s_indexR ?_ | refine s_sliceHi ?_ | refine s_build ?_ | refine s_eqlB ?_ | refine s_eqlS ?_ | refine a7 ?_ | refine a8 ?_ | refine a9 ?_ | refine RW.storeR rfl rfl rfl rfl (by first | rfl | (simp [allOne, cellsL, one1]; done) | (simp [allOne, cellsL, one1]; first | assumption | (refine ⟨?_, ?_⟩ <;> assumption))) rfl ?_ | refine a10 ?_ | refine RW.storeR1 rfl rfl (by first | rfl | exact IsSl.one1 (by assumption) | exact IsSl.one1 (SliceRep.isSl (by assumption))) rfl rfl ?_)
  refine RW.box rfl rfl rfl rfl (fun b4 => ?_)
  refine RW.box rfl rfl rfl rfl (fun b5 => ?_)
  repeat (first | refine a1 ?_ | refine a3 ?_ | refine a4 ?_ | refine a5 ?_ | refine a6 ?_ | refine s_fieldB ?_ | refine s_fieldV ?_ | refine s_loadBs ?_ | refine s_loadHs ?_ | refine s_loadB ?_ | refine s_loadH ?_ | refine s_loadR ?_ | refine s_lenS ?_ | refine s_len ?_ | refine s_lenR ?_ | refine s_addI ?_ | refine s_neqS ?_ | refine s_subI ?_ | refine s_index ?_ | refine s_indexR ?_ | refine s_sliceHi ?_ | refine s_build ?_ | refine s_eqlB ?_ | refine s_eqlS ?_ | refine a7 ?_ | refine a8 ?_ | refine a9 ?_ | refine RW.storeR rfl rfl rfl rfl (by first | rfl | (simp [allOne, cellsL, one1]; done) | (simp [allOne, cellsL, one1]; first | assumption | (refine ⟨?_, ?_⟩ <;> assumption))) rfl ?_ | refine a10 ?_ | refine RW.storeR1 rfl rfl (by first | rfl | exact IsSl.one1 (by assumption) | exact IsSl.one1 (SliceRep.isSl (by assumption))) rfl rfl ?_)
  refine RW.callV rfl (sanity_c (H := H)) rfl rfl ?_
  rintro _ _ rfl
  repeat (first | refine a1 ?_ | refine a3 ?_ | refine a4 ?_ | refine a5 ?_ | refine a6 ?_ | refine s_fieldB ?_ | refine s_fieldV ?_ | refine s_loadBs ?_ | refine s_loadHs ?_ | refine s_loadB ?_ | refine s_loadH ?_ | refine s_loadR ?_ | refine s_lenS ?_ | refine s_len ?_ | refine s_lenR ?_ | refine s_addI ?_ | refine s_neqS ?_ | refine s_subI ?_ | refine s_index ?_ | refine s_indexR ?_ | refine s_sliceHi ?_ | refine s_build ?_ | refine s_eqlB ?_ | refine s_eqlS ?_ | refine a7 ?_ | refine a8 ?_ | refine a9 ?_ | refine RW.storeR rfl rfl rfl rfl (by first | rfl | (simp [allOne, cellsL, one1]; done) | (simp [allOne, cellsL, one1]; first | assumption | (refine ⟨?_, ?_⟩ <;> assumption))) rfl ?_ | refine a10 ?_ | refine RW.storeR1 rfl rfl (by first | rfl | exact IsSl.one1 (by assumption) | exact IsSl.one1 (SliceRep.isSl (by assumption))) rfl rfl ?_)
  refine RW.call rfl (made_c (n := 14) hv hb (by decide)) rfl rfl ?_
  rintro _ H2 ⟨vm2, hv2, hr2⟩ hle2
  subst hv2
  have hm14 : min l.length 14 ≤ 14 := Nat.min_le_right _ _
  generalize hK : min l.length 14 = K at *
  generalize madeK l K = D at *
  obtain ⟨s, ms⟩ := D
  have hval2 := hval
  obtain ⟨v1, v2, v3, v4, v5⟩ := hval2
  have hr2 : SliceRep H2 MarkL vm2 ms := hr2
  have ho2 := hr2.isSl.one1
  dsimp only at *
  refine RW.alloc rfl rfl rfl (fun b8 => ?_)
  repeat (first | refine a1 ?_ | refine a3 ?_ | refine a4 ?_ | refine a5 ?_ | refine a6 ?_ | refine s_fieldB ?_ | refine s_fieldV ?_ | refine s_loadBs ?_ | refine s_loadHs ?_ | refine s_loadB ?_ | refine s_loadH ?_ | refine s_loadR ?_ | refine s_lenS ?_ | refine s_len ?_ | refine s_lenR ?_ | refine s_addI ?_ | refine s_neqS ?_ | refine s_subI ?_ | refine s_index ?_ | refine s_indexR ?_ | refine s_sliceHi ?_ | refine s_build ?_ | refine s_eqlB ?_ | refine s_eqlS ?_ | refine a7 ?_ | refine a8 ?_ | refine a9 ?_ | refine RW.storeR rfl rfl rfl rfl (by first | rfl | (simp [allOne, cellsL, one1]; done) | (simp [allOne, cellsL, one1]; first | assumption | (refine ⟨?_, ?_⟩ <;> assumption))) rfl ?_ | refine a10 ?_ | refine RW.storeR1 rfl rfl (by first | rfl | exact IsSl.one1 (by assumption) | exact IsSl.one1 (SliceRep.isSl (by assumption))) rfl rfl ?_)
  have hp := editE_poss hx2 (n := s.length) (by omega)
  have hec := edit_c (x := ⟨0, x.a, x.l, x.t, x.tx⟩) (n := s.length) hvx hx2 (by omega)
  have hwl := wordT_length x.tx
  have heE : editE ⟨0, x.a, x.l, x.t, x.tx⟩ s.length = ⟨1, x.a % ((s.length : Int) + 1), 0, 0, wordT x.tx⟩ := rfl
  rw [heE] at hp hec
  have hpn := hp.nums
  obtain ⟨a, ha⟩ : ∃ a : Nat, x.a % ((s.length : Int) + 1) = (a : Int) := ⟨(x.a % ((s.length : Int) + 1)).toNat, by have := hpn.1; dsimp only at this; omega⟩
  rw [ha] at hp hec hpn
  generalize wordT x.tx = W at *
  dsimp only at hpn
  have hec : Pure Try.prog 24 #[.agg #[.int .u8 0, .int .u8 x.a, .int .u8 x.l, .int .u8 x.t, vx], .int .i64 (s.length : Int)] H (fun _ r => r = .agg #[.int .i64 1, .int .i64 (a : Int), .int .i64 0, .int .i64 0, str W]) := hec
  refine RW.callV rfl (hec) rfl rfl ?_
  rintro _ _ rfl
  refine RW.alloc rfl rfl rfl (fun b9 => ?_)
  repeat (first | refine a1 ?_ | refine a3 ?_ | refine a4 ?_ | refine a5 ?_ | refine a6 ?_ | refine s_fieldB ?_ | refine s_fieldV ?_ | refine s_loadBs ?_ | refine s_loadHs ?_ | refine s_loadB ?_ | refine s_loadH ?_ | refine s_loadR ?_ | refine s_lenS ?_ | refine s_len ?_ | refine s_lenR ?_ | refine s_addI ?_ | refine s_neqS ?_ | refine s_subI ?_ | refine s_index ?_ | refine s_indexR ?_ | refine s_sliceHi ?_ | refine s_build ?_ | refine s_eqlB ?_ | refine s_eqlS ?_ | refine a7 ?_ | refine a8 ?_ | refine a9 ?_ | refine RW.storeR rfl rfl rfl rfl (by first | rfl | (simp [allOne, cellsL, one1]; done) | (simp [allOne, cellsL, one1]; first | assumption | (refine ⟨?_, ?_⟩ <;> assumption))) rfl ?_ | refine a10 ?_ | refine RW.storeR1 rfl rfl (by first | rfl | exact IsSl.one1 (by assumption) | exact IsSl.one1 (SliceRep.isSl (by assumption))) rfl rfl ?_)
  refine RW.call rfl (do_c (e := ⟨1, a, 0, 0, W⟩) hr2 (by omega) (by dsimp only; omega) v4 (by omega)) rfl rfl ?_
  rintro _ H3 ⟨_, rfl, hd3⟩ hle3
  have hpd := putD_new (d := ⟨s, ms⟩) hp (fun m hm => by have := hids m hm; omega) (by dsimp only; omega)
  dsimp only at hpd
  by_cases hbig : 400 < (applyT s ⟨1, a, 0, 0, W⟩).length
  · have hdd : doD ⟨s, ms⟩ ⟨1, a, 0, 0, W⟩ = (⟨[], []⟩, 2) := by rw [doD, if_pos hp, if_pos hbig]
    rw [if_pos hbig] at hpd
    rw [hdd] at hd3 ⊢
    obtain ⟨vm3, rfl, hr3⟩ := hd3
    have ho3 := hr3.isSl.one1
    dsimp only at hr3 ⊢
    repeat (first | refine a1 ?_ | refine a3 ?_ | refine a4 ?_ | refine a5 ?_ | refine a6 ?_ | refine s_fieldB ?_ | refine s_fieldV ?_ | refine s_loadBs ?_ | refine s_loadHs ?_ | refine s_loadB ?_ | refine s_loadH ?_ | refine s_loadR ?_ | refine s_lenS ?_ | refine s_len ?_ | refine s_lenR ?_ | refine s_addI ?_ | refine s_neqS ?_ | refine s_subI ?_ | refine s_index ?_ | refine s_indexR ?_ | refine s_sliceHi ?_ | refine s_build ?_ | refine s_eqlB ?_ | refine s_eqlS ?_ | refine a7 ?_ | refine a8 ?_ | refine a9 ?_ | refine RW.storeR rfl rfl rfl rfl (by first | rfl | (simp [allOne, cellsL, one1]; done) | (simp [allOne, cellsL, one1]; first | assumption | (refine ⟨?_, ?_⟩ <;> assumption))) rfl ?_ | refine a10 ?_ | refine RW.storeR1 rfl rfl (by first | rfl | exact IsSl.one1 (by assumption) | exact IsSl.one1 (SliceRep.isSl (by assumption))) rfl rfl ?_)
    refine RW.alloc rfl rfl rfl (fun b10 => ?_)
    repeat (first | refine a1 ?_ | refine a3 ?_ | refine a4 ?_ | refine a5 ?_ | refine a6 ?_ | refine s_fieldB ?_ | refine s_fieldV ?_ | refine s_loadBs ?_ | refine s_loadHs ?_ | refine s_loadB ?_ | refine s_loadH ?_ | refine s_loadR ?_ | refine s_lenS ?_ | refine s_len ?_ | refine s_lenR ?_ | refine s_addI ?_ | refine s_neqS ?_ | refine s_subI ?_ | refine s_index ?_ | refine s_indexR ?_ | refine s_sliceHi ?_ | refine s_build ?_ | refine s_eqlB ?_ | refine s_eqlS ?_ | refine a7 ?_ | refine a8 ?_ | refine a9 ?_ | refine RW.storeR rfl rfl rfl rfl (by first | rfl | (simp [allOne, cellsL, one1]; done) | (simp [allOne, cellsL, one1]; first | assumption | (refine ⟨?_, ?_⟩ <;> assumption))) rfl ?_ | refine a10 ?_ | refine RW.storeR1 rfl rfl (by first | rfl | exact IsSl.one1 (by assumption) | exact IsSl.one1 (SliceRep.isSl (by assumption))) rfl rfl ?_)
    refine RW.call rfl (put_c (i := 99) (a := a) (t := W) (hr2.mono hle3) (by omega) (by omega) v4 (by omega) v5) rfl rfl ?_
    rintro _ H4 ⟨_, rfl, hd4⟩ hle4
    rw [hpd] at hd4 ⊢
    obtain ⟨vm4, rfl, hr4⟩ := hd4
    have ho4 := hr4.isSl.one1
    dsimp only at hr4 ⊢
    repeat (first | refine a1 ?_ | refine a3 ?_ | refine a4 ?_ | refine a5 ?_ | refine a6 ?_ | refine s_fieldB ?_ | refine s_fieldV ?_ | refine s_loadBs ?_ | refine s_loadHs ?_ | refine s_loadB ?_ | refine s_loadH ?_ | refine s_loadR ?_ | refine s_lenS ?_ | refine s_len ?_ | refine s_lenR ?_ | refine s_addI ?_ | refine s_neqS ?_ | refine s_subI ?_ | refine s_index ?_ | refine s_indexR ?_ | refine s_sliceHi ?_ | refine s_build ?_ | refine s_eqlB ?_ | refine s_eqlS ?_ | refine a7 ?_ | refine a8 ?_ | refine a9 ?_ | refine RW.storeR rfl rfl rfl rfl (by first | rfl | (simp [allOne, cellsL, one1]; done) | (simp [allOne, cellsL, one1]; first | assumption | (refine ⟨?_, ?_⟩ <;> assumption))) rfl ?_ | refine a10 ?_ | refine RW.storeR1 rfl rfl (by first | rfl | exact IsSl.one1 (by assumption) | exact IsSl.one1 (SliceRep.isSl (by assumption))) rfl rfl ?_)
    refine RW.alloc rfl rfl rfl (fun b12 => ?_)
    repeat (first | refine a1 ?_ | refine a3 ?_ | refine a4 ?_ | refine a5 ?_ | refine a6 ?_ | refine s_fieldB ?_ | refine s_fieldV ?_ | refine s_loadBs ?_ | refine s_loadHs ?_ | refine s_loadB ?_ | refine s_loadH ?_ | refine s_loadR ?_ | refine s_lenS ?_ | refine s_len ?_ | refine s_lenR ?_ | refine s_addI ?_ | refine s_neqS ?_ | refine s_subI ?_ | refine s_index ?_ | refine s_indexR ?_ | refine s_sliceHi ?_ | refine s_build ?_ | refine s_eqlB ?_ | refine s_eqlS ?_ | refine a7 ?_ | refine a8 ?_ | refine a9 ?_ | refine RW.storeR rfl rfl rfl rfl (by first | rfl | (simp [allOne, cellsL, one1]; done) | (simp [allOne, cellsL, one1]; first | assumption | (refine ⟨?_, ?_⟩ <;> assumption))) rfl ?_ | refine a10 ?_ | refine RW.storeR1 rfl rfl (by first | rfl | exact IsSl.one1 (by assumption) | exact IsSl.one1 (SliceRep.isSl (by assumption))) rfl rfl ?_)
    refine Runs.ret1 Try.func9 Try.results9 rfl (fun w hm => hR _ w _ H _ (List.mem_cons_self ..) (Snap.le.refl _) ?_ hm)
    rfl
  have hdd : doD ⟨s, ms⟩ ⟨1, a, 0, 0, W⟩ = (⟨applyT s ⟨1, a, 0, 0, W⟩, carryL ms ⟨1, a, 0, 0, W⟩⟩, 0) := by rw [doD, if_pos hp, if_neg hbig]
  have hpv := putD_valid (d := ⟨s, ms⟩) (i := 99) (a := a) (t := W) hval
  rw [if_neg hbig] at hpd
  rw [hpd] at hpv
  have hpv := (hpv rfl).1
  rw [hdd] at hd3 ⊢
  clear hdd
  obtain ⟨vm3, rfl, hr3⟩ := hd3
  have hi3 := hr3.isSl
  have ho3 := hi3.one1
  have hT : applyT s ⟨1, a, 0, 0, W⟩ = insT s a W := by rw [applyT_ins rfl]; dsimp only; rw [Int.toNat_natCast]
  have hTl := insT_length (s := s) (t := W) (i := a) (by omega)
  have hTW : sub (insT s a W) a ((a + W.length : Nat) : Int) = W := by unfold sub; rw [Int.toNat_natCast, Int.toNat_natCast]; exact ins_take (by omega)
  have hid3 : ∀ m ∈ carryL ms ⟨1, a, 0, 0, W⟩, m.id < 99 := fun m hm => by
    obtain ⟨z, hz, hze⟩ := carryL_ids v4 hp m hm
    have := hids z hz
    omega
  have hcl := carryL_length ms ⟨1, a, 0, 0, W⟩
  have hins := insM_end (x := ⟨99, a, a + W.length, true⟩) (ms := carryL ms ⟨1, a, 0, 0, W⟩) hid3
  rw [hins] at hpd hpv
  rw [hT] at hpd hpv hbig ⊢
  dsimp only at hr3 hi3 ⊢
  generalize insT s a W = T at *
  generalize carryL ms ⟨1, a, 0, 0, W⟩ = ms3 at *
  obtain ⟨w1, w2, w3, w4, w5⟩ := hpv
  dsimp only at w1 w2 w3 w4 w5
  repeat (first | refine a1 ?_ | refine a3 ?_ | refine a4 ?_ | refine a5 ?_ | refine a6 ?_ | refine s_fieldB ?_ | refine s_fieldV ?_ | refine s_loadBs ?_ | refine s_loadHs ?_ | refine s_loadB ?_ | refine s_loadH ?_ | refine s_loadR ?_ | refine s_lenS ?_ | refine s_len ?_ | refine s_lenR ?_ | refine s_addI ?_ | refine s_neqS ?_ | refine s_subI ?_ | refine s_index ?_ | refine s_indexR ?_ | refine s_sliceHi ?_ | refine s_build ?_ | refine s_eqlB ?_ | refine s_eqlS ?_ | refine a7 ?_ | refine a8 ?_ | refine a9 ?_ | refine RW.storeR rfl rfl rfl rfl (by first | rfl | (simp [allOne, cellsL, one1]; done) | (simp [allOne, cellsL, one1]; first | assumption | (refine ⟨?_, ?_⟩ <;> assumption))) rfl ?_ | refine a10 ?_ | refine RW.storeR1 rfl rfl (by first | rfl | exact IsSl.one1 (by assumption) | exact IsSl.one1 (SliceRep.isSl (by assumption))) rfl rfl ?_)
  refine RW.alloc rfl rfl rfl (fun b10 => ?_)
  repeat (first | refine a1 ?_ | refine a3 ?_ | refine a4 ?_ | refine a5 ?_ | refine a6 ?_ | refine s_fieldB ?_ | refine s_fieldV ?_ | refine s_loadBs ?_ | refine s_loadHs ?_ | refine s_loadB ?_ | refine s_loadH ?_ | refine s_loadR ?_ | refine s_lenS ?_ | refine s_len ?_ | refine s_lenR ?_ | refine s_addI ?_ | refine s_neqS ?_ | refine s_subI ?_ | refine s_index ?_ | refine s_indexR ?_ | refine s_sliceHi ?_ | refine s_build ?_ | refine s_eqlB ?_ | refine s_eqlS ?_ | refine a7 ?_ | refine a8 ?_ | refine a9 ?_ | refine RW.storeR rfl rfl rfl rfl (by first | rfl | (simp [allOne, cellsL, one1]; done) | (simp [allOne, cellsL, one1]; first | assumption | (refine ⟨?_, ?_⟩ <;> assumption))) rfl ?_ | refine a10 ?_ | refine RW.storeR1 rfl rfl (by first | rfl | exact IsSl.one1 (by assumption) | exact IsSl.one1 (SliceRep.isSl (by assumption))) rfl rfl ?_)
  refine RW.call rfl (put_c (i := 99) (a := a) (t := W) (hr2.mono hle3) (by omega) (by omega) v4 (by omega) v5) rfl rfl ?_
  rintro _ H4 ⟨_, rfl, hd4⟩ hle4
  rw [hpd] at hd4 ⊢
  obtain ⟨vm4, rfl, hr4⟩ := hd4
  dsimp only at hr4 ⊢
  have hi4 : IsSl vm4 (ms3.length + 1) := by have := hr4.isSl; rwa [List.length_append] at this
  obtain ⟨A4, c4, rfl, _, _⟩ := hi4
  have hi4 : IsSl (.slice A4 (ms3.length + 1) c4) (ms3.length + 1) := by have := hr4.isSl; rwa [List.length_append] at this
  have hw3 : ms3.length + 1 ≤ 100 := by rwa [List.length_append] at w3
  have hxl : (ms3 ++ [(⟨99, a, a + W.length, true⟩ : Mk)])[ms3.length]? = some ⟨99, a, a + W.length, true⟩ := by simp
  have hxm := hr4.mk hxl
  have htd : textD ⟨T, ms3 ++ [⟨99, a, a + W.length, true⟩]⟩ 99 = (W, 0) := by
    have h9 := textD_at (s := T) w5 hxl
    dsimp only at h9
    rw [h9, show (a : Int) + W.length = ((a + W.length : Nat) : Int) by omega, hTW]
  have hcap4 := hr4.capOf_le
  have hless : SliceRep H4 MarkL (slv (.slice A4 (ms3.length + 1) c4) 4 0 ms3.length (capOf (.slice A4 (ms3.length + 1) c4))) ms3 := by
    have := hr4.slv (lo := 0) (hi := ms3.length) (mx := capOf (.slice A4 (ms3.length + 1) c4)) (s := 4) rfl (Nat.zero_le _) (by simp) (by rw [List.length_append] at hcap4; exact Nat.le_trans (Nat.le_succ _) hcap4) (Nat.le_refl _)
    simpa using this
  repeat (first | refine a1 ?_ | refine a3 ?_ | refine a4 ?_ | refine a5 ?_ | refine a6 ?_ | refine s_fieldB ?_ | refine s_fieldV ?_ | refine s_loadBs ?_ | refine s_loadHs ?_ | refine s_loadB ?_ | refine s_loadH ?_ | refine s_loadR ?_ | refine s_lenS ?_ | refine s_len ?_ | refine s_lenR ?_ | refine s_addI ?_ | refine s_neqS ?_ | refine s_subI ?_ | refine s_index ?_ | refine s_indexR ?_ | refine s_sliceHi ?_ | refine s_build ?_ | refine s_eqlB ?_ | refine s_eqlS ?_ | refine a7 ?_ | refine a8 ?_ | refine a9 ?_ | refine RW.storeR rfl rfl rfl rfl (by first | rfl | (simp [allOne, cellsL, one1]; done) | (simp [allOne, cellsL, one1]; first | assumption | (refine ⟨?_, ?_⟩ <;> assumption))) rfl ?_ | refine a10 ?_ | refine RW.storeR1 rfl rfl (by first | rfl | exact IsSl.one1 (by assumption) | exact IsSl.one1 (SliceRep.isSl (by assumption))) rfl rfl ?_)
  refine RW.alloc rfl rfl rfl (fun b12 => ?_)
  repeat (first | refine a1 ?_ | refine a3 ?_ | refine a4 ?_ | refine a5 ?_ | refine a6 ?_ | refine s_fieldB ?_ | refine s_fieldV ?_ | refine s_loadBs ?_ | refine s_loadHs ?_ | refine s_loadB ?_ | refine s_loadH ?_ | refine s_loadR ?_ | refine s_lenS ?_ | refine s_len ?_ | refine s_lenR ?_ | refine s_addI ?_ | refine s_neqS ?_ | refine s_subI ?_ | refine s_index ?_ | refine s_indexR ?_ | refine s_sliceHi ?_ | refine s_build ?_ | refine s_eqlB ?_ | refine s_eqlS ?_ | refine a7 ?_ | refine a8 ?_ | refine a9 ?_ | refine RW.storeR rfl rfl rfl rfl (by first | rfl | (simp [allOne, cellsL, one1]; done) | (simp [allOne, cellsL, one1]; first | assumption | (refine ⟨?_, ?_⟩ <;> assumption))) rfl ?_ | refine a10 ?_ | refine RW.storeR1 rfl rfl (by first | rfl | exact IsSl.one1 (by assumption) | exact IsSl.one1 (SliceRep.isSl (by assumption))) rfl rfl ?_)
  refine RW.callV rfl (rvalid_c hr4 (by omega) (by omega)) rfl rfl ?_
  rintro _ _ rfl
  rw [decide_eq_true ⟨w1, w2, w3, w4, w5⟩]
  repeat (first | refine a1 ?_ | refine a3 ?_ | refine a4 ?_ | refine a5 ?_ | refine a6 ?_ | refine s_fieldB ?_ | refine s_fieldV ?_ | refine s_loadBs ?_ | refine s_loadHs ?_ | refine s_loadB ?_ | refine s_loadH ?_ | refine s_loadR ?_ | refine s_lenS ?_ | refine s_len ?_ | refine s_lenR ?_ | refine s_addI ?_ | refine s_neqS ?_ | refine s_subI ?_ | refine s_index ?_ | refine s_indexR ?_ | refine s_sliceHi ?_ | refine s_build ?_ | refine s_eqlB ?_ | refine s_eqlS ?_ | refine a7 ?_ | refine a8 ?_ | refine a9 ?_ | refine RW.storeR rfl rfl rfl rfl (by first | rfl | (simp [allOne, cellsL, one1]; done) | (simp [allOne, cellsL, one1]; first | assumption | (refine ⟨?_, ?_⟩ <;> assumption))) rfl ?_ | refine a10 ?_ | refine RW.storeR1 rfl rfl (by first | rfl | exact IsSl.one1 (by assumption) | exact IsSl.one1 (SliceRep.isSl (by assumption))) rfl rfl ?_)
  rw [decide_eq_false (by omega : ¬ (((ms3.length + 1 : Nat) : Int) ≠ (ms3.length : Int) + 1))]
  repeat (first | refine a1 ?_ | refine a3 ?_ | refine a4 ?_ | refine a5 ?_ | refine a6 ?_ | refine s_fieldB ?_ | refine s_fieldV ?_ | refine s_loadBs ?_ | refine s_loadHs ?_ | refine s_loadB ?_ | refine s_loadH ?_ | refine s_loadR ?_ | refine s_lenS ?_ | refine s_len ?_ | refine s_lenR ?_ | refine s_addI ?_ | refine s_neqS ?_ | refine s_subI ?_ | refine s_index ?_ | refine s_indexR ?_ | refine s_sliceHi ?_ | refine s_build ?_ | refine s_eqlB ?_ | refine s_eqlS ?_ | refine a7 ?_ | refine a8 ?_ | refine a9 ?_ | refine RW.storeR rfl rfl rfl rfl (by first | rfl | (simp [allOne, cellsL, one1]; done) | (simp [allOne, cellsL, one1]; first | assumption | (refine ⟨?_, ?_⟩ <;> assumption))) rfl ?_ | refine a10 ?_ | refine RW.storeR1 rfl rfl (by first | rfl | exact IsSl.one1 (by assumption) | exact IsSl.one1 (SliceRep.isSl (by assumption))) rfl rfl ?_)
  rw [show ∀ z : List UInt8, decide (z ≠ z) = false from fun z => by simp]
  repeat (first | refine a1 ?_ | refine a3 ?_ | refine a4 ?_ | refine a5 ?_ | refine a6 ?_ | refine s_fieldB ?_ | refine s_fieldV ?_ | refine s_loadBs ?_ | refine s_loadHs ?_ | refine s_loadB ?_ | refine s_loadH ?_ | refine s_loadR ?_ | refine s_lenS ?_ | refine s_len ?_ | refine s_lenR ?_ | refine s_addI ?_ | refine s_neqS ?_ | refine s_subI ?_ | refine s_index ?_ | refine s_indexR ?_ | refine s_sliceHi ?_ | refine s_build ?_ | refine s_eqlB ?_ | refine s_eqlS ?_ | refine a7 ?_ | refine a8 ?_ | refine a9 ?_ | refine RW.storeR rfl rfl rfl rfl (by first | rfl | (simp [allOne, cellsL, one1]; done) | (simp [allOne, cellsL, one1]; first | assumption | (refine ⟨?_, ?_⟩ <;> assumption))) rfl ?_ | refine a10 ?_ | refine RW.storeR1 rfl rfl (by first | rfl | exact IsSl.one1 (by assumption) | exact IsSl.one1 (SliceRep.isSl (by assumption))) rfl rfl ?_)
  rw [show ((ms3.length + 1 : Nat) : Int) - 1 = (ms3.length : Int) by omega]
  repeat (first | refine a1 ?_ | refine a3 ?_ | refine a4 ?_ | refine a5 ?_ | refine a6 ?_ | refine s_fieldB ?_ | refine s_fieldV ?_ | refine s_loadBs ?_ | refine s_loadHs ?_ | refine s_loadB ?_ | refine s_loadH ?_ | refine s_loadR ?_ | refine s_lenS ?_ | refine s_len ?_ | refine s_lenR ?_ | refine s_addI ?_ | refine s_neqS ?_ | refine s_subI ?_ | refine s_index ?_ | refine s_indexR ?_ | refine s_sliceHi ?_ | refine s_build ?_ | refine s_eqlB ?_ | refine s_eqlS ?_ | refine a7 ?_ | refine a8 ?_ | refine a9 ?_ | refine RW.storeR rfl rfl rfl rfl (by first | rfl | (simp [allOne, cellsL, one1]; done) | (simp [allOne, cellsL, one1]; first | assumption | (refine ⟨?_, ?_⟩ <;> assumption))) rfl ?_ | refine a10 ?_ | refine RW.storeR1 rfl rfl (by first | rfl | exact IsSl.one1 (by assumption) | exact IsSl.one1 (SliceRep.isSl (by assumption))) rfl rfl ?_)
  refine RW.alloc rfl rfl rfl (fun b14 => ?_)
  repeat (first | refine a1 ?_ | refine a3 ?_ | refine a4 ?_ | refine a5 ?_ | refine a6 ?_ | refine s_fieldB ?_ | refine s_fieldV ?_ | refine s_loadBs ?_ | refine s_loadHs ?_ | refine s_loadB ?_ | refine s_loadH ?_ | refine s_loadR ?_ | refine s_lenS ?_ | refine s_len ?_ | refine s_lenR ?_ | refine s_addI ?_ | refine s_neqS ?_ | refine s_subI ?_ | refine s_index ?_ | refine s_indexR ?_ | refine s_sliceHi ?_ | refine s_build ?_ | refine s_eqlB ?_ | refine s_eqlS ?_ | refine a7 ?_ | refine a8 ?_ | refine a9 ?_ | refine RW.storeR rfl rfl rfl rfl (by first | rfl | (simp [allOne, cellsL, one1]; done) | (simp [allOne, cellsL, one1]; first | assumption | (refine ⟨?_, ?_⟩ <;> assumption))) rfl ?_ | refine a10 ?_ | refine RW.storeR1 rfl rfl (by first | rfl | exact IsSl.one1 (by assumption) | exact IsSl.one1 (SliceRep.isSl (by assumption))) rfl rfl ?_)
  refine Runs.regionD _ _ [11] (fun x hx => List.mem_cons_of_mem _ hx) (List.Sublist.refl _) (by kernel_rfl) ?_
  (first | refine t_fieldB 0 ?_ | refine t_fieldV 0 ?_)
  (first | refine t_loadB 1 ?_ | refine t_loadH 1 ?_ | refine t_loadR 1 ?_)
  (first | refine t_fieldB 2 ?_ | refine t_fieldV 2 ?_)
  (first | refine t_loadB 3 ?_ | refine t_loadH 3 ?_ | refine t_loadR 3 ?_)
  (first | refine t_fieldB 4 ?_ | refine t_fieldV 4 ?_)
  (first | refine t_loadB 5 ?_ | refine t_loadH 5 ?_ | refine t_loadR 5 ?_)
  (first | refine t_len 6 ?_ | refine t_lenR 6 ?_)
  refine t_subI 7 ?_
  rw [show ((ms3.length + 1 : Nat) : Int) - 1 = (ms3.length : Int) by omega]
  refine t_sliceHi 8 ?_
  refine t_build 9 ?_
  refine DW.alloc 10 rfl (by kernel_rfl) rfl rfl rfl (fun b15 => ?_)
  (first | refine DW.storeB 11 rfl (by kernel_rfl) rfl rfl rfl rfl (by first | rfl | (simp [allOne, cellsL, one1]; done) | (simp [allOne, cellsL, one1]; first | assumption | (refine ⟨?_, ?_⟩ <;> assumption))) rfl ?_ | refine DW.storeB1 11 rfl (by kernel_rfl) rfl rfl rfl (by first | rfl | exact IsSl.one1 (by assumption) | exact IsSl.one1 (SliceRep.isSl (by assumption))) rfl rfl ?_)
  refine DW.done (by kernel_rfl) ?_
  repeat (first | refine a1 ?_ | refine a3 ?_ | refine a4 ?_ | refine a5 ?_ | refine a6 ?_ | refine s_fieldB ?_ | refine s_fieldV ?_ | refine s_loadBs ?_ | refine s_loadHs ?_ | refine s_loadB ?_ | refine s_loadH ?_ | refine s_loadR ?_ | refine s_lenS ?_ | refine s_len ?_ | refine s_lenR ?_ | refine s_addI ?_ | refine s_neqS ?_ | refine s_subI ?_ | refine s_index ?_ | refine s_indexR ?_ | refine s_sliceHi ?_ | refine s_build ?_ | refine s_eqlB ?_ | refine s_eqlS ?_ | refine a7 ?_ | refine a8 ?_ | refine a9 ?_ | refine RW.storeR rfl rfl rfl rfl (by first | rfl | (simp [allOne, cellsL, one1]; done) | (simp [allOne, cellsL, one1]; first | assumption | (refine ⟨?_, ?_⟩ <;> assumption))) rfl ?_ | refine a10 ?_ | refine RW.storeR1 rfl rfl (by first | rfl | exact IsSl.one1 (by assumption) | exact IsSl.one1 (SliceRep.isSl (by assumption))) rfl rfl ?_)
  refine RW.callV rfl (text_c (i := 99) hr4 w5 (by omega) (by omega) w4) rfl rfl ?_
  rintro _ _ rfl
  rw [htd]
  dsimp only
  repeat (first | refine a1 ?_ | refine a3 ?_ | refine a4 ?_ | refine a5 ?_ | refine a6 ?_ | refine s_fieldB ?_ | refine s_fieldV ?_ | refine s_loadBs ?_ | refine s_loadHs ?_ | refine s_loadB ?_ | refine s_loadH ?_ | refine s_loadR ?_ | refine s_lenS ?_ | refine s_len ?_ | refine s_lenR ?_ | refine s_addI ?_ | refine s_neqS ?_ | refine s_subI ?_ | refine s_index ?_ | refine s_indexR ?_ | refine s_sliceHi ?_ | refine s_build ?_ | refine s_eqlB ?_ | refine s_eqlS ?_ | refine a7 ?_ | refine a8 ?_ | refine a9 ?_ | refine RW.storeR rfl rfl rfl rfl (by first | rfl | (simp [allOne, cellsL, one1]; done) | (simp [allOne, cellsL, one1]; first | assumption | (refine ⟨?_, ?_⟩ <;> assumption))) rfl ?_ | refine a10 ?_ | refine RW.storeR1 rfl rfl (by first | rfl | exact IsSl.one1 (by assumption) | exact IsSl.one1 (SliceRep.isSl (by assumption))) rfl rfl ?_)
  refine RW.q (QF.neqMk (a := ⟨99, a, a + W.length, true⟩) (b := ⟨99, a, a + W.length, true⟩) rfl rfl).qv rfl rfl ?_
  rw [show ∀ z : Mk, decide (z ≠ z) = false from fun z => by simp]
  repeat (first | refine a1 ?_ | refine a3 ?_ | refine a4 ?_ | refine a5 ?_ | refine a6 ?_ | refine s_fieldB ?_ | refine s_fieldV ?_ | refine s_loadBs ?_ | refine s_loadHs ?_ | refine s_loadB ?_ | refine s_loadH ?_ | refine s_loadR ?_ | refine s_lenS ?_ | refine s_len ?_ | refine s_lenR ?_ | refine s_addI ?_ | refine s_neqS ?_ | refine s_subI ?_ | refine s_index ?_ | refine s_indexR ?_ | refine s_sliceHi ?_ | refine s_build ?_ | refine s_eqlB ?_ | refine s_eqlS ?_ | refine a7 ?_ | refine a8 ?_ | refine a9 ?_ | refine RW.storeR rfl rfl rfl rfl (by first | rfl | (simp [allOne, cellsL, one1]; done) | (simp [allOne, cellsL, one1]; first | assumption | (refine ⟨?_, ?_⟩ <;> assumption))) rfl ?_ | refine a10 ?_ | refine RW.storeR1 rfl rfl (by first | rfl | exact IsSl.one1 (by assumption) | exact IsSl.one1 (SliceRep.isSl (by assumption))) rfl rfl ?_)
  refine RW.callV rfl (same_c (H := H4) ⟨_, rfl, hless⟩ ⟨_, rfl, hr3.mono hle4⟩ (a := ⟨T, ms3⟩) (b := ⟨T, ms3⟩)) rfl rfl ?_
  rintro _ _ rfl
  rw [show decide ((⟨T, ms3⟩ : Dc) = ⟨T, ms3⟩) = true by simp]
  repeat (first | refine a1 ?_ | refine a3 ?_ | refine a4 ?_ | refine a5 ?_ | refine a6 ?_ | refine s_fieldB ?_ | refine s_fieldV ?_ | refine s_loadBs ?_ | refine s_loadHs ?_ | refine s_loadB ?_ | refine s_loadH ?_ | refine s_loadR ?_ | refine s_lenS ?_ | refine s_len ?_ | refine s_lenR ?_ | refine s_addI ?_ | refine s_neqS ?_ | refine s_subI ?_ | refine s_index ?_ | refine s_indexR ?_ | refine s_sliceHi ?_ | refine s_build ?_ | refine s_eqlB ?_ | refine s_eqlS ?_ | refine a7 ?_ | refine a8 ?_ | refine a9 ?_ | refine RW.storeR rfl rfl rfl rfl (by first | rfl | (simp [allOne, cellsL, one1]; done) | (simp [allOne, cellsL, one1]; first | assumption | (refine ⟨?_, ?_⟩ <;> assumption))) rfl ?_ | refine a10 ?_ | refine RW.storeR1 rfl rfl (by first | rfl | exact IsSl.one1 (by assumption) | exact IsSl.one1 (SliceRep.isSl (by assumption))) rfl rfl ?_)
  rw [show ∀ z : List UInt8, decide (z ≠ z) = false from fun z => by simp]
  repeat (first | refine a1 ?_ | refine a3 ?_ | refine a4 ?_ | refine a5 ?_ | refine a6 ?_ | refine s_fieldB ?_ | refine s_fieldV ?_ | refine s_loadBs ?_ | refine s_loadHs ?_ | refine s_loadB ?_ | refine s_loadH ?_ | refine s_loadR ?_ | refine s_lenS ?_ | refine s_len ?_ | refine s_lenR ?_ | refine s_addI ?_ | refine s_neqS ?_ | refine s_subI ?_ | refine s_index ?_ | refine s_indexR ?_ | refine s_sliceHi ?_ | refine s_build ?_ | refine s_eqlB ?_ | refine s_eqlS ?_ | refine a7 ?_ | refine a8 ?_ | refine a9 ?_ | refine RW.storeR rfl rfl rfl rfl (by first | rfl | (simp [allOne, cellsL, one1]; done) | (simp [allOne, cellsL, one1]; first | assumption | (refine ⟨?_, ?_⟩ <;> assumption))) rfl ?_ | refine a10 ?_ | refine RW.storeR1 rfl rfl (by first | rfl | exact IsSl.one1 (by assumption) | exact IsSl.one1 (SliceRep.isSl (by assumption))) rfl rfl ?_)
  have hp2 := editE_poss hy (n := T.length) (by omega)
  have htx2 := editE_tx y T.length
  refine Runs.regionD _ _ [11] (fun x hx => List.mem_cons_of_mem _ hx) (List.Sublist.refl _) (by kernel_rfl) ?_
  (first | refine t_loadBs 0 ?_ | refine t_loadHs 0 ?_)
  (first | refine t_loadBs 1 ?_ | refine t_loadHs 1 ?_)
  (first | refine t_fieldB 2 ?_ | refine t_fieldV 2 ?_)
  (first | refine t_loadB 3 ?_ | refine t_loadH 3 ?_ | refine t_loadR 3 ?_)
  refine t_lenS 4 ?_
  refine DW.float 10 rfl rfl ?_
  refine DWf.call 5 rfl rfl rfl (by kernel_rfl) (by kernel_rfl) rfl rfl rfl rfl rfl rfl (edit_c (x := y) (n := T.length) hvy hy (by omega)) ?_
  rintro _ H5 rfl _
  generalize editE y T.length = e2 at *
  refine DWf.call 6 rfl rfl rfl (by kernel_rfl) (by kernel_rfl) rfl rfl rfl rfl rfl rfl (do_c (e := e2) hr4 (by omega) (by omega) w4 (by omega)) ?_
  rintro _ H6 ⟨_, rfl, hd6⟩ hle6
  by_cases hbig2 : 400 < (applyT T e2).length
  · have hdd : doD ⟨T, ms3 ++ [⟨99, a, a + W.length, true⟩]⟩ e2 = (⟨[], []⟩, 2) := by rw [doD, if_pos hp2, if_pos hbig2]
    rw [hdd] at hd6 ⊢
    obtain ⟨vm6, rfl, hr6⟩ := hd6
    have ho6 := hr6.isSl.one1
    dsimp only at hr6 ⊢
    refine DWf.qF 7 rfl rfl (by kernel_rfl) (qev_eq rfl) (fun _ => qev_eq rfl) rfl rfl ?_
    refine DWf.qF 8 rfl rfl (by kernel_rfl) (qev_eq rfl) (fun _ => qev_eq rfl) rfl rfl ?_
    refine DWf.qF 9 rfl rfl (by kernel_rfl) (qev_eq rfl) (fun _ => qev_eq rfl) rfl rfl ?_
    refine DWf.take rfl (by kernel_rfl) rfl rfl rfl (fun b18 => ?_)
    simp only [List.cons_append, List.nil_append]
    (first | refine DW.storeB 11 rfl (by kernel_rfl) rfl rfl rfl rfl (by first | rfl | (simp [allOne, cellsL, one1]; done) | (simp [allOne, cellsL, one1]; first | assumption | (refine ⟨?_, ?_⟩ <;> assumption))) rfl ?_ | refine DW.storeB1 11 rfl (by kernel_rfl) rfl rfl rfl (by first | rfl | exact IsSl.one1 (by assumption) | exact IsSl.one1 (SliceRep.isSl (by assumption))) rfl rfl ?_)
    refine d2 12 ?_
    refine DW.done (by kernel_rfl) ?_
    repeat (first | refine a1 ?_ | refine a3 ?_ | refine a4 ?_ | refine a5 ?_ | refine a6 ?_ | refine s_fieldB ?_ | refine s_fieldV ?_ | refine s_loadBs ?_ | refine s_loadHs ?_ | refine s_loadB ?_ | refine s_loadH ?_ | refine s_loadR ?_ | refine s_lenS ?_ | refine s_len ?_ | refine s_lenR ?_ | refine s_addI ?_ | refine s_neqS ?_ | refine s_subI ?_ | refine s_index ?_ | refine s_indexR ?_ | refine s_sliceHi ?_ | refine s_build ?_ | refine s_eqlB ?_ | refine s_eqlS ?_ | refine a7 ?_ | refine a8 ?_ | refine a9 ?_ | refine RW.storeR rfl rfl rfl rfl (by first | rfl | (simp [allOne, cellsL, one1]; done) | (simp [allOne, cellsL, one1]; first | assumption | (refine ⟨?_, ?_⟩ <;> assumption))) rfl ?_ | refine a10 ?_ | refine RW.storeR1 rfl rfl (by first | rfl | exact IsSl.one1 (by assumption) | exact IsSl.one1 (SliceRep.isSl (by assumption))) rfl rfl ?_)
    refine Runs.ret1 Try.func9 Try.results9 rfl (fun w hm => hR _ w _ H _ (List.mem_cons_self ..) (Snap.le.refl _) ?_ hm)
    rfl
  have hdd : doD ⟨T, ms3 ++ [⟨99, a, a + W.length, true⟩]⟩ e2 = (⟨applyT T e2, carryL (ms3 ++ [⟨99, a, a + W.length, true⟩]) e2⟩, 0) := by rw [doD, if_pos hp2, if_neg hbig2]
  have hv6 := doD_valid (e := e2) (d := ⟨T, ms3 ++ [⟨99, a, a + W.length, true⟩]⟩) ⟨w1, w2, w3, w4, w5⟩ (by rw [hdd])
  rw [hdd] at hd6 hv6 ⊢
  obtain ⟨vm6, rfl, hr6⟩ := hd6
  have hi6 := hr6.isSl
  have ho6 := hi6.one1
  obtain ⟨z1, z2, z3, z4, z5⟩ := hv6
  have hfrom : ∀ m ∈ carryL (ms3 ++ [⟨99, a, a + W.length, true⟩]) e2, m.id = 99 → m.wh = true → sub (applyT T e2) m.fr m.to_ = W := fun m hm h99 hw => by
    obtain ⟨z, hz, hzc, hzm, hzi⟩ := carryL_from w4 hp2 hm
    have hzX : z = ⟨99, a, a + W.length, true⟩ := by
      rcases List.mem_append.1 hz with h | h
      · have := hid3 z h
        omega
      · exact List.mem_singleton.1 h
    have hwp := whole_piece (w4 z hz) hp2 hzc (by rw [hzm]; exact hw)
    rw [hzm] at hwp
    rw [← hwp.2, hzX]
    dsimp only
    rw [show (a : Int) + W.length = ((a + W.length : Nat) : Int) by omega, hTW]
  dsimp only at hr6 hi6 z1 z2 z3 z4 z5 ⊢
  clear hdd
  generalize applyT T e2 = T6 at *
  generalize carryL (ms3 ++ [⟨99, a, a + W.length, true⟩]) e2 = ms6 at *
  refine DWf.qF 7 rfl rfl (by kernel_rfl) (qev_eq rfl) (fun _ => qev_eq rfl) rfl rfl ?_
  refine DWf.qF 8 rfl rfl (by kernel_rfl) (qev_eq rfl) (fun _ => qev_eq rfl) rfl rfl ?_
  refine DWf.qF 9 rfl rfl (by kernel_rfl) (qev_eq rfl) (fun _ => qev_eq rfl) rfl rfl ?_
  refine DWf.take rfl (by kernel_rfl) rfl rfl rfl (fun b18 => ?_)
  simp only [List.cons_append, List.nil_append]
  (first | refine DW.storeB 11 rfl (by kernel_rfl) rfl rfl rfl rfl (by first | rfl | (simp [allOne, cellsL, one1]; done) | (simp [allOne, cellsL, one1]; first | assumption | (refine ⟨?_, ?_⟩ <;> assumption))) rfl ?_ | refine DW.storeB1 11 rfl (by kernel_rfl) rfl rfl rfl (by first | rfl | exact IsSl.one1 (by assumption) | exact IsSl.one1 (SliceRep.isSl (by assumption))) rfl rfl ?_)
  refine d2 12 ?_
  refine DW.done (by kernel_rfl) ?_
  repeat (first | refine a1 ?_ | refine a3 ?_ | refine a4 ?_ | refine a5 ?_ | refine a6 ?_ | refine s_fieldB ?_ | refine s_fieldV ?_ | refine s_loadBs ?_ | refine s_loadHs ?_ | refine s_loadB ?_ | refine s_loadH ?_ | refine s_loadR ?_ | refine s_lenS ?_ | refine s_len ?_ | refine s_lenR ?_ | refine s_addI ?_ | refine s_neqS ?_ | refine s_subI ?_ | refine s_index ?_ | refine s_indexR ?_ | refine s_sliceHi ?_ | refine s_build ?_ | refine s_eqlB ?_ | refine s_eqlS ?_ | refine a7 ?_ | refine a8 ?_ | refine a9 ?_ | refine RW.storeR rfl rfl rfl rfl (by first | rfl | (simp [allOne, cellsL, one1]; done) | (simp [allOne, cellsL, one1]; first | assumption | (refine ⟨?_, ?_⟩ <;> assumption))) rfl ?_ | refine a10 ?_ | refine RW.storeR1 rfl rfl (by first | rfl | exact IsSl.one1 (by assumption) | exact IsSl.one1 (SliceRep.isSl (by assumption))) rfl rfl ?_)
  refine RW.callV rfl (text_c (i := 99) hr6 z5 (by omega) (by omega) z4) rfl rfl ?_
  rintro _ _ rfl
  repeat (first | refine a1 ?_ | refine a3 ?_ | refine a4 ?_ | refine a5 ?_ | refine a6 ?_ | refine s_fieldB ?_ | refine s_fieldV ?_ | refine s_loadBs ?_ | refine s_loadHs ?_ | refine s_loadB ?_ | refine s_loadH ?_ | refine s_loadR ?_ | refine s_lenS ?_ | refine s_len ?_ | refine s_lenR ?_ | refine s_addI ?_ | refine s_neqS ?_ | refine s_subI ?_ | refine s_index ?_ | refine s_indexR ?_ | refine s_sliceHi ?_ | refine s_build ?_ | refine s_eqlB ?_ | refine s_eqlS ?_ | refine a7 ?_ | refine a8 ?_ | refine a9 ?_ | refine RW.storeR rfl rfl rfl rfl (by first | rfl | (simp [allOne, cellsL, one1]; done) | (simp [allOne, cellsL, one1]; first | assumption | (refine ⟨?_, ?_⟩ <;> assumption))) rfl ?_ | refine a10 ?_ | refine RW.storeR1 rfl rfl (by first | rfl | exact IsSl.one1 (by assumption) | exact IsSl.one1 (SliceRep.isSl (by assumption))) rfl rfl ?_)
  refine RW.callV rfl (rfind_c hr6 (i := 99)) rfl rfl ?_
  rintro v155 H9 hf
  rcases hf with ⟨hno, rfl⟩ | ⟨k6, m6, hm6k, hm6i, rfl⟩
  · rw [textD_no hno]
    dsimp only
    repeat (first | refine a1 ?_ | refine a3 ?_ | refine a4 ?_ | refine a5 ?_ | refine a6 ?_ | refine s_fieldB ?_ | refine s_fieldV ?_ | refine s_loadBs ?_ | refine s_loadHs ?_ | refine s_loadB ?_ | refine s_loadH ?_ | refine s_loadR ?_ | refine s_lenS ?_ | refine s_len ?_ | refine s_lenR ?_ | refine s_addI ?_ | refine s_neqS ?_ | refine s_subI ?_ | refine s_index ?_ | refine s_indexR ?_ | refine s_sliceHi ?_ | refine s_build ?_ | refine s_eqlB ?_ | refine s_eqlS ?_ | refine a7 ?_ | refine a8 ?_ | refine a9 ?_ | refine RW.storeR rfl rfl rfl rfl (by first | rfl | (simp [allOne, cellsL, one1]; done) | (simp [allOne, cellsL, one1]; first | assumption | (refine ⟨?_, ?_⟩ <;> assumption))) rfl ?_ | refine a10 ?_ | refine RW.storeR1 rfl rfl (by first | rfl | exact IsSl.one1 (by assumption) | exact IsSl.one1 (SliceRep.isSl (by assumption))) rfl rfl ?_)
    refine Runs.ret1 Try.func9 Try.results9 rfl (fun w hm => hR _ w _ H _ (List.mem_cons_self ..) (Snap.le.refl _) ?_ hm)
    rfl
  · have htx6 := textD_at (s := T6) z5 hm6k
    rw [hm6i] at htx6
    rw [htx6]
    dsimp only
    have hk6 := (List.getElem?_eq_some_iff.1 hm6k).1
    have hm6m := hr6.mk hm6k
    have hb6 := hi6.bound
    have hfw := hfrom m6 (List.mem_of_getElem? hm6k) hm6i
    repeat (first | refine a1 ?_ | refine a3 ?_ | refine a4 ?_ | refine a5 ?_ | refine a6 ?_ | refine s_fieldB ?_ | refine s_fieldV ?_ | refine s_loadBs ?_ | refine s_loadHs ?_ | refine s_loadB ?_ | refine s_loadH ?_ | refine s_loadR ?_ | refine s_lenS ?_ | refine s_len ?_ | refine s_lenR ?_ | refine s_addI ?_ | refine s_neqS ?_ | refine s_subI ?_ | refine s_index ?_ | refine s_indexR ?_ | refine s_sliceHi ?_ | refine s_build ?_ | refine s_eqlB ?_ | refine s_eqlS ?_ | refine a7 ?_ | refine a8 ?_ | refine a9 ?_ | refine RW.storeR rfl rfl rfl rfl (by first | rfl | (simp [allOne, cellsL, one1]; done) | (simp [allOne, cellsL, one1]; first | assumption | (refine ⟨?_, ?_⟩ <;> assumption))) rfl ?_ | refine a10 ?_ | refine RW.storeR1 rfl rfl (by first | rfl | exact IsSl.one1 (by assumption) | exact IsSl.one1 (SliceRep.isSl (by assumption))) rfl rfl ?_)
    cases hw : m6.wh with
    | false =>
      repeat (first | refine a1 ?_ | refine a3 ?_ | refine a4 ?_ | refine a5 ?_ | refine a6 ?_ | refine s_fieldB ?_ | refine s_fieldV ?_ | refine s_loadBs ?_ | refine s_loadHs ?_ | refine s_loadB ?_ | refine s_loadH ?_ | refine s_loadR ?_ | refine s_lenS ?_ | refine s_len ?_ | refine s_lenR ?_ | refine s_addI ?_ | refine s_neqS ?_ | refine s_subI ?_ | refine s_index ?_ | refine s_indexR ?_ | refine s_sliceHi ?_ | refine s_build ?_ | refine s_eqlB ?_ | refine s_eqlS ?_ | refine a7 ?_ | refine a8 ?_ | refine a9 ?_ | refine RW.storeR rfl rfl rfl rfl (by first | rfl | (simp [allOne, cellsL, one1]; done) | (simp [allOne, cellsL, one1]; first | assumption | (refine ⟨?_, ?_⟩ <;> assumption))) rfl ?_ | refine a10 ?_ | refine RW.storeR1 rfl rfl (by first | rfl | exact IsSl.one1 (by assumption) | exact IsSl.one1 (SliceRep.isSl (by assumption))) rfl rfl ?_)
      refine Runs.ret1 Try.func9 Try.results9 rfl (fun w hm => hR _ w _ H _ (List.mem_cons_self ..) (Snap.le.refl _) ?_ hm)
      rfl
    | true =>
      repeat (first | refine a1 ?_ | refine a3 ?_ | refine a4 ?_ | refine a5 ?_ | refine a6 ?_ | refine s_fieldB ?_ | refine s_fieldV ?_ | refine s_loadBs ?_ | refine s_loadHs ?_ | refine s_loadB ?_ | refine s_loadH ?_ | refine s_loadR ?_ | refine s_lenS ?_ | refine s_len ?_ | refine s_lenR ?_ | refine s_addI ?_ | refine s_neqS ?_ | refine s_subI ?_ | refine s_index ?_ | refine s_indexR ?_ | refine s_sliceHi ?_ | refine s_build ?_ | refine s_eqlB ?_ | refine s_eqlS ?_ | refine a7 ?_ | refine a8 ?_ | refine a9 ?_ | refine RW.storeR rfl rfl rfl rfl (by first | rfl | (simp [allOne, cellsL, one1]; done) | (simp [allOne, cellsL, one1]; first | assumption | (refine ⟨?_, ?_⟩ <;> assumption))) rfl ?_ | refine a10 ?_ | refine RW.storeR1 rfl rfl (by first | rfl | exact IsSl.one1 (by assumption) | exact IsSl.one1 (SliceRep.isSl (by assumption))) rfl rfl ?_)
      rw [decide_eq_true (hfw hw)]
      repeat (first | refine a1 ?_ | refine a3 ?_ | refine a4 ?_ | refine a5 ?_ | refine a6 ?_ | refine s_fieldB ?_ | refine s_fieldV ?_ | refine s_loadBs ?_ | refine s_loadHs ?_ | refine s_loadB ?_ | refine s_loadH ?_ | refine s_loadR ?_ | refine s_lenS ?_ | refine s_len ?_ | refine s_lenR ?_ | refine s_addI ?_ | refine s_neqS ?_ | refine s_subI ?_ | refine s_index ?_ | refine s_indexR ?_ | refine s_sliceHi ?_ | refine s_build ?_ | refine s_eqlB ?_ | refine s_eqlS ?_ | refine a7 ?_ | refine a8 ?_ | refine a9 ?_ | refine RW.storeR rfl rfl rfl rfl (by first | rfl | (simp [allOne, cellsL, one1]; done) | (simp [allOne, cellsL, one1]; first | assumption | (refine ⟨?_, ?_⟩ <;> assumption))) rfl ?_ | refine a10 ?_ | refine RW.storeR1 rfl rfl (by first | rfl | exact IsSl.one1 (by assumption) | exact IsSl.one1 (SliceRep.isSl (by assumption))) rfl rfl ?_)
      refine Runs.ret1 Try.func9 Try.results9 rfl (fun w hm => hR _ w _ H _ (List.mem_cons_self ..) (Snap.le.refl _) ?_ hm)
      rfl
end Go.Proofs.Ytcikciefaggckaa

/-
  The law DocumentMarks. Conditions: the raw data hold bytes.
-/
import Derived.Test.YtcikciefaggckaaD13
import Derived.Test.YtcikciefaggckaaDw
namespace Go.Proofs.Ytcikciefaggckaa
open Go Go.RowKit

theorem piece_c {H : Snap} {s : List UInt8} {v : Value} {m : Mk} {n : Nat} (hv : IsSl v n) (h : 0 ≤ m.fr ∧ m.fr ≤ m.to_ ∧ m.to_ ≤ s.length) : Pure Try.prog 26 #[.agg #[str s, v], mkV m] H (fun _ r => r = str (sub s m.fr m.to_)) := by
  have ho := hv.one1
  obtain ⟨mi, mf, mt, mw⟩ := m
  dsimp only at h ⊢
  obtain ⟨a, rfl⟩ : ∃ a : Nat, mf = (a : Int) := ⟨mf.toNat, by omega⟩
  obtain ⟨b, rfl⟩ : ∃ b : Nat, mt = (b : Int) := ⟨mt.toNat, by omega⟩
  refine Pure.intro Try.func26 rfl Try.ntmps26 rfl (fun E R hM hR => ?_)
  repeat (first | refine a1 ?_ | refine a3 ?_ | refine a4 ?_ | refine a5 ?_ | refine a6 ?_ | refine s_fieldB ?_ | refine s_fieldV ?_ | refine s_loadB ?_ | refine s_loadH ?_ | refine s_loadR ?_ | refine s_sliceSLH ?_ | refine a7 ?_ | refine a8 ?_)
  refine RW.box rfl rfl rfl rfl (fun b2 => ?_)
  refine RW.box rfl rfl rfl rfl (fun b3 => ?_)
  repeat (first | refine a1 ?_ | refine a3 ?_ | refine a4 ?_ | refine a5 ?_ | refine a6 ?_ | refine s_fieldB ?_ | refine s_fieldV ?_ | refine s_loadB ?_ | refine s_loadH ?_ | refine s_loadR ?_ | refine s_sliceSLH ?_ | refine a7 ?_ | refine a8 ?_)
  refine Runs.ret1 Try.func26 Try.results26 rfl (fun w hm => hR _ w _ H _ (List.mem_cons_self ..) (Snap.le.refl _) ?_ hm)
  rfl
theorem carryL_app (a b : List Mk) (e : Ed) : carryL (a ++ b) e = carryL a e ++ carryL b e := by unfold carryL; rw [List.filterMap_append]
theorem carryL_at {ms : List Mk} {e : Ed} {k : Nat} {m : Mk} (h : ms[k]? = some m) (hc : (carryM m e).2 = true) : (carryL ms e)[(carryL (ms.take k) e).length]? = some (carryM m e).1 := by
  have hs := split_at h
  have h1 : carryL ms e = carryL (ms.take k) e ++ carryL (m :: ms.drop (k + 1)) e := by rw [← carryL_app, ← hs]
  rw [h1, List.getElem?_append_right (Nat.le_refl _), Nat.sub_self]
  unfold carryL
  rw [List.filterMap_cons, if_pos hc]
  rfl
theorem carryL_gone {ms : List Mk} {e : Ed} {s : List UInt8} {m : Mk} (hok : ∀ m ∈ ms, okM s.length m) (hp : possE e s.length) (hs : ms.Pairwise (fun a b => a.id < b.id)) (hm : m ∈ ms) (hc : (carryM m e).2 = false) : ¬ hasId (carryL ms e) m.id := by
  rintro ⟨y, hy, he⟩
  obtain ⟨z, hz, hze⟩ := List.mem_filterMap.1 hy
  split at hze
  · rename_i hc2
    injection hze with hze
    have hid : z.id = m.id := by rw [← he, ← hze, (carryM_ok (hok z hz) hp hc2).2]
    have hzm : z = m := by
      obtain ⟨i, hi⟩ := List.getElem?_of_mem hz
      obtain ⟨j, hj⟩ := List.getElem?_of_mem hm
      rcases Nat.lt_trichotomy i j with h | h | h
      · have := sorted_at hs hi hj h; omega
      · subst h; rw [hi] at hj; exact Option.some.inj hj
      · have := sorted_at hs hj hi h; omega
    rw [hzm, hc] at hc2
    cases hc2
  · cases hze
theorem at_uniq {ms : List Mk} (hs : ms.Pairwise (fun a b => a.id < b.id)) {i j : Nat} {a b : Mk} (hi : ms[i]? = some a) (hj : ms[j]? = some b) (h : a.id = b.id) : i = j ∧ a = b := by
  rcases Nat.lt_trichotomy i j with h1 | h1 | h1
  · have := sorted_at hs hi hj h1; omega
  · subst h1; rw [hi] at hj; exact ⟨rfl, Option.some.inj hj⟩
  · have := sorted_at hs hj hi h1; omega
set_option maxHeartbeats 4000000 in
theorem marks_c {H : Snap} {v vx : Value} {l : List Rw} {x : Rw} (hv : SliceRep H RwL v l) (hb : ∀ x ∈ l, okRw x) (hvx : SliceRep H U8 vx x.tx) (hx : okRw x) :
    Pure Try.prog 5 #[v, .agg #[.int .u8 x.k, .int .u8 x.a, .int .u8 x.l, .int .u8 x.t, vx]] H (fun _ r => r = .bool true) := by
  have hval := (madeK_valid l (min l.length 14)).1
  have hox := hvx.isSl.one1
  refine Pure.intro Try.func5 rfl Try.ntmps5 rfl (fun E R hM hR => ?_)
  repeat (first | refine a1 ?_ | refine a3 ?_ | refine a4 ?_ | refine a5 ?_ | refine a6 ?_ | refine s_loadBs ?_ | refine s_loadHs ?_ | refine s_fieldB ?_ | refine s_fieldV ?_ | refine s_loadB ?_ | refine s_loadH ?_ | refine s_loadR ?_ | refine s_lenS ?_ | refine s_len ?_ | refine s_lenR ?_ | refine s_index ?_ | refine s_indexR ?_ | refine s_neqB ?_ | refine s_neqS ?_ | refine s_addI ?_ | refine a7 ?_ | refine a8 ?_ | refine a9 ?_ | refine RW.storeR rfl rfl rfl rfl (by first | rfl | (simp [allOne, cellsL, one1]; done) | (simp [allOne, cellsL, one1]; first | assumption | (refine ⟨?_, ?_⟩ <;> assumption))) rfl ?_ | refine a10 ?_ | refine RW.storeR1 rfl rfl (by first | rfl | exact IsSl.one1 (by assumption) | exact IsSl.one1 (SliceRep.isSl (by assumption))) rfl rfl ?_)
  refine RW.box rfl rfl rfl rfl (fun b3 => ?_)
  repeat (first | refine a1 ?_ | refine a3 ?_ | refine a4 ?_ | refine a5 ?_ | refine a6 ?_ | refine s_loadBs ?_ | refine s_loadHs ?_ | refine s_fieldB ?_ | refine s_fieldV ?_ | refine s_loadB ?_ | refine s_loadH ?_ | refine s_loadR ?_ | refine s_lenS ?_ | refine s_len ?_ | refine s_lenR ?_ | refine s_index ?_ | refine s_indexR ?_ | refine s_neqB ?_ | refine s_neqS ?_ | refine s_addI ?_ | refine a7 ?_ | refine a8 ?_ | refine a9 ?_ | refine RW.storeR rfl rfl rfl rfl (by first | rfl | (simp [allOne, cellsL, one1]; done) | (simp [allOne, cellsL, one1]; first | assumption | (refine ⟨?_, ?_⟩ <;> assumption))) rfl ?_ | refine a10 ?_ | refine RW.storeR1 rfl rfl (by first | rfl | exact IsSl.one1 (by assumption) | exact IsSl.one1 (SliceRep.isSl (by assumption))) rfl rfl ?_)
  refine RW.callV rfl (sanity_c (H := H)) rfl rfl ?_
  rintro _ _ rfl
  repeat (first | refine a1 ?_ | refine a3 ?_ | refine a4 ?_ | refine a5 ?_ | refine a6 ?_ | refine s_loadBs ?_ | refine s_loadHs ?_ | refine s_fieldB ?_ | refine s_fieldV ?_ | refine s_loadB ?_ | refine s_loadH ?_ | refine s_loadR ?_ | refine s_lenS ?_ | refine s_len ?_ | refine s_lenR ?_ | refine s_index ?_ | refine s_indexR ?_ | refine s_neqB ?_ | refine s_neqS ?_ | refine s_addI ?_ | refine a7 ?_ | refine a8 ?_ | refine a9 ?_ | refine RW.storeR rfl rfl rfl rfl (by first | rfl | (simp [allOne, cellsL, one1]; done) | (simp [allOne, cellsL, one1]; first | assumption | (refine ⟨?_, ?_⟩ <;> assumption))) rfl ?_ | refine a10 ?_ | refine RW.storeR1 rfl rfl (by first | rfl | exact IsSl.one1 (by assumption) | exact IsSl.one1 (SliceRep.isSl (by assumption))) rfl rfl ?_)
  refine RW.call rfl (made_c (n := 14) hv hb (by decide)) rfl rfl ?_
  rintro _ H2 ⟨vm2, hv2, hr2⟩ hle2
  subst hv2
  generalize madeK l (min l.length 14) = D at *
  obtain ⟨s, ms⟩ := D
  have hval2 := hval
  obtain ⟨v1, v2, v3, v4, v5⟩ := hval2
  have hr2 : SliceRep H2 MarkL vm2 ms := hr2
  have ho2 := hr2.isSl.one1
  have hb2 := hr2.isSl.bound
  dsimp only at *
  refine RW.alloc rfl rfl rfl (fun b6 => ?_)
  repeat (first | refine a1 ?_ | refine a3 ?_ | refine a4 ?_ | refine a5 ?_ | refine a6 ?_ | refine s_loadBs ?_ | refine s_loadHs ?_ | refine s_fieldB ?_ | refine s_fieldV ?_ | refine s_loadB ?_ | refine s_loadH ?_ | refine s_loadR ?_ | refine s_lenS ?_ | refine s_len ?_ | refine s_lenR ?_ | refine s_index ?_ | refine s_indexR ?_ | refine s_neqB ?_ | refine s_neqS ?_ | refine s_addI ?_ | refine a7 ?_ | refine a8 ?_ | refine a9 ?_ | refine RW.storeR rfl rfl rfl rfl (by first | rfl | (simp [allOne, cellsL, one1]; done) | (simp [allOne, cellsL, one1]; first | assumption | (refine ⟨?_, ?_⟩ <;> assumption))) rfl ?_ | refine a10 ?_ | refine RW.storeR1 rfl rfl (by first | rfl | exact IsSl.one1 (by assumption) | exact IsSl.one1 (SliceRep.isSl (by assumption))) rfl rfl ?_)
  have hp := editE_poss hx (n := s.length) (by omega)
  have htx := editE_tx x s.length
  refine RW.callV rfl (edit_c (n := s.length) hvx hx (by omega)) rfl rfl ?_
  rintro _ _ rfl
  generalize editE x s.length = e at *
  refine RW.alloc rfl rfl rfl (fun b7 => ?_)
  repeat (first | refine a1 ?_ | refine a3 ?_ | refine a4 ?_ | refine a5 ?_ | refine a6 ?_ | refine s_loadBs ?_ | refine s_loadHs ?_ | refine s_fieldB ?_ | refine s_fieldV ?_ | refine s_loadB ?_ | refine s_loadH ?_ | refine s_loadR ?_ | refine s_lenS ?_ | refine s_len ?_ | refine s_lenR ?_ | refine s_index ?_ | refine s_indexR ?_ | refine s_neqB ?_ | refine s_neqS ?_ | refine s_addI ?_ | refine a7 ?_ | refine a8 ?_ | refine a9 ?_ | refine RW.storeR rfl rfl rfl rfl (by first | rfl | (simp [allOne, cellsL, one1]; done) | (simp [allOne, cellsL, one1]; first | assumption | (refine ⟨?_, ?_⟩ <;> assumption))) rfl ?_ | refine a10 ?_ | refine RW.storeR1 rfl rfl (by first | rfl | exact IsSl.one1 (by assumption) | exact IsSl.one1 (SliceRep.isSl (by assumption))) rfl rfl ?_)
  refine RW.call rfl (do_c (e := e) hr2 (by omega) (by omega) v4 (by omega)) rfl rfl ?_
  rintro _ H3 ⟨_, rfl, hd3⟩ hle3
  have hcl := carryL_length ms e
  have hcs3 := carryL_sorted v4 hp v5
  by_cases hbig : 400 < (applyT s e).length
  · have hdd : doD ⟨s, ms⟩ e = (⟨[], []⟩, 2) := by rw [doD, if_pos hp, if_pos hbig]
    rw [hdd] at hd3 ⊢
    obtain ⟨vm3, rfl, hr3⟩ := hd3
    have ho3 := hr3.isSl.one1
    dsimp only at hr3 ⊢
    repeat (first | refine a1 ?_ | refine a3 ?_ | refine a4 ?_ | refine a5 ?_ | refine a6 ?_ | refine s_loadBs ?_ | refine s_loadHs ?_ | refine s_fieldB ?_ | refine s_fieldV ?_ | refine s_loadB ?_ | refine s_loadH ?_ | refine s_loadR ?_ | refine s_lenS ?_ | refine s_len ?_ | refine s_lenR ?_ | refine s_index ?_ | refine s_indexR ?_ | refine s_neqB ?_ | refine s_neqS ?_ | refine s_addI ?_ | refine a7 ?_ | refine a8 ?_ | refine a9 ?_ | refine RW.storeR rfl rfl rfl rfl (by first | rfl | (simp [allOne, cellsL, one1]; done) | (simp [allOne, cellsL, one1]; first | assumption | (refine ⟨?_, ?_⟩ <;> assumption))) rfl ?_ | refine a10 ?_ | refine RW.storeR1 rfl rfl (by first | rfl | exact IsSl.one1 (by assumption) | exact IsSl.one1 (SliceRep.isSl (by assumption))) rfl rfl ?_)
    refine RW.alloc rfl rfl rfl (fun b8 => ?_)
    repeat (first | refine a1 ?_ | refine a3 ?_ | refine a4 ?_ | refine a5 ?_ | refine a6 ?_ | refine s_loadBs ?_ | refine s_loadHs ?_ | refine s_fieldB ?_ | refine s_fieldV ?_ | refine s_loadB ?_ | refine s_loadH ?_ | refine s_loadR ?_ | refine s_lenS ?_ | refine s_len ?_ | refine s_lenR ?_ | refine s_index ?_ | refine s_indexR ?_ | refine s_neqB ?_ | refine s_neqS ?_ | refine s_addI ?_ | refine a7 ?_ | refine a8 ?_ | refine a9 ?_ | refine RW.storeR rfl rfl rfl rfl (by first | rfl | (simp [allOne, cellsL, one1]; done) | (simp [allOne, cellsL, one1]; first | assumption | (refine ⟨?_, ?_⟩ <;> assumption))) rfl ?_ | refine a10 ?_ | refine RW.storeR1 rfl rfl (by first | rfl | exact IsSl.one1 (by assumption) | exact IsSl.one1 (SliceRep.isSl (by assumption))) rfl rfl ?_)
    refine Runs.ret1 Try.func5 Try.results5 rfl (fun w hm => hR _ w _ H _ (List.mem_cons_self ..) (Snap.le.refl _) ?_ hm)
    rfl
  have hdd : doD ⟨s, ms⟩ e = (⟨applyT s e, carryL ms e⟩, 0) := by rw [doD, if_pos hp, if_neg hbig]
  have hv3 := doD_valid (e := e) hval (by rw [hdd])
  rw [hdd] at hd3 hv3 ⊢
  obtain ⟨vm3, rfl, hr3⟩ := hd3
  have hi3 := hr3.isSl
  have ho3 := hi3.one1
  dsimp only at hr3 hv3 hi3 ⊢
  repeat (first | refine a1 ?_ | refine a3 ?_ | refine a4 ?_ | refine a5 ?_ | refine a6 ?_ | refine s_loadBs ?_ | refine s_loadHs ?_ | refine s_fieldB ?_ | refine s_fieldV ?_ | refine s_loadB ?_ | refine s_loadH ?_ | refine s_loadR ?_ | refine s_lenS ?_ | refine s_len ?_ | refine s_lenR ?_ | refine s_index ?_ | refine s_indexR ?_ | refine s_neqB ?_ | refine s_neqS ?_ | refine s_addI ?_ | refine a7 ?_ | refine a8 ?_ | refine a9 ?_ | refine RW.storeR rfl rfl rfl rfl (by first | rfl | (simp [allOne, cellsL, one1]; done) | (simp [allOne, cellsL, one1]; first | assumption | (refine ⟨?_, ?_⟩ <;> assumption))) rfl ?_ | refine a10 ?_ | refine RW.storeR1 rfl rfl (by first | rfl | exact IsSl.one1 (by assumption) | exact IsSl.one1 (SliceRep.isSl (by assumption))) rfl rfl ?_)
  refine RW.alloc rfl rfl rfl (fun b8 => ?_)
  repeat (first | refine a1 ?_ | refine a3 ?_ | refine a4 ?_ | refine a5 ?_ | refine a6 ?_ | refine s_loadBs ?_ | refine s_loadHs ?_ | refine s_fieldB ?_ | refine s_fieldV ?_ | refine s_loadB ?_ | refine s_loadH ?_ | refine s_loadR ?_ | refine s_lenS ?_ | refine s_len ?_ | refine s_lenR ?_ | refine s_index ?_ | refine s_indexR ?_ | refine s_neqB ?_ | refine s_neqS ?_ | refine s_addI ?_ | refine a7 ?_ | refine a8 ?_ | refine a9 ?_ | refine RW.storeR rfl rfl rfl rfl (by first | rfl | (simp [allOne, cellsL, one1]; done) | (simp [allOne, cellsL, one1]; first | assumption | (refine ⟨?_, ?_⟩ <;> assumption))) rfl ?_ | refine a10 ?_ | refine RW.storeR1 rfl rfl (by first | rfl | exact IsSl.one1 (by assumption) | exact IsSl.one1 (SliceRep.isSl (by assumption))) rfl rfl ?_)
  refine RW.callV rfl (rvalid_c hr3 (by omega) (by omega)) rfl rfl ?_
  rintro _ _ rfl
  rw [decide_eq_true hv3]
  repeat (first | refine a1 ?_ | refine a3 ?_ | refine a4 ?_ | refine a5 ?_ | refine a6 ?_ | refine s_loadBs ?_ | refine s_loadHs ?_ | refine s_fieldB ?_ | refine s_fieldV ?_ | refine s_loadB ?_ | refine s_loadH ?_ | refine s_loadR ?_ | refine s_lenS ?_ | refine s_len ?_ | refine s_lenR ?_ | refine s_index ?_ | refine s_indexR ?_ | refine s_neqB ?_ | refine s_neqS ?_ | refine s_addI ?_ | refine a7 ?_ | refine a8 ?_ | refine a9 ?_ | refine RW.storeR rfl rfl rfl rfl (by first | rfl | (simp [allOne, cellsL, one1]; done) | (simp [allOne, cellsL, one1]; first | assumption | (refine ⟨?_, ?_⟩ <;> assumption))) rfl ?_ | refine a10 ?_ | refine RW.storeR1 rfl rfl (by first | rfl | exact IsSl.one1 (by assumption) | exact IsSl.one1 (SliceRep.isSl (by assumption))) rfl rfl ?_)
  refine Runs.loop (fun k : Nat => k ≤ ms.length) (fun k => ms.length - k) (fun _ => [H3, H2, H]) (fun _ => [.blk b8 30 [str (applyT s e), vm3], .blk b7 24 [.int .i64 e.k, .int .i64 e.at_, .int .i64 e.len, .int .i64 e.to_, str e.tx], .blk b6 30 [str s, vm2]])
    (fun k => [(5, .bool true), (6, .pointer (some ⟨b6, 0, none⟩)), (7, .pointer (some ⟨b7, 0, none⟩)), (8, .pointer (some ⟨b8, 0, none⟩)), (10, .int .i64 ((carryL (ms.take k) e).length : Int)), (11, .int .i64 (k : Int))]) 0 (Nat.zero_le _) (fun h => by
      refine Runs.weak (h) (by repeat (first | exact trivial | refine And.intro rfl ?_)) (fun x hx => List.mem_cons_of_mem _ (SubH.h x hx)) (by repeat (first | exact List.nil_sublist _ | exact List.Sublist.refl _ | refine List.Sublist.cons_cons _ ?_ | refine List.Sublist.cons _ ?_))) ?_
  intro k hk ih
  have his2 := hr2.isSl
  have hlk := carryL_length (ms.take k) e
  have htk : (ms.take k).length = k := by simp; omega
  repeat (first | refine a1 ?_ | refine a3 ?_ | refine a4 ?_ | refine a5 ?_ | refine a6 ?_ | refine s_loadBs ?_ | refine s_loadHs ?_ | refine s_fieldB ?_ | refine s_fieldV ?_ | refine s_loadB ?_ | refine s_loadH ?_ | refine s_loadR ?_ | refine s_lenS ?_ | refine s_len ?_ | refine s_lenR ?_ | refine s_index ?_ | refine s_indexR ?_ | refine s_neqB ?_ | refine s_neqS ?_ | refine s_addI ?_ | refine a7 ?_ | refine a8 ?_ | refine a9 ?_ | refine RW.storeR rfl rfl rfl rfl (by first | rfl | (simp [allOne, cellsL, one1]; done) | (simp [allOne, cellsL, one1]; first | assumption | (refine ⟨?_, ?_⟩ <;> assumption))) rfl ?_ | refine a10 ?_ | refine RW.storeR1 rfl rfl (by first | rfl | exact IsSl.one1 (by assumption) | exact IsSl.one1 (SliceRep.isSl (by assumption))) rfl rfl ?_)
  refine Runs.cond_d rfl (fun hlt => ?_) (fun hlt => ?_)
  · obtain ⟨m, hmk⟩ : ∃ m, ms[k]? = some m := ⟨_, List.getElem?_eq_getElem (by omega)⟩
    have hm2 := hr2.mk hmk
    have hmm := List.mem_of_getElem? hmk
    have hok := v4 m hmm
    have hcs := carryL_succ (e := e) hmk
    have hwp := whole_piece hok hp
    have hco := carryM_ok hok hp
    have hat := carryL_at (e := e) hmk
    have hgo := carryL_gone v4 hp v5 hmm
    repeat (first | refine a1 ?_ | refine a3 ?_ | refine a4 ?_ | refine a5 ?_ | refine a6 ?_ | refine s_loadBs ?_ | refine s_loadHs ?_ | refine s_fieldB ?_ | refine s_fieldV ?_ | refine s_loadB ?_ | refine s_loadH ?_ | refine s_loadR ?_ | refine s_lenS ?_ | refine s_len ?_ | refine s_lenR ?_ | refine s_index ?_ | refine s_indexR ?_ | refine s_neqB ?_ | refine s_neqS ?_ | refine s_addI ?_ | refine a7 ?_ | refine a8 ?_ | refine a9 ?_ | refine RW.storeR rfl rfl rfl rfl (by first | rfl | (simp [allOne, cellsL, one1]; done) | (simp [allOne, cellsL, one1]; first | assumption | (refine ⟨?_, ?_⟩ <;> assumption))) rfl ?_ | refine a10 ?_ | refine RW.storeR1 rfl rfl (by first | rfl | exact IsSl.one1 (by assumption) | exact IsSl.one1 (SliceRep.isSl (by assumption))) rfl rfl ?_)
    refine Runs.regionD _ _ [11] (fun x hx => List.mem_cons_of_mem _ hx) (List.Sublist.refl _) (by kernel_rfl) ?_
    (first | refine t_fieldB 0 ?_ | refine t_fieldV 0 ?_)
    (first | refine t_loadB 1 ?_ | refine t_loadH 1 ?_ | refine t_loadR 1 ?_)
    refine d2 2 ?_
    (first | refine t_index 3 ?_ | refine t_indexR 3 ?_)
    (first | refine t_loadBs 4 ?_ | refine t_loadHs 4 ?_)
    (first | refine t_loadBs 5 ?_ | refine t_loadHs 5 ?_)
    refine DW.float 10 rfl rfl ?_
    refine DWf.call 6 rfl rfl rfl (by kernel_rfl) (by kernel_rfl) rfl rfl rfl rfl rfl rfl (carry_c (H := H) hok hp (by omega)) ?_
    rintro _ H7 rfl _
    generalize carryM m e = c at *
    obtain ⟨c, ct⟩ := c
    dsimp only at *
    refine DWf.qF 7 rfl rfl (by kernel_rfl) (qev_eq rfl) (fun _ => qev_eq rfl) rfl rfl ?_
    refine DWf.qF 8 rfl rfl (by kernel_rfl) (qev_eq rfl) (fun _ => qev_eq rfl) rfl rfl ?_
    refine DWf.qF 9 rfl rfl (by kernel_rfl) (qev_eq rfl) (fun _ => qev_eq rfl) rfl rfl ?_
    refine DWf.take rfl (by kernel_rfl) rfl rfl rfl (fun b12 => ?_)
    simp only [List.cons_append, List.nil_append]
    (first | refine DW.storeB 11 rfl (by kernel_rfl) rfl rfl rfl rfl (by first | rfl | (simp [allOne, cellsL, one1]; done) | (simp [allOne, cellsL, one1]; first | assumption | (refine ⟨?_, ?_⟩ <;> assumption))) rfl ?_ | refine DW.storeB1 11 rfl (by kernel_rfl) rfl rfl rfl (by first | rfl | exact IsSl.one1 (by assumption) | exact IsSl.one1 (SliceRep.isSl (by assumption))) rfl rfl ?_)
    refine d2 12 ?_
    refine DW.done (by kernel_rfl) ?_
    repeat (first | refine a1 ?_ | refine a3 ?_ | refine a4 ?_ | refine a5 ?_ | refine a6 ?_ | refine s_loadBs ?_ | refine s_loadHs ?_ | refine s_fieldB ?_ | refine s_fieldV ?_ | refine s_loadB ?_ | refine s_loadH ?_ | refine s_loadR ?_ | refine s_lenS ?_ | refine s_len ?_ | refine s_lenR ?_ | refine s_index ?_ | refine s_indexR ?_ | refine s_neqB ?_ | refine s_neqS ?_ | refine s_addI ?_ | refine a7 ?_ | refine a8 ?_ | refine a9 ?_ | refine RW.storeR rfl rfl rfl rfl (by first | rfl | (simp [allOne, cellsL, one1]; done) | (simp [allOne, cellsL, one1]; first | assumption | (refine ⟨?_, ?_⟩ <;> assumption))) rfl ?_ | refine a10 ?_ | refine RW.storeR1 rfl rfl (by first | rfl | exact IsSl.one1 (by assumption) | exact IsSl.one1 (SliceRep.isSl (by assumption))) rfl rfl ?_)
    cases ct with
    | false =>
      have hgo := hgo rfl
      rw [if_neg (by simp), List.append_nil] at hcs
      refine Runs.regionD _ _ [] (fun x hx => List.mem_cons_of_mem _ hx) (List.Sublist.refl _) (by kernel_rfl) ?_
      (first | refine t_loadBs 0 ?_ | refine t_loadHs 0 ?_)
      (first | refine t_fieldB 1 ?_ | refine t_fieldV 1 ?_)
      (first | refine t_loadB 2 ?_ | refine t_loadH 2 ?_ | refine t_loadR 2 ?_)
      refine d2 3 ?_
      (first | refine t_index 4 ?_ | refine t_indexR 4 ?_)
      (first | refine t_fieldB 5 ?_ | refine t_fieldV 5 ?_)
      (first | refine t_loadB 6 ?_ | refine t_loadH 6 ?_ | refine t_loadR 6 ?_)
      refine DW.callV 7 rfl (by kernel_rfl) rfl (rfind_c hr3 (i := m.id)) rfl rfl ?_
      rintro v63 H9 hf
      rcases hf with ⟨_, rfl⟩ | ⟨k2, m2, hm2k, hm2i, rfl⟩
      · refine d2 8 ?_
        refine DW.done (by kernel_rfl) ?_
        repeat (first | refine a1 ?_ | refine a3 ?_ | refine a4 ?_ | refine a5 ?_ | refine a6 ?_ | refine s_loadBs ?_ | refine s_loadHs ?_ | refine s_fieldB ?_ | refine s_fieldV ?_ | refine s_loadB ?_ | refine s_loadH ?_ | refine s_loadR ?_ | refine s_lenS ?_ | refine s_len ?_ | refine s_lenR ?_ | refine s_index ?_ | refine s_indexR ?_ | refine s_neqB ?_ | refine s_neqS ?_ | refine s_addI ?_ | refine a7 ?_ | refine a8 ?_ | refine a9 ?_ | refine RW.storeR rfl rfl rfl rfl (by first | rfl | (simp [allOne, cellsL, one1]; done) | (simp [allOne, cellsL, one1]; first | assumption | (refine ⟨?_, ?_⟩ <;> assumption))) rfl ?_ | refine a10 ?_ | refine RW.storeR1 rfl rfl (by first | rfl | exact IsSl.one1 (by assumption) | exact IsSl.one1 (SliceRep.isSl (by assumption))) rfl rfl ?_)
        have h := ih (k + 1) (by omega) (by omega)
        rw [hcs] at h
        refine Runs.weak (h) (by repeat (first | exact trivial | refine And.intro rfl ?_)) (fun x hx => List.mem_cons_of_mem _ (SubH.h x hx)) (by repeat (first | exact List.nil_sublist _ | exact List.Sublist.refl _ | refine List.Sublist.cons_cons _ ?_ | refine List.Sublist.cons _ ?_))
      · exact absurd ⟨m2, List.mem_of_getElem? hm2k, hm2i⟩ hgo
    | true =>
      have hat := hat rfl
      have hco := hco rfl
      have hwp := hwp rfl
      rw [if_pos rfl] at hcs
      refine Runs.regionD _ _ [] (fun x hx => List.mem_cons_of_mem _ hx) (List.Sublist.refl _) (by kernel_rfl) ?_
      (first | refine t_loadBs 0 ?_ | refine t_loadHs 0 ?_)
      (first | refine t_fieldB 1 ?_ | refine t_fieldV 1 ?_)
      (first | refine t_loadB 2 ?_ | refine t_loadH 2 ?_ | refine t_loadR 2 ?_)
      refine d2 3 ?_
      (first | refine t_index 4 ?_ | refine t_indexR 4 ?_)
      (first | refine t_fieldB 5 ?_ | refine t_fieldV 5 ?_)
      (first | refine t_loadB 6 ?_ | refine t_loadH 6 ?_ | refine t_loadR 6 ?_)
      refine DW.callV 7 rfl (by kernel_rfl) rfl (rfind_c hr3 (i := m.id)) rfl rfl ?_
      rintro v63 H9 hf
      rcases hf with ⟨hno, rfl⟩ | ⟨k2, m2, hm2k, hm2i, rfl⟩
      · exact absurd ⟨c, List.mem_of_getElem? hat, hco.2⟩ hno
      · obtain ⟨hk2, hm2c⟩ := at_uniq hcs3 hm2k hat (by rw [hm2i, hco.2])
        subst hk2
        subst hm2c
        refine d2 8 ?_
        refine DW.done (by kernel_rfl) ?_
        repeat (first | refine a1 ?_ | refine a3 ?_ | refine a4 ?_ | refine a5 ?_ | refine a6 ?_ | refine s_loadBs ?_ | refine s_loadHs ?_ | refine s_fieldB ?_ | refine s_fieldV ?_ | refine s_loadB ?_ | refine s_loadH ?_ | refine s_loadR ?_ | refine s_lenS ?_ | refine s_len ?_ | refine s_lenR ?_ | refine s_index ?_ | refine s_indexR ?_ | refine s_neqB ?_ | refine s_neqS ?_ | refine s_addI ?_ | refine a7 ?_ | refine a8 ?_ | refine a9 ?_ | refine RW.storeR rfl rfl rfl rfl (by first | rfl | (simp [allOne, cellsL, one1]; done) | (simp [allOne, cellsL, one1]; first | assumption | (refine ⟨?_, ?_⟩ <;> assumption))) rfl ?_ | refine a10 ?_ | refine RW.storeR1 rfl rfl (by first | rfl | exact IsSl.one1 (by assumption) | exact IsSl.one1 (SliceRep.isSl (by assumption))) rfl rfl ?_)
        have hm3 := hr3.mk hm2k
        have hlt3 := (List.getElem?_eq_some_iff.1 hm2k).1
        unfold okM at hok hco
        refine Runs.regionD _ _ [] (fun x hx => List.mem_cons_of_mem _ hx) (List.Sublist.refl _) (by kernel_rfl) ?_
        refine d1 0 4 ?_
        rw [show ∀ z : Int, decide (z ≠ z) = false from fun z => by simp]
        (first | refine t_fieldB 4 ?_ | refine t_fieldV 4 ?_)
        (first | refine t_loadB 5 ?_ | refine t_loadH 5 ?_ | refine t_loadR 5 ?_)
        refine d2 6 ?_
        (first | refine t_index 7 ?_ | refine t_indexR 7 ?_)
        (first | refine t_loadBs 8 ?_ | refine t_loadHs 8 ?_)
        (first | refine t_loadBs 9 ?_ | refine t_loadHs 9 ?_)
        refine DW.qF 10 rfl (by kernel_rfl) (QF.neqMk (a := m2) (b := m2) rfl rfl) rfl rfl ?_
        rw [show decide (m2 ≠ m2) = false by simp]
        refine d1 11 2 ?_
        (first | refine t_fieldB 13 ?_ | refine t_fieldV 13 ?_)
        (first | refine t_loadB 14 ?_ | refine t_loadH 14 ?_ | refine t_loadR 14 ?_)
        refine d2 15 ?_
        have h9 := ih (k + 1) (by omega) (by omega)
        rw [hcs, List.length_append] at h9
        cases hw : m2.wh with
        | false =>
          refine d3 16 ?_
          refine d3 17 ?_
          refine d3 18 ?_
          refine d3 19 ?_
          refine d3 20 ?_
          refine d3 21 ?_
          refine d3 22 ?_
          refine d3 23 ?_
          refine d3 24 ?_
          refine d3 25 ?_
          refine d3 26 ?_
          refine d3 27 ?_
          refine d3 28 ?_
          refine d3 29 ?_
          refine d3 30 ?_
          refine d3 31 ?_
          refine d3 32 ?_
          refine d3 33 ?_
          refine d3 34 ?_
          refine d3 35 ?_
          refine d1 36 2 ?_
          refine DW.done (by kernel_rfl) ?_
          repeat (first | refine a1 ?_ | refine a3 ?_ | refine a4 ?_ | refine a5 ?_ | refine a6 ?_ | refine s_loadBs ?_ | refine s_loadHs ?_ | refine s_fieldB ?_ | refine s_fieldV ?_ | refine s_loadB ?_ | refine s_loadH ?_ | refine s_loadR ?_ | refine s_lenS ?_ | refine s_len ?_ | refine s_lenR ?_ | refine s_index ?_ | refine s_indexR ?_ | refine s_neqB ?_ | refine s_neqS ?_ | refine s_addI ?_ | refine a7 ?_ | refine a8 ?_ | refine a9 ?_ | refine RW.storeR rfl rfl rfl rfl (by first | rfl | (simp [allOne, cellsL, one1]; done) | (simp [allOne, cellsL, one1]; first | assumption | (refine ⟨?_, ?_⟩ <;> assumption))) rfl ?_ | refine a10 ?_ | refine RW.storeR1 rfl rfl (by first | rfl | exact IsSl.one1 (by assumption) | exact IsSl.one1 (SliceRep.isSl (by assumption))) rfl rfl ?_)
          refine Runs.weak (h9) (by repeat (first | exact trivial | refine And.intro rfl ?_)) (fun x hx => List.mem_cons_of_mem _ (SubH.h x hx)) (by repeat (first | exact List.nil_sublist _ | exact List.Sublist.refl _ | refine List.Sublist.cons_cons _ ?_ | refine List.Sublist.cons _ ?_))
        | true =>
          obtain ⟨hwm, hsub⟩ := hwp hw
          (first | refine t_fieldB 16 ?_ | refine t_fieldV 16 ?_)
          (first | refine t_loadB 17 ?_ | refine t_loadH 17 ?_ | refine t_loadR 17 ?_)
          refine d2 18 ?_
          (first | refine t_index 19 ?_ | refine t_indexR 19 ?_)
          (first | refine t_fieldB 20 ?_ | refine t_fieldV 20 ?_)
          (first | refine t_loadB 21 ?_ | refine t_loadH 21 ?_ | refine t_loadR 21 ?_)
          rw [hwm]
          refine d1 22 2 ?_
          (first | refine t_loadBs 24 ?_ | refine t_loadHs 24 ?_)
          (first | refine t_fieldB 25 ?_ | refine t_fieldV 25 ?_)
          (first | refine t_loadB 26 ?_ | refine t_loadH 26 ?_ | refine t_loadR 26 ?_)
          refine d2 27 ?_
          (first | refine t_index 28 ?_ | refine t_indexR 28 ?_)
          (first | refine t_loadBs 29 ?_ | refine t_loadHs 29 ?_)
          (first | refine t_loadBs 31 ?_ | refine t_loadHs 31 ?_)
          (first | refine t_loadBs 32 ?_ | refine t_loadHs 32 ?_)
          refine DW.callV 30 rfl (by kernel_rfl) rfl (piece_c (H := H) (m := m) his2 (by omega)) rfl rfl ?_
          rintro _ _ rfl
          refine DW.callV 33 rfl (by kernel_rfl) rfl (piece_c (H := H) (m := ⟨m2.id, m2.fr, m2.to_, true⟩) (s := applyT s e) hi3 (by dsimp only; omega)) rfl rfl ?_
          rintro _ _ rfl
          rw [hsub]
          generalize sub (applyT s e) m2.fr m2.to_ = z
          refine t_neqS 34 ?_
          rw [show ∀ z : List UInt8, decide (z ≠ z) = false from fun z => by simp]
          refine d2 35 ?_
          refine d1 36 2 ?_
          refine DW.done (by kernel_rfl) ?_
          repeat (first | refine a1 ?_ | refine a3 ?_ | refine a4 ?_ | refine a5 ?_ | refine a6 ?_ | refine s_loadBs ?_ | refine s_loadHs ?_ | refine s_fieldB ?_ | refine s_fieldV ?_ | refine s_loadB ?_ | refine s_loadH ?_ | refine s_loadR ?_ | refine s_lenS ?_ | refine s_len ?_ | refine s_lenR ?_ | refine s_index ?_ | refine s_indexR ?_ | refine s_neqB ?_ | refine s_neqS ?_ | refine s_addI ?_ | refine a7 ?_ | refine a8 ?_ | refine a9 ?_ | refine RW.storeR rfl rfl rfl rfl (by first | rfl | (simp [allOne, cellsL, one1]; done) | (simp [allOne, cellsL, one1]; first | assumption | (refine ⟨?_, ?_⟩ <;> assumption))) rfl ?_ | refine a10 ?_ | refine RW.storeR1 rfl rfl (by first | rfl | exact IsSl.one1 (by assumption) | exact IsSl.one1 (SliceRep.isSl (by assumption))) rfl rfl ?_)
          refine Runs.weak (h9) (by repeat (first | exact trivial | refine And.intro rfl ?_)) (fun x hx => List.mem_cons_of_mem _ (SubH.h x hx)) (by repeat (first | exact List.nil_sublist _ | exact List.Sublist.refl _ | refine List.Sublist.cons_cons _ ?_ | refine List.Sublist.cons _ ?_))
  · have hkn : k = ms.length := by omega
    subst hkn
    rw [List.take_length] at hlk ⊢
    repeat (first | refine a1 ?_ | refine a3 ?_ | refine a4 ?_ | refine a5 ?_ | refine a6 ?_ | refine s_loadBs ?_ | refine s_loadHs ?_ | refine s_fieldB ?_ | refine s_fieldV ?_ | refine s_loadB ?_ | refine s_loadH ?_ | refine s_loadR ?_ | refine s_lenS ?_ | refine s_len ?_ | refine s_lenR ?_ | refine s_index ?_ | refine s_indexR ?_ | refine s_neqB ?_ | refine s_neqS ?_ | refine s_addI ?_ | refine a7 ?_ | refine a8 ?_ | refine a9 ?_ | refine RW.storeR rfl rfl rfl rfl (by first | rfl | (simp [allOne, cellsL, one1]; done) | (simp [allOne, cellsL, one1]; first | assumption | (refine ⟨?_, ?_⟩ <;> assumption))) rfl ?_ | refine a10 ?_ | refine RW.storeR1 rfl rfl (by first | rfl | exact IsSl.one1 (by assumption) | exact IsSl.one1 (SliceRep.isSl (by assumption))) rfl rfl ?_)
    rw [show ∀ z : Int, decide (z = z) = true from fun z => by simp]
    repeat (first | refine a1 ?_ | refine a3 ?_ | refine a4 ?_ | refine a5 ?_ | refine a6 ?_ | refine s_loadBs ?_ | refine s_loadHs ?_ | refine s_fieldB ?_ | refine s_fieldV ?_ | refine s_loadB ?_ | refine s_loadH ?_ | refine s_loadR ?_ | refine s_lenS ?_ | refine s_len ?_ | refine s_lenR ?_ | refine s_index ?_ | refine s_indexR ?_ | refine s_neqB ?_ | refine s_neqS ?_ | refine s_addI ?_ | refine a7 ?_ | refine a8 ?_ | refine a9 ?_ | refine RW.storeR rfl rfl rfl rfl (by first | rfl | (simp [allOne, cellsL, one1]; done) | (simp [allOne, cellsL, one1]; first | assumption | (refine ⟨?_, ?_⟩ <;> assumption))) rfl ?_ | refine a10 ?_ | refine RW.storeR1 rfl rfl (by first | rfl | exact IsSl.one1 (by assumption) | exact IsSl.one1 (SliceRep.isSl (by assumption))) rfl rfl ?_)
    refine Runs.ret1 Try.func5 Try.results5 rfl (fun w hm => hR _ w _ H _ (List.mem_cons_self ..) (Snap.le.refl _) ?_ hm)
    rfl
end Go.Proofs.Ytcikciefaggckaa

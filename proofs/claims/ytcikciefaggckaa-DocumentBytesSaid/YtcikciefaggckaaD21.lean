/-
  The law DocumentBytes. Conditions: the raw data hold bytes.
-/
import Derived.Test.YtcikciefaggckaaD17
namespace Go.Proofs.Ytcikciefaggckaa
open Go Go.RowKit

theorem eqItems_self {L : List Int} (w : World) : ∀ is : List Nat, (∀ i ∈ is, i < L.length) → (Op.eqItems 9999 3 1 (ctC L).toArray (ctC L).toArray is).run Try.prog w = .ok true w
  | [], _ => by simp [Op.eqItems]
  | i :: is, h => by
    have hi := h i (List.mem_cons_self ..)
    have hp : (part 3 (ctC L).toArray (i * 1)).run Try.prog w = .ok (.int .i64 L[i]) w := by
      simp [part, Try.sizeOf3, Try.isAgg3, hi]
    have he : (Op.equalIn 9999 3 (.int .i64 L[i]) (.int .i64 L[i])).run Try.prog w = .ok true w := by
      rw [show (9999 : Nat) = 9998 + 1 from rfl, run_equalIn_int _ _ _ _ _ _ _ Try.underlying3]
      simp
    simp only [Op.eqItems, Sem.run_bind, hp, he, Result.andThen_ok]
    simpa using eqItems_self w is (fun j hj => h j (List.mem_cons_of_mem _ hj))
theorem QF.eqlArr {l : Env} {T' : TypeId} {x y : Operand} {L : List Int} (hl : L.length = 95) (hx : opv l x = some (.agg (ctC L).toArray)) (hy : opv l y = some (.agg (ctC L).toArray)) : QF Try.prog l (.binOp .eql 58 x y T') (.bool true) := by
  intro o ho ρ hρ w
  have h2 : (Op.equalIn 10000 58 (.agg (ctC L).toArray) (.agg (ctC L).toArray)).run Try.prog w = .ok true w := by
    rw [show (10000 : Nat) = 9999 + 1 from rfl, run_equalIn_array w 9999 _ _ Try.underlying58 Try.type3]
    exact eqItems_self w _ (fun i hi => by rw [hl]; exact List.mem_range.1 hi)
  simp only [execOp, ho, hρ _ _ hx, hρ _ _ hy, Sem.run_bind, run_eqGuard_agg w _ _ _ _ _ _ Try.eqGuardType58, Result.andThen_ok, run_eql_struct, h2]
  rfl
theorem move_perm (s : List UInt8) (a l q : Nat) : (insT (delT s a l) q ((s.take (a + l)).drop a)).Perm s := by
  unfold insT delT
  have h1 : s = s.take a ++ ((s.take (a + l)).drop a ++ s.drop (a + l)) := by
    rw [← List.append_assoc]
    have : s.take a ++ (s.take (a + l)).drop a = s.take (a + l) := by
      have h2 := List.take_append_drop a (s.take (a + l))
      rwa [List.take_take, Nat.min_eq_left (by omega)] at h2
    rw [this, List.take_append_drop]
  generalize hD : s.take a ++ s.drop (a + l) = D
  refine List.Perm.trans (l₂ := (s.take (a + l)).drop a ++ D) ?_ ?_
  · refine List.Perm.trans (List.perm_append_right_iff _ |>.2 List.perm_append_comm) ?_
    rw [List.append_assoc, List.take_append_drop]
  · rw [← hD]
    conv => rhs; rw [h1]
    rw [← List.append_assoc, ← List.append_assoc]
    exact List.perm_append_right_iff _ |>.2 List.perm_append_comm
theorem ins_mid {s t : List UInt8} {q : Nat} (hq : q ≤ s.length) : ((insT s q t).take (q + t.length)).drop q = t := by
  unfold insT
  have hl : (s.take q).length = q := by simp; omega
  rw [List.take_append_of_le_length (by simp; omega), List.take_of_length_le (by simp; omega), List.drop_append_of_le_length (by omega), List.drop_eq_nil_of_le (by omega)]
  rfl
theorem del_back {s : List UInt8} {a l : Nat} (h : a + l ≤ s.length) : (delT s a l).take a ++ (s.take (a + l)).drop a ++ (delT s a l).drop a = s := by
  have hl : (s.take a).length = a := by simp; omega
  have h1 : (delT s a l).take a = s.take a := by
    unfold delT
    rw [List.take_append_of_le_length (by omega), List.take_of_length_le (by omega)]
  have h2 : (delT s a l).drop a = s.drop (a + l) := by
    unfold delT
    rw [List.drop_append_of_le_length (by omega), List.drop_eq_nil_of_le (by omega)]
    rfl
  have h3 : s.take a ++ (s.take (a + l)).drop a = s.take (a + l) := by
    have h2 := List.take_append_drop a (s.take (a + l))
    rwa [List.take_take, Nat.min_eq_left (by omega)] at h2
  rw [h1, h2, h3, List.take_append_drop]
theorem carryL_sty {ms : List Mk} {e : Ed} (h : e.k = 4) : carryL ms e = ms := by
  unfold carryL
  induction ms with
  | nil => rfl
  | cons m ms ih =>
    have hc := carryM_not (m := m) (e := e) (by omega) (.inl h)
    rw [List.filterMap_cons, hc, ih]
    rfl
set_option maxHeartbeats 4000000 in
theorem bytes_c {H : Snap} {v vx : Value} {l : List Rw} {x : Rw} (hv : SliceRep H RwL v l) (hb : ∀ x ∈ l, okRw x) (hvx : SliceRep H U8 vx x.tx) (hx : okRw x) :
    Pure Try.prog 6 #[v, .agg #[.int .u8 x.k, .int .u8 x.a, .int .u8 x.l, .int .u8 x.t, vx]] H (fun _ r => r = .bool true) := by
  have hval := (madeK_valid l (min l.length 14)).1
  have hox := hvx.isSl.one1
  refine Pure.intro Try.func6 rfl Try.ntmps6 rfl (fun E R hM hR => ?_)
  repeat (first | refine a1 ?_ | refine a3 ?_ | refine a4 ?_ | refine a5 ?_ | refine a6 ?_ | refine s_loadBs ?_ | refine s_loadHs ?_ | refine s_fieldB ?_ | refine s_fieldV ?_ | refine s_loadB ?_ | refine s_loadH ?_ | refine s_loadR ?_ | refine s_lenS ?_ | refine s_sliceSHi ?_ | refine s_addS ?_ | refine s_sliceSLo ?_ | refine s_eqlS ?_ | refine s_min ?_ | refine s_addI ?_ | refine s_sliceSLH ?_ | refine a7 ?_ | refine a8 ?_ | refine a9 ?_ | refine RW.storeR rfl rfl rfl rfl (by first | rfl | (simp [allOne, cellsL, one1]; done) | (simp [allOne, cellsL, one1]; first | assumption | (refine ⟨?_, ?_⟩ <;> assumption))) rfl ?_ | refine a10 ?_ | refine RW.storeR1 rfl rfl (by first | rfl | exact IsSl.one1 (by assumption) | exact IsSl.one1 (SliceRep.isSl (by assumption))) rfl rfl ?_)
  refine RW.box rfl rfl rfl rfl (fun b3 => ?_)
  repeat (first | refine a1 ?_ | refine a3 ?_ | refine a4 ?_ | refine a5 ?_ | refine a6 ?_ | refine s_loadBs ?_ | refine s_loadHs ?_ | refine s_fieldB ?_ | refine s_fieldV ?_ | refine s_loadB ?_ | refine s_loadH ?_ | refine s_loadR ?_ | refine s_lenS ?_ | refine s_sliceSHi ?_ | refine s_addS ?_ | refine s_sliceSLo ?_ | refine s_eqlS ?_ | refine s_min ?_ | refine s_addI ?_ | refine s_sliceSLH ?_ | refine a7 ?_ | refine a8 ?_ | refine a9 ?_ | refine RW.storeR rfl rfl rfl rfl (by first | rfl | (simp [allOne, cellsL, one1]; done) | (simp [allOne, cellsL, one1]; first | assumption | (refine ⟨?_, ?_⟩ <;> assumption))) rfl ?_ | refine a10 ?_ | refine RW.storeR1 rfl rfl (by first | rfl | exact IsSl.one1 (by assumption) | exact IsSl.one1 (SliceRep.isSl (by assumption))) rfl rfl ?_)
  refine RW.callV rfl (sanity_c (H := H)) rfl rfl ?_
  rintro _ _ rfl
  repeat (first | refine a1 ?_ | refine a3 ?_ | refine a4 ?_ | refine a5 ?_ | refine a6 ?_ | refine s_loadBs ?_ | refine s_loadHs ?_ | refine s_fieldB ?_ | refine s_fieldV ?_ | refine s_loadB ?_ | refine s_loadH ?_ | refine s_loadR ?_ | refine s_lenS ?_ | refine s_sliceSHi ?_ | refine s_addS ?_ | refine s_sliceSLo ?_ | refine s_eqlS ?_ | refine s_min ?_ | refine s_addI ?_ | refine s_sliceSLH ?_ | refine a7 ?_ | refine a8 ?_ | refine a9 ?_ | refine RW.storeR rfl rfl rfl rfl (by first | rfl | (simp [allOne, cellsL, one1]; done) | (simp [allOne, cellsL, one1]; first | assumption | (refine ⟨?_, ?_⟩ <;> assumption))) rfl ?_ | refine a10 ?_ | refine RW.storeR1 rfl rfl (by first | rfl | exact IsSl.one1 (by assumption) | exact IsSl.one1 (SliceRep.isSl (by assumption))) rfl rfl ?_)
  refine RW.call rfl (made_c (n := 14) hv hb (by decide)) rfl rfl ?_
  rintro _ H2 ⟨vm2, hv2, hr2⟩ hle2
  subst hv2
  generalize madeK l (min l.length 14) = D at *
  obtain ⟨s, ms⟩ := D
  have hval2 := hval
  obtain ⟨v1, v2, v3, v4, v5⟩ := hval2
  have hr2 : SliceRep H2 MarkL vm2 ms := hr2
  have ho2 := hr2.isSl.one1
  have hb2 := hr2.isSl.bound
  dsimp only at *
  refine RW.alloc rfl rfl rfl (fun b6 => ?_)
  repeat (first | refine a1 ?_ | refine a3 ?_ | refine a4 ?_ | refine a5 ?_ | refine a6 ?_ | refine s_loadBs ?_ | refine s_loadHs ?_ | refine s_fieldB ?_ | refine s_fieldV ?_ | refine s_loadB ?_ | refine s_loadH ?_ | refine s_loadR ?_ | refine s_lenS ?_ | refine s_sliceSHi ?_ | refine s_addS ?_ | refine s_sliceSLo ?_ | refine s_eqlS ?_ | refine s_min ?_ | refine s_addI ?_ | refine s_sliceSLH ?_ | refine a7 ?_ | refine a8 ?_ | refine a9 ?_ | refine RW.storeR rfl rfl rfl rfl (by first | rfl | (simp [allOne, cellsL, one1]; done) | (simp [allOne, cellsL, one1]; first | assumption | (refine ⟨?_, ?_⟩ <;> assumption))) rfl ?_ | refine a10 ?_ | refine RW.storeR1 rfl rfl (by first | rfl | exact IsSl.one1 (by assumption) | exact IsSl.one1 (SliceRep.isSl (by assumption))) rfl rfl ?_)
  have hp := editE_poss hx (n := s.length) (by omega)
  have htx := editE_tx x s.length
  refine RW.callV rfl (edit_c (n := s.length) hvx hx (by omega)) rfl rfl ?_
  rintro _ _ rfl
  generalize editE x s.length = e at *
  refine RW.alloc rfl rfl rfl (fun b7 => ?_)
  repeat (first | refine a1 ?_ | refine a3 ?_ | refine a4 ?_ | refine a5 ?_ | refine a6 ?_ | refine s_loadBs ?_ | refine s_loadHs ?_ | refine s_fieldB ?_ | refine s_fieldV ?_ | refine s_loadB ?_ | refine s_loadH ?_ | refine s_loadR ?_ | refine s_lenS ?_ | refine s_sliceSHi ?_ | refine s_addS ?_ | refine s_sliceSLo ?_ | refine s_eqlS ?_ | refine s_min ?_ | refine s_addI ?_ | refine s_sliceSLH ?_ | refine a7 ?_ | refine a8 ?_ | refine a9 ?_ | refine RW.storeR rfl rfl rfl rfl (by first | rfl | (simp [allOne, cellsL, one1]; done) | (simp [allOne, cellsL, one1]; first | assumption | (refine ⟨?_, ?_⟩ <;> assumption))) rfl ?_ | refine a10 ?_ | refine RW.storeR1 rfl rfl (by first | rfl | exact IsSl.one1 (by assumption) | exact IsSl.one1 (SliceRep.isSl (by assumption))) rfl rfl ?_)
  refine RW.call rfl (do_c (e := e) hr2 (by omega) (by omega) v4 (by omega)) rfl rfl ?_
  rintro _ H3 ⟨_, rfl, hd3⟩ hle3
  have hal := applyT_length hp
  have hpn := hp.nums
  obtain ⟨a, hea⟩ : ∃ a : Nat, e.at_ = (a : Int) := ⟨e.at_.toNat, by omega⟩
  by_cases hbig : 400 < (applyT s e).length
  · have hdd : doD ⟨s, ms⟩ e = (⟨[], []⟩, 2) := by rw [doD, if_pos hp, if_pos hbig]
    rw [hdd] at hd3 ⊢
    obtain ⟨vm3, rfl, hr3⟩ := hd3
    have ho3 := hr3.isSl.one1
    dsimp only at hr3 ⊢
    have hk1 : e.k = 1 := by omega
    repeat (first | refine a1 ?_ | refine a3 ?_ | refine a4 ?_ | refine a5 ?_ | refine a6 ?_ | refine s_loadBs ?_ | refine s_loadHs ?_ | refine s_fieldB ?_ | refine s_fieldV ?_ | refine s_loadB ?_ | refine s_loadH ?_ | refine s_loadR ?_ | refine s_lenS ?_ | refine s_sliceSHi ?_ | refine s_addS ?_ | refine s_sliceSLo ?_ | refine s_eqlS ?_ | refine s_min ?_ | refine s_addI ?_ | refine s_sliceSLH ?_ | refine a7 ?_ | refine a8 ?_ | refine a9 ?_ | refine RW.storeR rfl rfl rfl rfl (by first | rfl | (simp [allOne, cellsL, one1]; done) | (simp [allOne, cellsL, one1]; first | assumption | (refine ⟨?_, ?_⟩ <;> assumption))) rfl ?_ | refine a10 ?_ | refine RW.storeR1 rfl rfl (by first | rfl | exact IsSl.one1 (by assumption) | exact IsSl.one1 (SliceRep.isSl (by assumption))) rfl rfl ?_)
    refine RW.alloc rfl rfl rfl (fun b8 => ?_)
    repeat (first | refine a1 ?_ | refine a3 ?_ | refine a4 ?_ | refine a5 ?_ | refine a6 ?_ | refine s_loadBs ?_ | refine s_loadHs ?_ | refine s_fieldB ?_ | refine s_fieldV ?_ | refine s_loadB ?_ | refine s_loadH ?_ | refine s_loadR ?_ | refine s_lenS ?_ | refine s_sliceSHi ?_ | refine s_addS ?_ | refine s_sliceSLo ?_ | refine s_eqlS ?_ | refine s_min ?_ | refine s_addI ?_ | refine s_sliceSLH ?_ | refine a7 ?_ | refine a8 ?_ | refine a9 ?_ | refine RW.storeR rfl rfl rfl rfl (by first | rfl | (simp [allOne, cellsL, one1]; done) | (simp [allOne, cellsL, one1]; first | assumption | (refine ⟨?_, ?_⟩ <;> assumption))) rfl ?_ | refine a10 ?_ | refine RW.storeR1 rfl rfl (by first | rfl | exact IsSl.one1 (by assumption) | exact IsSl.one1 (SliceRep.isSl (by assumption))) rfl rfl ?_)
    rw [decide_eq_true hk1]
    repeat (first | refine a1 ?_ | refine a3 ?_ | refine a4 ?_ | refine a5 ?_ | refine a6 ?_ | refine s_loadBs ?_ | refine s_loadHs ?_ | refine s_fieldB ?_ | refine s_fieldV ?_ | refine s_loadB ?_ | refine s_loadH ?_ | refine s_loadR ?_ | refine s_lenS ?_ | refine s_sliceSHi ?_ | refine s_addS ?_ | refine s_sliceSLo ?_ | refine s_eqlS ?_ | refine s_min ?_ | refine s_addI ?_ | refine s_sliceSLH ?_ | refine a7 ?_ | refine a8 ?_ | refine a9 ?_ | refine RW.storeR rfl rfl rfl rfl (by first | rfl | (simp [allOne, cellsL, one1]; done) | (simp [allOne, cellsL, one1]; first | assumption | (refine ⟨?_, ?_⟩ <;> assumption))) rfl ?_ | refine a10 ?_ | refine RW.storeR1 rfl rfl (by first | rfl | exact IsSl.one1 (by assumption) | exact IsSl.one1 (SliceRep.isSl (by assumption))) rfl rfl ?_)
    refine Runs.ret1 Try.func6 Try.results6 rfl (fun w hm => hR _ w _ H _ (List.mem_cons_self ..) (Snap.le.refl _) ?_ hm)
    rfl
  have hdd : doD ⟨s, ms⟩ e = (⟨applyT s e, carryL ms e⟩, 0) := by rw [doD, if_pos hp, if_neg hbig]
  rw [hdd] at hd3 ⊢
  obtain ⟨vm3, rfl, hr3⟩ := hd3
  have hi3 := hr3.isSl
  have ho3 := hi3.one1
  dsimp only at hr3 hi3 ⊢
  clear hdd
  generalize hTT : applyT s e = T at *
  repeat (first | refine a1 ?_ | refine a3 ?_ | refine a4 ?_ | refine a5 ?_ | refine a6 ?_ | refine s_loadBs ?_ | refine s_loadHs ?_ | refine s_fieldB ?_ | refine s_fieldV ?_ | refine s_loadB ?_ | refine s_loadH ?_ | refine s_loadR ?_ | refine s_lenS ?_ | refine s_sliceSHi ?_ | refine s_addS ?_ | refine s_sliceSLo ?_ | refine s_eqlS ?_ | refine s_min ?_ | refine s_addI ?_ | refine s_sliceSLH ?_ | refine a7 ?_ | refine a8 ?_ | refine a9 ?_ | refine RW.storeR rfl rfl rfl rfl (by first | rfl | (simp [allOne, cellsL, one1]; done) | (simp [allOne, cellsL, one1]; first | assumption | (refine ⟨?_, ?_⟩ <;> assumption))) rfl ?_ | refine a10 ?_ | refine RW.storeR1 rfl rfl (by first | rfl | exact IsSl.one1 (by assumption) | exact IsSl.one1 (SliceRep.isSl (by assumption))) rfl rfl ?_)
  refine RW.alloc rfl rfl rfl (fun b8 => ?_)
  repeat (first | refine a1 ?_ | refine a3 ?_ | refine a4 ?_ | refine a5 ?_ | refine a6 ?_ | refine s_loadBs ?_ | refine s_loadHs ?_ | refine s_fieldB ?_ | refine s_fieldV ?_ | refine s_loadB ?_ | refine s_loadH ?_ | refine s_loadR ?_ | refine s_lenS ?_ | refine s_sliceSHi ?_ | refine s_addS ?_ | refine s_sliceSLo ?_ | refine s_eqlS ?_ | refine s_min ?_ | refine s_addI ?_ | refine s_sliceSLH ?_ | refine a7 ?_ | refine a8 ?_ | refine a9 ?_ | refine RW.storeR rfl rfl rfl rfl (by first | rfl | (simp [allOne, cellsL, one1]; done) | (simp [allOne, cellsL, one1]; first | assumption | (refine ⟨?_, ?_⟩ <;> assumption))) rfl ?_ | refine a10 ?_ | refine RW.storeR1 rfl rfl (by first | rfl | exact IsSl.one1 (by assumption) | exact IsSl.one1 (SliceRep.isSl (by assumption))) rfl rfl ?_)
  refine Runs.regionD _ _ [] (fun x hx => List.mem_cons_of_mem _ hx) (List.Sublist.refl _) (by kernel_rfl) ?_
  (first | refine t_fieldB 0 ?_ | refine t_fieldV 0 ?_)
  (first | refine t_loadB 1 ?_ | refine t_loadH 1 ?_ | refine t_loadR 1 ?_)
  (first | refine t_fieldB 2 ?_ | refine t_fieldV 2 ?_)
  (first | refine t_loadB 3 ?_ | refine t_loadH 3 ?_ | refine t_loadR 3 ?_)
  refine d1 4 2 ?_
  refine DW.done (by kernel_rfl) ?_
  repeat (first | refine a1 ?_ | refine a3 ?_ | refine a4 ?_ | refine a5 ?_ | refine a6 ?_ | refine s_loadBs ?_ | refine s_loadHs ?_ | refine s_fieldB ?_ | refine s_fieldV ?_ | refine s_loadB ?_ | refine s_loadH ?_ | refine s_loadR ?_ | refine s_lenS ?_ | refine s_sliceSHi ?_ | refine s_addS ?_ | refine s_sliceSLo ?_ | refine s_eqlS ?_ | refine s_min ?_ | refine s_addI ?_ | refine s_sliceSLH ?_ | refine a7 ?_ | refine a8 ?_ | refine a9 ?_ | refine RW.storeR rfl rfl rfl rfl (by first | rfl | (simp [allOne, cellsL, one1]; done) | (simp [allOne, cellsL, one1]; first | assumption | (refine ⟨?_, ?_⟩ <;> assumption))) rfl ?_ | refine a10 ?_ | refine RW.storeR1 rfl rfl (by first | rfl | exact IsSl.one1 (by assumption) | exact IsSl.one1 (SliceRep.isSl (by assumption))) rfl rfl ?_)
  refine Runs.cond_d rfl (fun hk1 => ?_) (fun hk1 => ?_)
  · have hT : T = s.take a ++ e.tx ++ s.drop a := by rw [← hTT, applyT_ins hk1, hea, Int.toNat_natCast]; rfl
    have hl1 : (s.take a).length ≤ 400 := by simp; omega
    have hl2 : (s.take a ++ e.tx).length ≤ 500 := by simp; omega
    have hl3 : (s.drop a).length ≤ 400 := by simp; omega
    rw [hea]
    repeat (first | refine a1 ?_ | refine a3 ?_ | refine a4 ?_ | refine a5 ?_ | refine a6 ?_ | refine s_loadBs ?_ | refine s_loadHs ?_ | refine s_fieldB ?_ | refine s_fieldV ?_ | refine s_loadB ?_ | refine s_loadH ?_ | refine s_loadR ?_ | refine s_lenS ?_ | refine s_sliceSHi ?_ | refine s_addS ?_ | refine s_sliceSLo ?_ | refine s_eqlS ?_ | refine s_min ?_ | refine s_addI ?_ | refine s_sliceSLH ?_ | refine a7 ?_ | refine a8 ?_ | refine a9 ?_ | refine RW.storeR rfl rfl rfl rfl (by first | rfl | (simp [allOne, cellsL, one1]; done) | (simp [allOne, cellsL, one1]; first | assumption | (refine ⟨?_, ?_⟩ <;> assumption))) rfl ?_ | refine a10 ?_ | refine RW.storeR1 rfl rfl (by first | rfl | exact IsSl.one1 (by assumption) | exact IsSl.one1 (SliceRep.isSl (by assumption))) rfl rfl ?_)
    refine Runs.regionD _ _ [] (fun x hx => List.mem_cons_of_mem _ hx) (List.Sublist.refl _) (by kernel_rfl) ?_
    refine d1 0 2 ?_
    (first | refine t_fieldB 2 ?_ | refine t_fieldV 2 ?_)
    (first | refine t_loadB 3 ?_ | refine t_loadH 3 ?_ | refine t_loadR 3 ?_)
    refine t_sliceSHi 4 ?_
    (first | refine t_fieldB 5 ?_ | refine t_fieldV 5 ?_)
    (first | refine t_loadB 6 ?_ | refine t_loadH 6 ?_ | refine t_loadR 6 ?_)
    refine t_addS 7 ?_
    refine d2 8 ?_
    (first | refine t_fieldB 9 ?_ | refine t_fieldV 9 ?_)
    (first | refine t_loadB 10 ?_ | refine t_loadH 10 ?_ | refine t_loadR 10 ?_)
    refine t_sliceSLo 11 ?_
    refine t_addS 12 ?_
    refine t_eqlS 13 ?_
    refine d2 14 ?_
    rw [decide_eq_true hT]
    refine d1 15 3 ?_
    refine DW.done (by kernel_rfl) ?_
    repeat (first | refine a1 ?_ | refine a3 ?_ | refine a4 ?_ | refine a5 ?_ | refine a6 ?_ | refine s_loadBs ?_ | refine s_loadHs ?_ | refine s_fieldB ?_ | refine s_fieldV ?_ | refine s_loadB ?_ | refine s_loadH ?_ | refine s_loadR ?_ | refine s_lenS ?_ | refine s_sliceSHi ?_ | refine s_addS ?_ | refine s_sliceSLo ?_ | refine s_eqlS ?_ | refine s_min ?_ | refine s_addI ?_ | refine s_sliceSLH ?_ | refine a7 ?_ | refine a8 ?_ | refine a9 ?_ | refine RW.storeR rfl rfl rfl rfl (by first | rfl | (simp [allOne, cellsL, one1]; done) | (simp [allOne, cellsL, one1]; first | assumption | (refine ⟨?_, ?_⟩ <;> assumption))) rfl ?_ | refine a10 ?_ | refine RW.storeR1 rfl rfl (by first | rfl | exact IsSl.one1 (by assumption) | exact IsSl.one1 (SliceRep.isSl (by assumption))) rfl rfl ?_)
    refine Runs.ret1 Try.func6 Try.results6 rfl (fun w hm => hR _ w _ H _ (List.mem_cons_self ..) (Snap.le.refl _) ?_ hm)
    rfl
  obtain ⟨l, hel⟩ : ∃ l : Nat, e.len = (l : Int) := ⟨e.len.toNat, by omega⟩
  have hdl := delT_length (s := s) (i := a) (n := l) (by omega)
  repeat (first | refine a1 ?_ | refine a3 ?_ | refine a4 ?_ | refine a5 ?_ | refine a6 ?_ | refine s_loadBs ?_ | refine s_loadHs ?_ | refine s_fieldB ?_ | refine s_fieldV ?_ | refine s_loadB ?_ | refine s_loadH ?_ | refine s_loadR ?_ | refine s_lenS ?_ | refine s_sliceSHi ?_ | refine s_addS ?_ | refine s_sliceSLo ?_ | refine s_eqlS ?_ | refine s_min ?_ | refine s_addI ?_ | refine s_sliceSLH ?_ | refine a7 ?_ | refine a8 ?_ | refine a9 ?_ | refine RW.storeR rfl rfl rfl rfl (by first | rfl | (simp [allOne, cellsL, one1]; done) | (simp [allOne, cellsL, one1]; first | assumption | (refine ⟨?_, ?_⟩ <;> assumption))) rfl ?_ | refine a10 ?_ | refine RW.storeR1 rfl rfl (by first | rfl | exact IsSl.one1 (by assumption) | exact IsSl.one1 (SliceRep.isSl (by assumption))) rfl rfl ?_)
  refine Runs.cond_d rfl (fun hk2 => ?_) (fun hk2 => ?_)
  · have hT : T = delT s a l := by rw [← hTT, applyT_del hk2, hea, hel, Int.toNat_natCast, Int.toNat_natCast]
    have hS : s = T.take a ++ (s.take (a + l)).drop a ++ T.drop a := by rw [hT, del_back (by omega)]
    have hl1 : (T.take a).length ≤ 400 := by simp; omega
    have hl2 : ((s.take (a + l)).drop a).length ≤ 400 := by simp; omega
    have hl3 : (T.take a ++ (s.take (a + l)).drop a).length ≤ 800 := by rw [List.length_append]; omega
    have hl4 : (T.drop a).length ≤ 400 := by simp; omega
    rw [hea, hel]
    repeat (first | refine a1 ?_ | refine a3 ?_ | refine a4 ?_ | refine a5 ?_ | refine a6 ?_ | refine s_loadBs ?_ | refine s_loadHs ?_ | refine s_fieldB ?_ | refine s_fieldV ?_ | refine s_loadB ?_ | refine s_loadH ?_ | refine s_loadR ?_ | refine s_lenS ?_ | refine s_sliceSHi ?_ | refine s_addS ?_ | refine s_sliceSLo ?_ | refine s_eqlS ?_ | refine s_min ?_ | refine s_addI ?_ | refine s_sliceSLH ?_ | refine a7 ?_ | refine a8 ?_ | refine a9 ?_ | refine RW.storeR rfl rfl rfl rfl (by first | rfl | (simp [allOne, cellsL, one1]; done) | (simp [allOne, cellsL, one1]; first | assumption | (refine ⟨?_, ?_⟩ <;> assumption))) rfl ?_ | refine a10 ?_ | refine RW.storeR1 rfl rfl (by first | rfl | exact IsSl.one1 (by assumption) | exact IsSl.one1 (SliceRep.isSl (by assumption))) rfl rfl ?_)
    refine Runs.regionD _ _ [] (fun x hx => List.mem_cons_of_mem _ hx) (List.Sublist.refl _) (by kernel_rfl) ?_
    refine d1 0 2 ?_
    (first | refine t_fieldB 2 ?_ | refine t_fieldV 2 ?_)
    (first | refine t_loadB 3 ?_ | refine t_loadH 3 ?_ | refine t_loadR 3 ?_)
    refine d2 4 ?_
    refine t_lenS 5 ?_
    refine t_min 6 ?_
    rw [if_neg (by omega)]
    refine t_sliceSHi 7 ?_
    refine d2 8 ?_
    (first | refine t_fieldB 9 ?_ | refine t_fieldV 9 ?_)
    (first | refine t_loadB 10 ?_ | refine t_loadH 10 ?_ | refine t_loadR 10 ?_)
    (first | refine t_fieldB 11 ?_ | refine t_fieldV 11 ?_)
    (first | refine t_loadB 12 ?_ | refine t_loadH 12 ?_ | refine t_loadR 12 ?_)
    (first | refine t_fieldB 13 ?_ | refine t_fieldV 13 ?_)
    (first | refine t_loadB 14 ?_ | refine t_loadH 14 ?_ | refine t_loadR 14 ?_)
    refine t_addI 15 ?_
    refine t_sliceSLH 16 ?_
    refine t_addS 17 ?_
    refine d2 18 ?_
    (first | refine t_fieldB 19 ?_ | refine t_fieldV 19 ?_)
    (first | refine t_loadB 20 ?_ | refine t_loadH 20 ?_ | refine t_loadR 20 ?_)
    refine d2 21 ?_
    refine t_lenS 22 ?_
    refine t_min 23 ?_
    rw [if_neg (by omega)]
    refine t_sliceSLo 24 ?_
    refine t_addS 25 ?_
    refine t_eqlS 26 ?_
    refine d2 27 ?_
    rw [decide_eq_true hS]
    refine d1 28 3 ?_
    refine DW.done (by kernel_rfl) ?_
    repeat (first | refine a1 ?_ | refine a3 ?_ | refine a4 ?_ | refine a5 ?_ | refine a6 ?_ | refine s_loadBs ?_ | refine s_loadHs ?_ | refine s_fieldB ?_ | refine s_fieldV ?_ | refine s_loadB ?_ | refine s_loadH ?_ | refine s_loadR ?_ | refine s_lenS ?_ | refine s_sliceSHi ?_ | refine s_addS ?_ | refine s_sliceSLo ?_ | refine s_eqlS ?_ | refine s_min ?_ | refine s_addI ?_ | refine s_sliceSLH ?_ | refine a7 ?_ | refine a8 ?_ | refine a9 ?_ | refine RW.storeR rfl rfl rfl rfl (by first | rfl | (simp [allOne, cellsL, one1]; done) | (simp [allOne, cellsL, one1]; first | assumption | (refine ⟨?_, ?_⟩ <;> assumption))) rfl ?_ | refine a10 ?_ | refine RW.storeR1 rfl rfl (by first | rfl | exact IsSl.one1 (by assumption) | exact IsSl.one1 (SliceRep.isSl (by assumption))) rfl rfl ?_)
    refine Runs.ret1 Try.func6 Try.results6 rfl (fun w hm => hR _ w _ H _ (List.mem_cons_self ..) (Snap.le.refl _) ?_ hm)
    rfl
  repeat (first | refine a1 ?_ | refine a3 ?_ | refine a4 ?_ | refine a5 ?_ | refine a6 ?_ | refine s_loadBs ?_ | refine s_loadHs ?_ | refine s_fieldB ?_ | refine s_fieldV ?_ | refine s_loadB ?_ | refine s_loadH ?_ | refine s_loadR ?_ | refine s_lenS ?_ | refine s_sliceSHi ?_ | refine s_addS ?_ | refine s_sliceSLo ?_ | refine s_eqlS ?_ | refine s_min ?_ | refine s_addI ?_ | refine s_sliceSLH ?_ | refine a7 ?_ | refine a8 ?_ | refine a9 ?_ | refine RW.storeR rfl rfl rfl rfl (by first | rfl | (simp [allOne, cellsL, one1]; done) | (simp [allOne, cellsL, one1]; first | assumption | (refine ⟨?_, ?_⟩ <;> assumption))) rfl ?_ | refine a10 ?_ | refine RW.storeR1 rfl rfl (by first | rfl | exact IsSl.one1 (by assumption) | exact IsSl.one1 (SliceRep.isSl (by assumption))) rfl rfl ?_)
  refine Runs.cond_d rfl (fun hk3 => ?_) (fun hk3 => ?_)
  · obtain ⟨q, het⟩ : ∃ q : Nat, e.to_ = (q : Int) := ⟨e.to_.toNat, by omega⟩
    have hT : T = insT (delT s a l) q ((s.take (a + l)).drop a) := by rw [← hTT, applyT_mov hk3, hea, hel, het, Int.toNat_natCast, Int.toNat_natCast, Int.toNat_natCast]
    have hcn : cntL T = cntL s := cntL_perm (by rw [hT]; exact move_perm s a l q)
    have hpl := piece_len (s := s) (a := a) (l := l) (by omega)
    have hS : (T.take (q + l)).drop q = (s.take (a + l)).drop a := by
      have := ins_mid (s := delT s a l) (t := (s.take (a + l)).drop a) (q := q) (by omega)
      rw [hpl] at this
      rw [hT, this]
    have hlen : (s.length : Int) = (T.length : Int) := by omega
    rw [hea, hel, het]
    repeat (first | refine a1 ?_ | refine a3 ?_ | refine a4 ?_ | refine a5 ?_ | refine a6 ?_ | refine s_loadBs ?_ | refine s_loadHs ?_ | refine s_fieldB ?_ | refine s_fieldV ?_ | refine s_loadB ?_ | refine s_loadH ?_ | refine s_loadR ?_ | refine s_lenS ?_ | refine s_sliceSHi ?_ | refine s_addS ?_ | refine s_sliceSLo ?_ | refine s_eqlS ?_ | refine s_min ?_ | refine s_addI ?_ | refine s_sliceSLH ?_ | refine a7 ?_ | refine a8 ?_ | refine a9 ?_ | refine RW.storeR rfl rfl rfl rfl (by first | rfl | (simp [allOne, cellsL, one1]; done) | (simp [allOne, cellsL, one1]; first | assumption | (refine ⟨?_, ?_⟩ <;> assumption))) rfl ?_ | refine a10 ?_ | refine RW.storeR1 rfl rfl (by first | rfl | exact IsSl.one1 (by assumption) | exact IsSl.one1 (SliceRep.isSl (by assumption))) rfl rfl ?_)
    refine Runs.regionD _ _ [] (fun x hx => List.mem_cons_of_mem _ hx) (List.Sublist.refl _) (by kernel_rfl) ?_
    refine d2 0 ?_
    refine t_lenS 1 ?_
    refine d2 2 ?_
    refine t_lenS 3 ?_
    refine d1 4 2 ?_
    rw [decide_eq_true hlen]
    refine d2 6 ?_
    refine d2 8 ?_
    refine DW.callV 7 rfl (by kernel_rfl) rfl (count_c (H := H) (s := s) (by omega)) rfl rfl ?_
    rintro _ _ rfl
    refine DW.callV 9 rfl (by kernel_rfl) rfl (count_c (H := H) (s := T) (by omega)) rfl rfl ?_
    rintro _ _ rfl
    rw [hcn]
    refine DW.qF 10 rfl (by kernel_rfl) (QF.eqlArr (cntL_length s) rfl rfl) rfl rfl ?_
    refine d1 11 2 ?_
    refine d2 13 ?_
    (first | refine t_fieldB 14 ?_ | refine t_fieldV 14 ?_)
    (first | refine t_loadB 15 ?_ | refine t_loadH 15 ?_ | refine t_loadR 15 ?_)
    (first | refine t_fieldB 16 ?_ | refine t_fieldV 16 ?_)
    (first | refine t_loadB 17 ?_ | refine t_loadH 17 ?_ | refine t_loadR 17 ?_)
    (first | refine t_fieldB 18 ?_ | refine t_fieldV 18 ?_)
    (first | refine t_loadB 19 ?_ | refine t_loadH 19 ?_ | refine t_loadR 19 ?_)
    refine t_addI 20 ?_
    refine t_sliceSLH 21 ?_
    refine d2 22 ?_
    (first | refine t_fieldB 23 ?_ | refine t_fieldV 23 ?_)
    (first | refine t_loadB 24 ?_ | refine t_loadH 24 ?_ | refine t_loadR 24 ?_)
    (first | refine t_fieldB 25 ?_ | refine t_fieldV 25 ?_)
    (first | refine t_loadB 26 ?_ | refine t_loadH 26 ?_ | refine t_loadR 26 ?_)
    (first | refine t_fieldB 27 ?_ | refine t_fieldV 27 ?_)
    (first | refine t_loadB 28 ?_ | refine t_loadH 28 ?_ | refine t_loadR 28 ?_)
    refine t_addI 29 ?_
    refine t_sliceSLH 30 ?_
    refine t_eqlS 31 ?_
    refine d1 32 2 ?_
    rw [decide_eq_true hS]
    refine d1 34 3 ?_
    refine DW.done (by kernel_rfl) ?_
    repeat (first | refine a1 ?_ | refine a3 ?_ | refine a4 ?_ | refine a5 ?_ | refine a6 ?_ | refine s_loadBs ?_ | refine s_loadHs ?_ | refine s_fieldB ?_ | refine s_fieldV ?_ | refine s_loadB ?_ | refine s_loadH ?_ | refine s_loadR ?_ | refine s_lenS ?_ | refine s_sliceSHi ?_ | refine s_addS ?_ | refine s_sliceSLo ?_ | refine s_eqlS ?_ | refine s_min ?_ | refine s_addI ?_ | refine s_sliceSLH ?_ | refine a7 ?_ | refine a8 ?_ | refine a9 ?_ | refine RW.storeR rfl rfl rfl rfl (by first | rfl | (simp [allOne, cellsL, one1]; done) | (simp [allOne, cellsL, one1]; first | assumption | (refine ⟨?_, ?_⟩ <;> assumption))) rfl ?_ | refine a10 ?_ | refine RW.storeR1 rfl rfl (by first | rfl | exact IsSl.one1 (by assumption) | exact IsSl.one1 (SliceRep.isSl (by assumption))) rfl rfl ?_)
    refine Runs.ret1 Try.func6 Try.results6 rfl (fun w hm => hR _ w _ H _ (List.mem_cons_self ..) (Snap.le.refl _) ?_ hm)
    rfl
  · have hk4 : e.k = 4 := by omega
    have hT : T = s := by rw [← hTT, applyT_sty hk4]
    have hc4 := carryL_sty (ms := ms) hk4
    rw [hc4] at hr3
    subst hT
    repeat (first | refine a1 ?_ | refine a3 ?_ | refine a4 ?_ | refine a5 ?_ | refine a6 ?_ | refine s_loadBs ?_ | refine s_loadHs ?_ | refine s_fieldB ?_ | refine s_fieldV ?_ | refine s_loadB ?_ | refine s_loadH ?_ | refine s_loadR ?_ | refine s_lenS ?_ | refine s_sliceSHi ?_ | refine s_addS ?_ | refine s_sliceSLo ?_ | refine s_eqlS ?_ | refine s_min ?_ | refine s_addI ?_ | refine s_sliceSLH ?_ | refine a7 ?_ | refine a8 ?_ | refine a9 ?_ | refine RW.storeR rfl rfl rfl rfl (by first | rfl | (simp [allOne, cellsL, one1]; done) | (simp [allOne, cellsL, one1]; first | assumption | (refine ⟨?_, ?_⟩ <;> assumption))) rfl ?_ | refine a10 ?_ | refine RW.storeR1 rfl rfl (by first | rfl | exact IsSl.one1 (by assumption) | exact IsSl.one1 (SliceRep.isSl (by assumption))) rfl rfl ?_)
    refine RW.callV rfl (same_c (H := H3) ⟨_, rfl, hr2.mono hle3⟩ ⟨_, rfl, hr3⟩ (a := ⟨T, ms⟩) (b := ⟨T, ms⟩)) rfl rfl ?_
    rintro _ _ rfl
    rw [show decide ((⟨T, ms⟩ : Dc) = ⟨T, ms⟩) = true by simp]
    repeat (first | refine a1 ?_ | refine a3 ?_ | refine a4 ?_ | refine a5 ?_ | refine a6 ?_ | refine s_loadBs ?_ | refine s_loadHs ?_ | refine s_fieldB ?_ | refine s_fieldV ?_ | refine s_loadB ?_ | refine s_loadH ?_ | refine s_loadR ?_ | refine s_lenS ?_ | refine s_sliceSHi ?_ | refine s_addS ?_ | refine s_sliceSLo ?_ | refine s_eqlS ?_ | refine s_min ?_ | refine s_addI ?_ | refine s_sliceSLH ?_ | refine a7 ?_ | refine a8 ?_ | refine a9 ?_ | refine RW.storeR rfl rfl rfl rfl (by first | rfl | (simp [allOne, cellsL, one1]; done) | (simp [allOne, cellsL, one1]; first | assumption | (refine ⟨?_, ?_⟩ <;> assumption))) rfl ?_ | refine a10 ?_ | refine RW.storeR1 rfl rfl (by first | rfl | exact IsSl.one1 (by assumption) | exact IsSl.one1 (SliceRep.isSl (by assumption))) rfl rfl ?_)
    refine Runs.ret1 Try.func6 Try.results6 rfl (fun w hm => hR _ w _ H _ (List.mem_cons_self ..) (Snap.le.refl _) ?_ hm)
    rfl
end Go.Proofs.Ytcikciefaggckaa

/-
  The law DocumentValid. Conditions: the raw data hold bytes.
-/
import Derived.Test.YtcikciefaggckaaD13
import Derived.Test.YtcikciefaggckaaTp
namespace Go.Proofs.Ytcikciefaggckaa
open Go Go.RowKit

theorem mkCs_get : ∀ {ms : List Mk} {i j : Nat} {m : Mk} {u : Value}, ms[i]? = some m → (mkC m)[j]? = some u → (mkCs ms)[i * 4 + j]? = some u
  | [], i, j, m, u, h, _ => by simp at h
  | x :: ms, 0, j, m, u, h, hu => by
    have h : x = m := by simpa using h
    subst h
    have hj := (List.getElem?_eq_some_iff.1 hu).1
    show (mkC x ++ mkCs ms)[0 * 4 + j]? = some u
    rw [Nat.zero_mul, Nat.zero_add, List.getElem?_append_left hj, hu]
  | x :: ms, i + 1, j, m, u, h, hu => by
    have h : ms[i]? = some m := by simpa using h
    show (mkC x ++ mkCs ms)[(i + 1) * 4 + j]? = some u
    rw [List.getElem?_append_right (by simp; omega), show (i + 1) * 4 + j - (mkC x).length = i * 4 + j by simp; omega]
    exact mkCs_get h hu
theorem setMs : ∀ {ms : List Mk} {i j : Nat} {m m' : Mk} {u : Value}, ms[i]? = some m → setAt (mkC m) j u = some (mkC m') → setAt (mkCs ms) (i * 4 + j) u = some (mkCs (ms.set i m'))
  | [], i, j, m, m', u, h, _ => by simp at h
  | x :: ms, 0, j, m, m', u, h, hu => by
    have h : x = m := by simpa using h
    subst h
    have h2 : ∀ (a b c : List Value) (j : Nat), setAt a j u = some b → setAt (a ++ c) j u = some (b ++ c) := by
      intro a
      induction a with
      | nil => intro b c j h; simp [setAt] at h
      | cons y a ih =>
        intro b c j h
        cases j with
        | zero => simp only [setAt, Option.some.injEq] at h; subst h; rfl
        | succ j =>
          simp only [setAt] at h
          cases hs : setAt a j u with
          | none => rw [hs] at h; simp at h
          | some b' =>
            rw [hs] at h
            simp at h
            subst h
            show setAt (y :: (a ++ c)) (j + 1) u = _
            simp only [setAt, ih b' c j hs]
            rfl
    show setAt (mkC x ++ mkCs ms) (0 * 4 + j) u = some (mkC m' ++ mkCs ms)
    rw [Nat.zero_mul, Nat.zero_add]
    exact h2 _ _ _ _ hu
  | x :: ms, i + 1, j, m, m', u, h, hu => by
    have h : ms[i]? = some m := by simpa using h
    have ih := setMs h hu
    show setAt (mkC x ++ mkCs ms) ((i + 1) * 4 + j) u = some (mkC x ++ mkCs (ms.set i m'))
    rw [show (i + 1) * 4 + j = i * 4 + j + 1 + 1 + 1 + 1 by omega]
    show setAt (_ :: _ :: _ :: _ :: mkCs ms) _ u = _
    simp only [setAt, ih]
    rfl
set_option maxHeartbeats 4000000 in
theorem valids_c {H : Snap} {v : Value} {l : List Rw} {t : List UInt8} {w0 w1 w2 : Int} (hv : SliceRep H RwL v l) (hx : ∀ x ∈ l, okRw x) (_h0 : isI16 w0) (_h1 : isI16 w1) (h2 : isI16 w2) :
    Pure Try.prog 4 #[v, .agg #[.int .i16 w0, .int .i16 w1, .int .i16 w2], str t] H (fun _ r => r = .bool true) := by
  unfold isI16 at _h0 _h1 h2
  have hval := (madeK_valid l (min l.length 14)).1
  have hids := (madeK_valid l (min l.length 14)).2.1
  refine Pure.intro Try.func4 rfl Try.ntmps4 rfl (fun E R hM hR => ?_)
  repeat (first | refine a1 ?_ | refine a3 ?_ | refine a4 ?_ | refine a5 ?_ | refine a6 ?_ | refine s_loadBs ?_ | refine s_loadHs ?_ | refine s_lenS ?_ | refine s_build ?_ | refine s_neqB ?_ | refine s_fieldB ?_ | refine s_fieldV ?_ | refine s_loadB ?_ | refine s_loadH ?_ | refine s_loadR ?_ | refine s_len ?_ | refine s_lenR ?_ | refine s_indexArrT ?_ | refine s_indexArrB ?_ | refine s_conv ?_ | refine s_convI ?_ | refine s_rem ?_ | refine s_eql ?_ | refine s_index ?_ | refine s_indexR ?_ | refine s_addI ?_ | refine s_quo ?_ | refine s_sliceSHi ?_ | refine s_eqlB ?_ | refine a7 ?_ | refine a8 ?_ | refine a9 ?_ | refine RW.storeR rfl rfl rfl rfl (by first | rfl | (simp [allOne, cellsL, one1]; done) | (simp [allOne, cellsL, one1]; first | assumption | (refine ⟨?_, ?_⟩ <;> assumption))) rfl ?_ | refine a10 ?_ | refine RW.storeR1 rfl rfl (by first | rfl | exact IsSl.one1 (by assumption) | exact IsSl.one1 (SliceRep.isSl (by assumption))) rfl rfl ?_)
  refine RW.box rfl rfl rfl rfl (fun b4 => ?_)
  repeat (first | refine a1 ?_ | refine a3 ?_ | refine a4 ?_ | refine a5 ?_ | refine a6 ?_ | refine s_loadBs ?_ | refine s_loadHs ?_ | refine s_lenS ?_ | refine s_build ?_ | refine s_neqB ?_ | refine s_fieldB ?_ | refine s_fieldV ?_ | refine s_loadB ?_ | refine s_loadH ?_ | refine s_loadR ?_ | refine s_len ?_ | refine s_lenR ?_ | refine s_indexArrT ?_ | refine s_indexArrB ?_ | refine s_conv ?_ | refine s_convI ?_ | refine s_rem ?_ | refine s_eql ?_ | refine s_index ?_ | refine s_indexR ?_ | refine s_addI ?_ | refine s_quo ?_ | refine s_sliceSHi ?_ | refine s_eqlB ?_ | refine a7 ?_ | refine a8 ?_ | refine a9 ?_ | refine RW.storeR rfl rfl rfl rfl (by first | rfl | (simp [allOne, cellsL, one1]; done) | (simp [allOne, cellsL, one1]; first | assumption | (refine ⟨?_, ?_⟩ <;> assumption))) rfl ?_ | refine a10 ?_ | refine RW.storeR1 rfl rfl (by first | rfl | exact IsSl.one1 (by assumption) | exact IsSl.one1 (SliceRep.isSl (by assumption))) rfl rfl ?_)
  refine RW.callV rfl (sanity_c (H := H)) rfl rfl ?_
  rintro _ _ rfl
  repeat (first | refine a1 ?_ | refine a3 ?_ | refine a4 ?_ | refine a5 ?_ | refine a6 ?_ | refine s_loadBs ?_ | refine s_loadHs ?_ | refine s_lenS ?_ | refine s_build ?_ | refine s_neqB ?_ | refine s_fieldB ?_ | refine s_fieldV ?_ | refine s_loadB ?_ | refine s_loadH ?_ | refine s_loadR ?_ | refine s_len ?_ | refine s_lenR ?_ | refine s_indexArrT ?_ | refine s_indexArrB ?_ | refine s_conv ?_ | refine s_convI ?_ | refine s_rem ?_ | refine s_eql ?_ | refine s_index ?_ | refine s_indexR ?_ | refine s_addI ?_ | refine s_quo ?_ | refine s_sliceSHi ?_ | refine s_eqlB ?_ | refine a7 ?_ | refine a8 ?_ | refine a9 ?_ | refine RW.storeR rfl rfl rfl rfl (by first | rfl | (simp [allOne, cellsL, one1]; done) | (simp [allOne, cellsL, one1]; first | assumption | (refine ⟨?_, ?_⟩ <;> assumption))) rfl ?_ | refine a10 ?_ | refine RW.storeR1 rfl rfl (by first | rfl | exact IsSl.one1 (by assumption) | exact IsSl.one1 (SliceRep.isSl (by assumption))) rfl rfl ?_)
  refine RW.call rfl (made_c (n := 14) hv hx (by decide)) rfl rfl ?_
  rintro _ H2 ⟨vm2, hv2, hr2⟩ hle2
  subst hv2
  generalize madeK l (min l.length 14) = D at *
  obtain ⟨s, ms⟩ := D
  have hval2 := hval
  obtain ⟨v1, v2, v3, v4, v5⟩ := hval2
  have hr2 : SliceRep H2 MarkL vm2 ms := hr2
  have ho2 := hr2.isSl.one1
  have hb2 := hr2.isSl.bound
  dsimp only at *
  have hsm : ∀ m ∈ ms, smallI m.id := fun m hm => by
    have := hids m hm
    have := (v4 m hm).1
    unfold smallI; omega
  refine RW.alloc rfl rfl rfl (fun b8 => ?_)
  repeat (first | refine a1 ?_ | refine a3 ?_ | refine a4 ?_ | refine a5 ?_ | refine a6 ?_ | refine s_loadBs ?_ | refine s_loadHs ?_ | refine s_lenS ?_ | refine s_build ?_ | refine s_neqB ?_ | refine s_fieldB ?_ | refine s_fieldV ?_ | refine s_loadB ?_ | refine s_loadH ?_ | refine s_loadR ?_ | refine s_len ?_ | refine s_lenR ?_ | refine s_indexArrT ?_ | refine s_indexArrB ?_ | refine s_conv ?_ | refine s_convI ?_ | refine s_rem ?_ | refine s_eql ?_ | refine s_index ?_ | refine s_indexR ?_ | refine s_addI ?_ | refine s_quo ?_ | refine s_sliceSHi ?_ | refine s_eqlB ?_ | refine a7 ?_ | refine a8 ?_ | refine a9 ?_ | refine RW.storeR rfl rfl rfl rfl (by first | rfl | (simp [allOne, cellsL, one1]; done) | (simp [allOne, cellsL, one1]; first | assumption | (refine ⟨?_, ?_⟩ <;> assumption))) rfl ?_ | refine a10 ?_ | refine RW.storeR1 rfl rfl (by first | rfl | exact IsSl.one1 (by assumption) | exact IsSl.one1 (SliceRep.isSl (by assumption))) rfl rfl ?_)
  refine RW.callV rfl (valid_c hr2 (by omega) (by omega) hsm) rfl rfl ?_
  rintro _ _ rfl
  rw [decide_eq_true hval]
  repeat (first | refine a1 ?_ | refine a3 ?_ | refine a4 ?_ | refine a5 ?_ | refine a6 ?_ | refine s_loadBs ?_ | refine s_loadHs ?_ | refine s_lenS ?_ | refine s_build ?_ | refine s_neqB ?_ | refine s_fieldB ?_ | refine s_fieldV ?_ | refine s_loadB ?_ | refine s_loadH ?_ | refine s_loadR ?_ | refine s_len ?_ | refine s_lenR ?_ | refine s_indexArrT ?_ | refine s_indexArrB ?_ | refine s_conv ?_ | refine s_convI ?_ | refine s_rem ?_ | refine s_eql ?_ | refine s_index ?_ | refine s_indexR ?_ | refine s_addI ?_ | refine s_quo ?_ | refine s_sliceSHi ?_ | refine s_eqlB ?_ | refine a7 ?_ | refine a8 ?_ | refine a9 ?_ | refine RW.storeR rfl rfl rfl rfl (by first | rfl | (simp [allOne, cellsL, one1]; done) | (simp [allOne, cellsL, one1]; first | assumption | (refine ⟨?_, ?_⟩ <;> assumption))) rfl ?_ | refine a10 ?_ | refine RW.storeR1 rfl rfl (by first | rfl | exact IsSl.one1 (by assumption) | exact IsSl.one1 (SliceRep.isSl (by assumption))) rfl rfl ?_)
  refine Runs.cond_d rfl (fun hbig => ?_) (fun hbig => ?_)
  · repeat (first | refine a1 ?_ | refine a3 ?_ | refine a4 ?_ | refine a5 ?_ | refine a6 ?_ | refine s_loadBs ?_ | refine s_loadHs ?_ | refine s_lenS ?_ | refine s_build ?_ | refine s_neqB ?_ | refine s_fieldB ?_ | refine s_fieldV ?_ | refine s_loadB ?_ | refine s_loadH ?_ | refine s_loadR ?_ | refine s_len ?_ | refine s_lenR ?_ | refine s_indexArrT ?_ | refine s_indexArrB ?_ | refine s_conv ?_ | refine s_convI ?_ | refine s_rem ?_ | refine s_eql ?_ | refine s_index ?_ | refine s_indexR ?_ | refine s_addI ?_ | refine s_quo ?_ | refine s_sliceSHi ?_ | refine s_eqlB ?_ | refine a7 ?_ | refine a8 ?_ | refine a9 ?_ | refine RW.storeR rfl rfl rfl rfl (by first | rfl | (simp [allOne, cellsL, one1]; done) | (simp [allOne, cellsL, one1]; first | assumption | (refine ⟨?_, ?_⟩ <;> assumption))) rfl ?_ | refine a10 ?_ | refine RW.storeR1 rfl rfl (by first | rfl | exact IsSl.one1 (by assumption) | exact IsSl.one1 (SliceRep.isSl (by assumption))) rfl rfl ?_)
    rw [decide_eq_true hbig]
    repeat (first | refine a1 ?_ | refine a3 ?_ | refine a4 ?_ | refine a5 ?_ | refine a6 ?_ | refine s_loadBs ?_ | refine s_loadHs ?_ | refine s_lenS ?_ | refine s_build ?_ | refine s_neqB ?_ | refine s_fieldB ?_ | refine s_fieldV ?_ | refine s_loadB ?_ | refine s_loadH ?_ | refine s_loadR ?_ | refine s_len ?_ | refine s_lenR ?_ | refine s_indexArrT ?_ | refine s_indexArrB ?_ | refine s_conv ?_ | refine s_convI ?_ | refine s_rem ?_ | refine s_eql ?_ | refine s_index ?_ | refine s_indexR ?_ | refine s_addI ?_ | refine s_quo ?_ | refine s_sliceSHi ?_ | refine s_eqlB ?_ | refine a7 ?_ | refine a8 ?_ | refine a9 ?_ | refine RW.storeR rfl rfl rfl rfl (by first | rfl | (simp [allOne, cellsL, one1]; done) | (simp [allOne, cellsL, one1]; first | assumption | (refine ⟨?_, ?_⟩ <;> assumption))) rfl ?_ | refine a10 ?_ | refine RW.storeR1 rfl rfl (by first | rfl | exact IsSl.one1 (by assumption) | exact IsSl.one1 (SliceRep.isSl (by assumption))) rfl rfl ?_)
    refine Runs.ret1 Try.func4 Try.results4 rfl (fun w hm => hR _ w _ H _ (List.mem_cons_self ..) (Snap.le.refl _) ?_ hm)
    rfl
  repeat (first | refine a1 ?_ | refine a3 ?_ | refine a4 ?_ | refine a5 ?_ | refine a6 ?_ | refine s_loadBs ?_ | refine s_loadHs ?_ | refine s_lenS ?_ | refine s_build ?_ | refine s_neqB ?_ | refine s_fieldB ?_ | refine s_fieldV ?_ | refine s_loadB ?_ | refine s_loadH ?_ | refine s_loadR ?_ | refine s_len ?_ | refine s_lenR ?_ | refine s_indexArrT ?_ | refine s_indexArrB ?_ | refine s_conv ?_ | refine s_convI ?_ | refine s_rem ?_ | refine s_eql ?_ | refine s_index ?_ | refine s_indexR ?_ | refine s_addI ?_ | refine s_quo ?_ | refine s_sliceSHi ?_ | refine s_eqlB ?_ | refine a7 ?_ | refine a8 ?_ | refine a9 ?_ | refine RW.storeR rfl rfl rfl rfl (by first | rfl | (simp [allOne, cellsL, one1]; done) | (simp [allOne, cellsL, one1]; first | assumption | (refine ⟨?_, ?_⟩ <;> assumption))) rfl ?_ | refine a10 ?_ | refine RW.storeR1 rfl rfl (by first | rfl | exact IsSl.one1 (by assumption) | exact IsSl.one1 (SliceRep.isSl (by assumption))) rfl rfl ?_)
  refine RW.callV rfl (valid_c (H := H) (s := t) SliceRep.nil (by omega) (by decide) (by simp)) rfl rfl ?_
  rintro _ _ rfl
  repeat (first | refine a1 ?_ | refine a3 ?_ | refine a4 ?_ | refine a5 ?_ | refine a6 ?_ | refine s_loadBs ?_ | refine s_loadHs ?_ | refine s_lenS ?_ | refine s_build ?_ | refine s_neqB ?_ | refine s_fieldB ?_ | refine s_fieldV ?_ | refine s_loadB ?_ | refine s_loadH ?_ | refine s_loadR ?_ | refine s_len ?_ | refine s_lenR ?_ | refine s_indexArrT ?_ | refine s_indexArrB ?_ | refine s_conv ?_ | refine s_convI ?_ | refine s_rem ?_ | refine s_eql ?_ | refine s_index ?_ | refine s_indexR ?_ | refine s_addI ?_ | refine s_quo ?_ | refine s_sliceSHi ?_ | refine s_eqlB ?_ | refine a7 ?_ | refine a8 ?_ | refine a9 ?_ | refine RW.storeR rfl rfl rfl rfl (by first | rfl | (simp [allOne, cellsL, one1]; done) | (simp [allOne, cellsL, one1]; first | assumption | (refine ⟨?_, ?_⟩ <;> assumption))) rfl ?_ | refine a10 ?_ | refine RW.storeR1 rfl rfl (by first | rfl | exact IsSl.one1 (by assumption) | exact IsSl.one1 (SliceRep.isSl (by assumption))) rfl rfl ?_)
  refine RW.callV rfl (rvalid_c (H := H) (s := t) SliceRep.nil (by omega) (by decide)) rfl rfl ?_
  rintro _ _ rfl
  repeat (first | refine a1 ?_ | refine a3 ?_ | refine a4 ?_ | refine a5 ?_ | refine a6 ?_ | refine s_loadBs ?_ | refine s_loadHs ?_ | refine s_lenS ?_ | refine s_build ?_ | refine s_neqB ?_ | refine s_fieldB ?_ | refine s_fieldV ?_ | refine s_loadB ?_ | refine s_loadH ?_ | refine s_loadR ?_ | refine s_len ?_ | refine s_lenR ?_ | refine s_indexArrT ?_ | refine s_indexArrB ?_ | refine s_conv ?_ | refine s_convI ?_ | refine s_rem ?_ | refine s_eql ?_ | refine s_index ?_ | refine s_indexR ?_ | refine s_addI ?_ | refine s_quo ?_ | refine s_sliceSHi ?_ | refine s_eqlB ?_ | refine a7 ?_ | refine a8 ?_ | refine a9 ?_ | refine RW.storeR rfl rfl rfl rfl (by first | rfl | (simp [allOne, cellsL, one1]; done) | (simp [allOne, cellsL, one1]; first | assumption | (refine ⟨?_, ?_⟩ <;> assumption))) rfl ?_ | refine a10 ?_ | refine RW.storeR1 rfl rfl (by first | rfl | exact IsSl.one1 (by assumption) | exact IsSl.one1 (SliceRep.isSl (by assumption))) rfl rfl ?_)
  rw [show ∀ b : Bool, (b != b) = false from fun b => by cases b <;> rfl]
  repeat (first | refine a1 ?_ | refine a3 ?_ | refine a4 ?_ | refine a5 ?_ | refine a6 ?_ | refine s_loadBs ?_ | refine s_loadHs ?_ | refine s_lenS ?_ | refine s_build ?_ | refine s_neqB ?_ | refine s_fieldB ?_ | refine s_fieldV ?_ | refine s_loadB ?_ | refine s_loadH ?_ | refine s_loadR ?_ | refine s_len ?_ | refine s_lenR ?_ | refine s_indexArrT ?_ | refine s_indexArrB ?_ | refine s_conv ?_ | refine s_convI ?_ | refine s_rem ?_ | refine s_eql ?_ | refine s_index ?_ | refine s_indexR ?_ | refine s_addI ?_ | refine s_quo ?_ | refine s_sliceSHi ?_ | refine s_eqlB ?_ | refine a7 ?_ | refine a8 ?_ | refine a9 ?_ | refine RW.storeR rfl rfl rfl rfl (by first | rfl | (simp [allOne, cellsL, one1]; done) | (simp [allOne, cellsL, one1]; first | assumption | (refine ⟨?_, ?_⟩ <;> assumption))) rfl ?_ | refine a10 ?_ | refine RW.storeR1 rfl rfl (by first | rfl | exact IsSl.one1 (by assumption) | exact IsSl.one1 (SliceRep.isSl (by assumption))) rfl rfl ?_)
  refine Runs.cond_d rfl (fun hn0 => ?_) (fun hn0 => ?_)
  · repeat (first | refine a1 ?_ | refine a3 ?_ | refine a4 ?_ | refine a5 ?_ | refine a6 ?_ | refine s_loadBs ?_ | refine s_loadHs ?_ | refine s_lenS ?_ | refine s_build ?_ | refine s_neqB ?_ | refine s_fieldB ?_ | refine s_fieldV ?_ | refine s_loadB ?_ | refine s_loadH ?_ | refine s_loadR ?_ | refine s_len ?_ | refine s_lenR ?_ | refine s_indexArrT ?_ | refine s_indexArrB ?_ | refine s_conv ?_ | refine s_convI ?_ | refine s_rem ?_ | refine s_eql ?_ | refine s_index ?_ | refine s_indexR ?_ | refine s_addI ?_ | refine s_quo ?_ | refine s_sliceSHi ?_ | refine s_eqlB ?_ | refine a7 ?_ | refine a8 ?_ | refine a9 ?_ | refine RW.storeR rfl rfl rfl rfl (by first | rfl | (simp [allOne, cellsL, one1]; done) | (simp [allOne, cellsL, one1]; first | assumption | (refine ⟨?_, ?_⟩ <;> assumption))) rfl ?_ | refine a10 ?_ | refine RW.storeR1 rfl rfl (by first | rfl | exact IsSl.one1 (by assumption) | exact IsSl.one1 (SliceRep.isSl (by assumption))) rfl rfl ?_)
    refine Runs.ret1 Try.func4 Try.results4 rfl (fun w hm => hR _ w _ H _ (List.mem_cons_self ..) (Snap.le.refl _) ?_ hm)
    rfl
  have g0 : 0 ≤ IntKind.u16.wrap w0 ∧ IntKind.u16.wrap w0 ≤ 65535 := by simp [IntKind.wrap, IntKind.bits, IntKind.signed]; omega
  have g1 : 0 ≤ IntKind.u16.wrap w1 ∧ IntKind.u16.wrap w1 ≤ 65535 := by simp [IntKind.wrap, IntKind.bits, IntKind.signed]; omega
  repeat (first | refine a1 ?_ | refine a3 ?_ | refine a4 ?_ | refine a5 ?_ | refine a6 ?_ | refine s_loadBs ?_ | refine s_loadHs ?_ | refine s_lenS ?_ | refine s_build ?_ | refine s_neqB ?_ | refine s_fieldB ?_ | refine s_fieldV ?_ | refine s_loadB ?_ | refine s_loadH ?_ | refine s_loadR ?_ | refine s_len ?_ | refine s_lenR ?_ | refine s_indexArrT ?_ | refine s_indexArrB ?_ | refine s_conv ?_ | refine s_convI ?_ | refine s_rem ?_ | refine s_eql ?_ | refine s_index ?_ | refine s_indexR ?_ | refine s_addI ?_ | refine s_quo ?_ | refine s_sliceSHi ?_ | refine s_eqlB ?_ | refine a7 ?_ | refine a8 ?_ | refine a9 ?_ | refine RW.storeR rfl rfl rfl rfl (by first | rfl | (simp [allOne, cellsL, one1]; done) | (simp [allOne, cellsL, one1]; first | assumption | (refine ⟨?_, ?_⟩ <;> assumption))) rfl ?_ | refine a10 ?_ | refine RW.storeR1 rfl rfl (by first | rfl | exact IsSl.one1 (by assumption) | exact IsSl.one1 (SliceRep.isSl (by assumption))) rfl rfl ?_)
  rw [show IntKind.i64.wrap (IntKind.u16.wrap w0) = IntKind.u16.wrap w0 from wrap_i64 (by unfold inI64; omega)]
  generalize IntKind.u16.wrap w0 = A at *
  obtain ⟨i, hi⟩ : ∃ i : Nat, A % (ms.length : Int) = (i : Int) := ⟨(A % (ms.length : Int)).toNat, by have := Int.emod_nonneg A (by omega : (ms.length : Int) ≠ 0); omega⟩
  have him : i < ms.length := by have := Int.emod_lt_of_pos A (by omega : 0 < (ms.length : Int)); omega
  repeat (first | refine a1 ?_ | refine a3 ?_ | refine a4 ?_ | refine a5 ?_ | refine a6 ?_ | refine s_loadBs ?_ | refine s_loadHs ?_ | refine s_lenS ?_ | refine s_build ?_ | refine s_neqB ?_ | refine s_fieldB ?_ | refine s_fieldV ?_ | refine s_loadB ?_ | refine s_loadH ?_ | refine s_loadR ?_ | refine s_len ?_ | refine s_lenR ?_ | refine s_indexArrT ?_ | refine s_indexArrB ?_ | refine s_conv ?_ | refine s_convI ?_ | refine s_rem ?_ | refine s_eql ?_ | refine s_index ?_ | refine s_indexR ?_ | refine s_addI ?_ | refine s_quo ?_ | refine s_sliceSHi ?_ | refine s_eqlB ?_ | refine a7 ?_ | refine a8 ?_ | refine a9 ?_ | refine RW.storeR rfl rfl rfl rfl (by first | rfl | (simp [allOne, cellsL, one1]; done) | (simp [allOne, cellsL, one1]; first | assumption | (refine ⟨?_, ?_⟩ <;> assumption))) rfl ?_ | refine a10 ?_ | refine RW.storeR1 rfl rfl (by first | rfl | exact IsSl.one1 (by assumption) | exact IsSl.one1 (SliceRep.isSl (by assumption))) rfl rfl ?_)
  rw [hi]
  obtain ⟨m, hm⟩ : ∃ m, ms[i]? = some m := ⟨_, List.getElem?_eq_getElem him⟩
  have hmo := v4 m (List.mem_of_getElem? hm)
  have hms := hsm m (List.mem_of_getElem? hm)
  have hmi := hids m (List.mem_of_getElem? hm)
  unfold okM at hmo
  unfold smallI at hms
  refine RW.buildSlice rfl rfl rfl rfl rfl rfl rfl (fun v47 hv47 => ?_)
  repeat (first | refine a1 ?_ | refine a3 ?_ | refine a4 ?_ | refine a5 ?_ | refine a6 ?_ | refine s_loadBs ?_ | refine s_loadHs ?_ | refine s_lenS ?_ | refine s_build ?_ | refine s_neqB ?_ | refine s_fieldB ?_ | refine s_fieldV ?_ | refine s_loadB ?_ | refine s_loadH ?_ | refine s_loadR ?_ | refine s_len ?_ | refine s_lenR ?_ | refine s_indexArrT ?_ | refine s_indexArrB ?_ | refine s_conv ?_ | refine s_convI ?_ | refine s_rem ?_ | refine s_eql ?_ | refine s_index ?_ | refine s_indexR ?_ | refine s_addI ?_ | refine s_quo ?_ | refine s_sliceSHi ?_ | refine s_eqlB ?_ | refine a7 ?_ | refine a8 ?_ | refine a9 ?_ | refine RW.storeR rfl rfl rfl rfl (by first | rfl | (simp [allOne, cellsL, one1]; done) | (simp [allOne, cellsL, one1]; first | assumption | (refine ⟨?_, ?_⟩ <;> assumption))) rfl ?_ | refine a10 ?_ | refine RW.storeR1 rfl rfl (by first | rfl | exact IsSl.one1 (by assumption) | exact IsSl.one1 (SliceRep.isSl (by assumption))) rfl rfl ?_)
  refine RW.appendH rfl rfl ((by assumption)) (by rfl) rfl (by decide) (by omega) (by omega) (fun _ _ => inferInstance) rfl rfl (fun ds v50 hds hv50 => ?_)
  have hds := mkCs_rep_eq hds
  subst hds
  rw [show 0 + ms.length = ms.length from Nat.zero_add _] at hv50 ⊢
  have ho5 := hv50.one1
  rw [show ∀ (x : Value), repL 0 (cellsL x) ++ mkCs ms = mkCs ms from fun _ => rfl]
  repeat (first | refine a1 ?_ | refine a3 ?_ | refine a4 ?_ | refine a5 ?_ | refine a6 ?_ | refine s_loadBs ?_ | refine s_loadHs ?_ | refine s_lenS ?_ | refine s_build ?_ | refine s_neqB ?_ | refine s_fieldB ?_ | refine s_fieldV ?_ | refine s_loadB ?_ | refine s_loadH ?_ | refine s_loadR ?_ | refine s_len ?_ | refine s_lenR ?_ | refine s_indexArrT ?_ | refine s_indexArrB ?_ | refine s_conv ?_ | refine s_convI ?_ | refine s_rem ?_ | refine s_eql ?_ | refine s_index ?_ | refine s_indexR ?_ | refine s_addI ?_ | refine s_quo ?_ | refine s_sliceSHi ?_ | refine s_eqlB ?_ | refine a7 ?_ | refine a8 ?_ | refine a9 ?_ | refine RW.storeR rfl rfl rfl rfl (by first | rfl | (simp [allOne, cellsL, one1]; done) | (simp [allOne, cellsL, one1]; first | assumption | (refine ⟨?_, ?_⟩ <;> assumption))) rfl ?_ | refine a10 ?_ | refine RW.storeR1 rfl rfl (by first | rfl | exact IsSl.one1 (by assumption) | exact IsSl.one1 (SliceRep.isSl (by assumption))) rfl rfl ?_)
  generalize IntKind.u16.wrap w1 = B at *
  refine Runs.cond_d rfl (fun c0 => ?_) (fun c0 => ?_)
  · have hset : setAt (mkCs ms) (i * 4 + 1) (.int .i64 (m.fr + w2)) = some (mkCs (ms.set i ⟨m.id, m.fr + w2, m.to_, m.wh⟩)) := setMs hm rfl
    have hget : (mkCs ms)[i * 4 + 1]? = some (.int .i64 m.fr) := mkCs_get hm rfl
    have hsm2 : ∀ x ∈ ms.set i ⟨m.id, m.fr + w2, m.to_, m.wh⟩, smallI x.id := fun x hx => by
      rcases List.mem_or_eq_of_mem_set hx with h | h
      · exact hsm x h
      · rw [h]; unfold smallI; dsimp only; omega
    have hlen2 : ms.length = (ms.set i ⟨m.id, m.fr + w2, m.to_, m.wh⟩).length := by simp
    repeat (first | refine a1 ?_ | refine a3 ?_ | refine a4 ?_ | refine a5 ?_ | refine a6 ?_ | refine s_loadBs ?_ | refine s_loadHs ?_ | refine s_lenS ?_ | refine s_build ?_ | refine s_neqB ?_ | refine s_fieldB ?_ | refine s_fieldV ?_ | refine s_loadB ?_ | refine s_loadH ?_ | refine s_loadR ?_ | refine s_len ?_ | refine s_lenR ?_ | refine s_indexArrT ?_ | refine s_indexArrB ?_ | refine s_conv ?_ | refine s_convI ?_ | refine s_rem ?_ | refine s_eql ?_ | refine s_index ?_ | refine s_indexR ?_ | refine s_addI ?_ | refine s_quo ?_ | refine s_sliceSHi ?_ | refine s_eqlB ?_ | refine a7 ?_ | refine a8 ?_ | refine a9 ?_ | refine RW.storeR rfl rfl rfl rfl (by first | rfl | (simp [allOne, cellsL, one1]; done) | (simp [allOne, cellsL, one1]; first | assumption | (refine ⟨?_, ?_⟩ <;> assumption))) rfl ?_ | refine a10 ?_ | refine RW.storeR1 rfl rfl (by first | rfl | exact IsSl.one1 (by assumption) | exact IsSl.one1 (SliceRep.isSl (by assumption))) rfl rfl ?_)
    refine Runs.regionD _ _ [12] (fun x hx => List.mem_cons_of_mem _ hx) (List.Sublist.refl _) (by kernel_rfl) ?_
    (first | refine t_fieldB 0 ?_ | refine t_fieldV 0 ?_)
    (first | refine t_loadB 1 ?_ | refine t_loadH 1 ?_ | refine t_loadR 1 ?_)
    refine d2 2 ?_
    (first | refine t_index 3 ?_ | refine t_indexR 3 ?_)
    (first | refine t_fieldB 4 ?_ | refine t_fieldV 4 ?_)
    (first | refine t_loadB 5 ?_ | refine t_loadH 5 ?_ | refine t_loadR 5 ?_)
    (first | refine t_indexArrT 6 ?_ | refine t_indexArrB 6 ?_)
    (first | refine t_loadB 7 ?_ | refine t_loadH 7 ?_ | refine t_loadR 7 ?_)
    refine t_convI 8 ?_
    refine t_addI 9 ?_
    (first | refine t_index 10 ?_ | refine t_indexR 10 ?_)
    (first | refine t_fieldB 11 ?_ | refine t_fieldV 11 ?_)
    refine DW.storeR1 12 rfl (by kernel_rfl) rfl rfl rfl (by first | rfl | exact IsSl.one1 (by assumption) | exact IsSl.one1 (SliceRep.isSl (by assumption))) hset rfl ?_
    refine DW.done (by kernel_rfl) ?_
    generalize ms.set i ⟨m.id, m.fr + w2, m.to_, m.wh⟩ = ms5 at *
    repeat (first | refine a1 ?_ | refine a3 ?_ | refine a4 ?_ | refine a5 ?_ | refine a6 ?_ | refine s_loadBs ?_ | refine s_loadHs ?_ | refine s_lenS ?_ | refine s_build ?_ | refine s_neqB ?_ | refine s_fieldB ?_ | refine s_fieldV ?_ | refine s_loadB ?_ | refine s_loadH ?_ | refine s_loadR ?_ | refine s_len ?_ | refine s_lenR ?_ | refine s_indexArrT ?_ | refine s_indexArrB ?_ | refine s_conv ?_ | refine s_convI ?_ | refine s_rem ?_ | refine s_eql ?_ | refine s_index ?_ | refine s_indexR ?_ | refine s_addI ?_ | refine s_quo ?_ | refine s_sliceSHi ?_ | refine s_eqlB ?_ | refine a7 ?_ | refine a8 ?_ | refine a9 ?_ | refine RW.storeR rfl rfl rfl rfl (by first | rfl | (simp [allOne, cellsL, one1]; done) | (simp [allOne, cellsL, one1]; first | assumption | (refine ⟨?_, ?_⟩ <;> assumption))) rfl ?_ | refine a10 ?_ | refine RW.storeR1 rfl rfl (by first | rfl | exact IsSl.one1 (by assumption) | exact IsSl.one1 (SliceRep.isSl (by assumption))) rfl rfl ?_)
    refine Runs.freeze (H := H2) v50 hM (fun H5 hle5 hs5 hc5 => ?_)
    have hr5 : SliceRep H5 MarkL v50 ms5 := rowRep hs5 hlen2 hc5
    refine Runs.regionD _ _ [] (fun x hx => List.mem_cons_of_mem _ hx) (List.Sublist.refl _) (by kernel_rfl) ?_
    (first | refine t_loadBs 0 ?_ | refine t_loadHs 0 ?_)
    (first | refine t_loadBs 2 ?_ | refine t_loadHs 2 ?_)
    refine DW.callV 1 rfl (by kernel_rfl) rfl (valid_c hr5 (by omega) (by omega) hsm2) rfl rfl ?_
    rintro _ _ rfl
    refine DW.callV 3 rfl (by kernel_rfl) rfl (rvalid_c hr5 (by omega) (by omega)) rfl rfl ?_
    rintro _ _ rfl
    refine t_eqlB 4 ?_
    refine d2 5 ?_
    rw [show ∀ b : Bool, (b == b) = true from fun b => by cases b <;> rfl]
    refine d1 6 3 ?_
    refine DW.done (by kernel_rfl) ?_
    repeat (first | refine a1 ?_ | refine a3 ?_ | refine a4 ?_ | refine a5 ?_ | refine a6 ?_ | refine s_loadBs ?_ | refine s_loadHs ?_ | refine s_lenS ?_ | refine s_build ?_ | refine s_neqB ?_ | refine s_fieldB ?_ | refine s_fieldV ?_ | refine s_loadB ?_ | refine s_loadH ?_ | refine s_loadR ?_ | refine s_len ?_ | refine s_lenR ?_ | refine s_indexArrT ?_ | refine s_indexArrB ?_ | refine s_conv ?_ | refine s_convI ?_ | refine s_rem ?_ | refine s_eql ?_ | refine s_index ?_ | refine s_indexR ?_ | refine s_addI ?_ | refine s_quo ?_ | refine s_sliceSHi ?_ | refine s_eqlB ?_ | refine a7 ?_ | refine a8 ?_ | refine a9 ?_ | refine RW.storeR rfl rfl rfl rfl (by first | rfl | (simp [allOne, cellsL, one1]; done) | (simp [allOne, cellsL, one1]; first | assumption | (refine ⟨?_, ?_⟩ <;> assumption))) rfl ?_ | refine a10 ?_ | refine RW.storeR1 rfl rfl (by first | rfl | exact IsSl.one1 (by assumption) | exact IsSl.one1 (SliceRep.isSl (by assumption))) rfl rfl ?_)
    refine Runs.ret1 Try.func4 Try.results4 rfl (fun w hm => hR _ w _ H _ (List.mem_cons_self ..) (Snap.le.refl _) ?_ hm)
    rfl
  repeat (first | refine a1 ?_ | refine a3 ?_ | refine a4 ?_ | refine a5 ?_ | refine a6 ?_ | refine s_loadBs ?_ | refine s_loadHs ?_ | refine s_lenS ?_ | refine s_build ?_ | refine s_neqB ?_ | refine s_fieldB ?_ | refine s_fieldV ?_ | refine s_loadB ?_ | refine s_loadH ?_ | refine s_loadR ?_ | refine s_len ?_ | refine s_lenR ?_ | refine s_indexArrT ?_ | refine s_indexArrB ?_ | refine s_conv ?_ | refine s_convI ?_ | refine s_rem ?_ | refine s_eql ?_ | refine s_index ?_ | refine s_indexR ?_ | refine s_addI ?_ | refine s_quo ?_ | refine s_sliceSHi ?_ | refine s_eqlB ?_ | refine a7 ?_ | refine a8 ?_ | refine a9 ?_ | refine RW.storeR rfl rfl rfl rfl (by first | rfl | (simp [allOne, cellsL, one1]; done) | (simp [allOne, cellsL, one1]; first | assumption | (refine ⟨?_, ?_⟩ <;> assumption))) rfl ?_ | refine a10 ?_ | refine RW.storeR1 rfl rfl (by first | rfl | exact IsSl.one1 (by assumption) | exact IsSl.one1 (SliceRep.isSl (by assumption))) rfl rfl ?_)
  refine Runs.cond_d rfl (fun c1 => ?_) (fun c1 => ?_)
  · have hset : setAt (mkCs ms) (i * 4 + 2) (.int .i64 (m.to_ + w2)) = some (mkCs (ms.set i ⟨m.id, m.fr, m.to_ + w2, m.wh⟩)) := setMs hm rfl
    have hget : (mkCs ms)[i * 4 + 2]? = some (.int .i64 m.to_) := mkCs_get hm rfl
    have hsm2 : ∀ x ∈ ms.set i ⟨m.id, m.fr, m.to_ + w2, m.wh⟩, smallI x.id := fun x hx => by
      rcases List.mem_or_eq_of_mem_set hx with h | h
      · exact hsm x h
      · rw [h]; unfold smallI; dsimp only; omega
    have hlen2 : ms.length = (ms.set i ⟨m.id, m.fr, m.to_ + w2, m.wh⟩).length := by simp
    repeat (first | refine a1 ?_ | refine a3 ?_ | refine a4 ?_ | refine a5 ?_ | refine a6 ?_ | refine s_loadBs ?_ | refine s_loadHs ?_ | refine s_lenS ?_ | refine s_build ?_ | refine s_neqB ?_ | refine s_fieldB ?_ | refine s_fieldV ?_ | refine s_loadB ?_ | refine s_loadH ?_ | refine s_loadR ?_ | refine s_len ?_ | refine s_lenR ?_ | refine s_indexArrT ?_ | refine s_indexArrB ?_ | refine s_conv ?_ | refine s_convI ?_ | refine s_rem ?_ | refine s_eql ?_ | refine s_index ?_ | refine s_indexR ?_ | refine s_addI ?_ | refine s_quo ?_ | refine s_sliceSHi ?_ | refine s_eqlB ?_ | refine a7 ?_ | refine a8 ?_ | refine a9 ?_ | refine RW.storeR rfl rfl rfl rfl (by first | rfl | (simp [allOne, cellsL, one1]; done) | (simp [allOne, cellsL, one1]; first | assumption | (refine ⟨?_, ?_⟩ <;> assumption))) rfl ?_ | refine a10 ?_ | refine RW.storeR1 rfl rfl (by first | rfl | exact IsSl.one1 (by assumption) | exact IsSl.one1 (SliceRep.isSl (by assumption))) rfl rfl ?_)
    refine Runs.regionD _ _ [12] (fun x hx => List.mem_cons_of_mem _ hx) (List.Sublist.refl _) (by kernel_rfl) ?_
    (first | refine t_fieldB 0 ?_ | refine t_fieldV 0 ?_)
    (first | refine t_loadB 1 ?_ | refine t_loadH 1 ?_ | refine t_loadR 1 ?_)
    refine d2 2 ?_
    (first | refine t_index 3 ?_ | refine t_indexR 3 ?_)
    (first | refine t_fieldB 4 ?_ | refine t_fieldV 4 ?_)
    (first | refine t_loadB 5 ?_ | refine t_loadH 5 ?_ | refine t_loadR 5 ?_)
    (first | refine t_indexArrT 6 ?_ | refine t_indexArrB 6 ?_)
    (first | refine t_loadB 7 ?_ | refine t_loadH 7 ?_ | refine t_loadR 7 ?_)
    refine t_convI 8 ?_
    refine t_addI 9 ?_
    (first | refine t_index 10 ?_ | refine t_indexR 10 ?_)
    (first | refine t_fieldB 11 ?_ | refine t_fieldV 11 ?_)
    refine DW.storeR1 12 rfl (by kernel_rfl) rfl rfl rfl (by first | rfl | exact IsSl.one1 (by assumption) | exact IsSl.one1 (SliceRep.isSl (by assumption))) hset rfl ?_
    refine DW.done (by kernel_rfl) ?_
    generalize ms.set i ⟨m.id, m.fr, m.to_ + w2, m.wh⟩ = ms5 at *
    repeat (first | refine a1 ?_ | refine a3 ?_ | refine a4 ?_ | refine a5 ?_ | refine a6 ?_ | refine s_loadBs ?_ | refine s_loadHs ?_ | refine s_lenS ?_ | refine s_build ?_ | refine s_neqB ?_ | refine s_fieldB ?_ | refine s_fieldV ?_ | refine s_loadB ?_ | refine s_loadH ?_ | refine s_loadR ?_ | refine s_len ?_ | refine s_lenR ?_ | refine s_indexArrT ?_ | refine s_indexArrB ?_ | refine s_conv ?_ | refine s_convI ?_ | refine s_rem ?_ | refine s_eql ?_ | refine s_index ?_ | refine s_indexR ?_ | refine s_addI ?_ | refine s_quo ?_ | refine s_sliceSHi ?_ | refine s_eqlB ?_ | refine a7 ?_ | refine a8 ?_ | refine a9 ?_ | refine RW.storeR rfl rfl rfl rfl (by first | rfl | (simp [allOne, cellsL, one1]; done) | (simp [allOne, cellsL, one1]; first | assumption | (refine ⟨?_, ?_⟩ <;> assumption))) rfl ?_ | refine a10 ?_ | refine RW.storeR1 rfl rfl (by first | rfl | exact IsSl.one1 (by assumption) | exact IsSl.one1 (SliceRep.isSl (by assumption))) rfl rfl ?_)
    refine Runs.freeze (H := H2) v50 hM (fun H5 hle5 hs5 hc5 => ?_)
    have hr5 : SliceRep H5 MarkL v50 ms5 := rowRep hs5 hlen2 hc5
    refine Runs.regionD _ _ [] (fun x hx => List.mem_cons_of_mem _ hx) (List.Sublist.refl _) (by kernel_rfl) ?_
    (first | refine t_loadBs 0 ?_ | refine t_loadHs 0 ?_)
    (first | refine t_loadBs 2 ?_ | refine t_loadHs 2 ?_)
    refine DW.callV 1 rfl (by kernel_rfl) rfl (valid_c hr5 (by omega) (by omega) hsm2) rfl rfl ?_
    rintro _ _ rfl
    refine DW.callV 3 rfl (by kernel_rfl) rfl (rvalid_c hr5 (by omega) (by omega)) rfl rfl ?_
    rintro _ _ rfl
    refine t_eqlB 4 ?_
    refine d2 5 ?_
    rw [show ∀ b : Bool, (b == b) = true from fun b => by cases b <;> rfl]
    refine d1 6 3 ?_
    refine DW.done (by kernel_rfl) ?_
    repeat (first | refine a1 ?_ | refine a3 ?_ | refine a4 ?_ | refine a5 ?_ | refine a6 ?_ | refine s_loadBs ?_ | refine s_loadHs ?_ | refine s_lenS ?_ | refine s_build ?_ | refine s_neqB ?_ | refine s_fieldB ?_ | refine s_fieldV ?_ | refine s_loadB ?_ | refine s_loadH ?_ | refine s_loadR ?_ | refine s_len ?_ | refine s_lenR ?_ | refine s_indexArrT ?_ | refine s_indexArrB ?_ | refine s_conv ?_ | refine s_convI ?_ | refine s_rem ?_ | refine s_eql ?_ | refine s_index ?_ | refine s_indexR ?_ | refine s_addI ?_ | refine s_quo ?_ | refine s_sliceSHi ?_ | refine s_eqlB ?_ | refine a7 ?_ | refine a8 ?_ | refine a9 ?_ | refine RW.storeR rfl rfl rfl rfl (by first | rfl | (simp [allOne, cellsL, one1]; done) | (simp [allOne, cellsL, one1]; first | assumption | (refine ⟨?_, ?_⟩ <;> assumption))) rfl ?_ | refine a10 ?_ | refine RW.storeR1 rfl rfl (by first | rfl | exact IsSl.one1 (by assumption) | exact IsSl.one1 (SliceRep.isSl (by assumption))) rfl rfl ?_)
    refine Runs.ret1 Try.func4 Try.results4 rfl (fun w hm => hR _ w _ H _ (List.mem_cons_self ..) (Snap.le.refl _) ?_ hm)
    rfl
  repeat (first | refine a1 ?_ | refine a3 ?_ | refine a4 ?_ | refine a5 ?_ | refine a6 ?_ | refine s_loadBs ?_ | refine s_loadHs ?_ | refine s_lenS ?_ | refine s_build ?_ | refine s_neqB ?_ | refine s_fieldB ?_ | refine s_fieldV ?_ | refine s_loadB ?_ | refine s_loadH ?_ | refine s_loadR ?_ | refine s_len ?_ | refine s_lenR ?_ | refine s_indexArrT ?_ | refine s_indexArrB ?_ | refine s_conv ?_ | refine s_convI ?_ | refine s_rem ?_ | refine s_eql ?_ | refine s_index ?_ | refine s_indexR ?_ | refine s_addI ?_ | refine s_quo ?_ | refine s_sliceSHi ?_ | refine s_eqlB ?_ | refine a7 ?_ | refine a8 ?_ | refine a9 ?_ | refine RW.storeR rfl rfl rfl rfl (by first | rfl | (simp [allOne, cellsL, one1]; done) | (simp [allOne, cellsL, one1]; first | assumption | (refine ⟨?_, ?_⟩ <;> assumption))) rfl ?_ | refine a10 ?_ | refine RW.storeR1 rfl rfl (by first | rfl | exact IsSl.one1 (by assumption) | exact IsSl.one1 (SliceRep.isSl (by assumption))) rfl rfl ?_)
  refine Runs.cond_d rfl (fun c2 => ?_) (fun c2 => ?_)
  · have hset : setAt (mkCs ms) (i * 4 + 0) (.int .i64 (m.id + w2)) = some (mkCs (ms.set i ⟨m.id + w2, m.fr, m.to_, m.wh⟩)) := setMs hm rfl
    have hget : (mkCs ms)[i * 4 + 0]? = some (.int .i64 m.id) := mkCs_get hm rfl
    have hsm2 : ∀ x ∈ ms.set i ⟨m.id + w2, m.fr, m.to_, m.wh⟩, smallI x.id := fun x hx => by
      rcases List.mem_or_eq_of_mem_set hx with h | h
      · exact hsm x h
      · rw [h]; unfold smallI; dsimp only; omega
    have hlen2 : ms.length = (ms.set i ⟨m.id + w2, m.fr, m.to_, m.wh⟩).length := by simp
    repeat (first | refine a1 ?_ | refine a3 ?_ | refine a4 ?_ | refine a5 ?_ | refine a6 ?_ | refine s_loadBs ?_ | refine s_loadHs ?_ | refine s_lenS ?_ | refine s_build ?_ | refine s_neqB ?_ | refine s_fieldB ?_ | refine s_fieldV ?_ | refine s_loadB ?_ | refine s_loadH ?_ | refine s_loadR ?_ | refine s_len ?_ | refine s_lenR ?_ | refine s_indexArrT ?_ | refine s_indexArrB ?_ | refine s_conv ?_ | refine s_convI ?_ | refine s_rem ?_ | refine s_eql ?_ | refine s_index ?_ | refine s_indexR ?_ | refine s_addI ?_ | refine s_quo ?_ | refine s_sliceSHi ?_ | refine s_eqlB ?_ | refine a7 ?_ | refine a8 ?_ | refine a9 ?_ | refine RW.storeR rfl rfl rfl rfl (by first | rfl | (simp [allOne, cellsL, one1]; done) | (simp [allOne, cellsL, one1]; first | assumption | (refine ⟨?_, ?_⟩ <;> assumption))) rfl ?_ | refine a10 ?_ | refine RW.storeR1 rfl rfl (by first | rfl | exact IsSl.one1 (by assumption) | exact IsSl.one1 (SliceRep.isSl (by assumption))) rfl rfl ?_)
    refine Runs.regionD _ _ [12] (fun x hx => List.mem_cons_of_mem _ hx) (List.Sublist.refl _) (by kernel_rfl) ?_
    (first | refine t_fieldB 0 ?_ | refine t_fieldV 0 ?_)
    (first | refine t_loadB 1 ?_ | refine t_loadH 1 ?_ | refine t_loadR 1 ?_)
    refine d2 2 ?_
    (first | refine t_index 3 ?_ | refine t_indexR 3 ?_)
    (first | refine t_fieldB 4 ?_ | refine t_fieldV 4 ?_)
    (first | refine t_loadB 5 ?_ | refine t_loadH 5 ?_ | refine t_loadR 5 ?_)
    (first | refine t_indexArrT 6 ?_ | refine t_indexArrB 6 ?_)
    (first | refine t_loadB 7 ?_ | refine t_loadH 7 ?_ | refine t_loadR 7 ?_)
    refine t_convI 8 ?_
    refine t_addI 9 ?_
    (first | refine t_index 10 ?_ | refine t_indexR 10 ?_)
    (first | refine t_fieldB 11 ?_ | refine t_fieldV 11 ?_)
    refine DW.storeR1 12 rfl (by kernel_rfl) rfl rfl rfl (by first | rfl | exact IsSl.one1 (by assumption) | exact IsSl.one1 (SliceRep.isSl (by assumption))) hset rfl ?_
    refine DW.done (by kernel_rfl) ?_
    generalize ms.set i ⟨m.id + w2, m.fr, m.to_, m.wh⟩ = ms5 at *
    repeat (first | refine a1 ?_ | refine a3 ?_ | refine a4 ?_ | refine a5 ?_ | refine a6 ?_ | refine s_loadBs ?_ | refine s_loadHs ?_ | refine s_lenS ?_ | refine s_build ?_ | refine s_neqB ?_ | refine s_fieldB ?_ | refine s_fieldV ?_ | refine s_loadB ?_ | refine s_loadH ?_ | refine s_loadR ?_ | refine s_len ?_ | refine s_lenR ?_ | refine s_indexArrT ?_ | refine s_indexArrB ?_ | refine s_conv ?_ | refine s_convI ?_ | refine s_rem ?_ | refine s_eql ?_ | refine s_index ?_ | refine s_indexR ?_ | refine s_addI ?_ | refine s_quo ?_ | refine s_sliceSHi ?_ | refine s_eqlB ?_ | refine a7 ?_ | refine a8 ?_ | refine a9 ?_ | refine RW.storeR rfl rfl rfl rfl (by first | rfl | (simp [allOne, cellsL, one1]; done) | (simp [allOne, cellsL, one1]; first | assumption | (refine ⟨?_, ?_⟩ <;> assumption))) rfl ?_ | refine a10 ?_ | refine RW.storeR1 rfl rfl (by first | rfl | exact IsSl.one1 (by assumption) | exact IsSl.one1 (SliceRep.isSl (by assumption))) rfl rfl ?_)
    refine Runs.freeze (H := H2) v50 hM (fun H5 hle5 hs5 hc5 => ?_)
    have hr5 : SliceRep H5 MarkL v50 ms5 := rowRep hs5 hlen2 hc5
    refine Runs.regionD _ _ [] (fun x hx => List.mem_cons_of_mem _ hx) (List.Sublist.refl _) (by kernel_rfl) ?_
    (first | refine t_loadBs 0 ?_ | refine t_loadHs 0 ?_)
    (first | refine t_loadBs 2 ?_ | refine t_loadHs 2 ?_)
    refine DW.callV 1 rfl (by kernel_rfl) rfl (valid_c hr5 (by omega) (by omega) hsm2) rfl rfl ?_
    rintro _ _ rfl
    refine DW.callV 3 rfl (by kernel_rfl) rfl (rvalid_c hr5 (by omega) (by omega)) rfl rfl ?_
    rintro _ _ rfl
    refine t_eqlB 4 ?_
    refine d2 5 ?_
    rw [show ∀ b : Bool, (b == b) = true from fun b => by cases b <;> rfl]
    refine d1 6 3 ?_
    refine DW.done (by kernel_rfl) ?_
    repeat (first | refine a1 ?_ | refine a3 ?_ | refine a4 ?_ | refine a5 ?_ | refine a6 ?_ | refine s_loadBs ?_ | refine s_loadHs ?_ | refine s_lenS ?_ | refine s_build ?_ | refine s_neqB ?_ | refine s_fieldB ?_ | refine s_fieldV ?_ | refine s_loadB ?_ | refine s_loadH ?_ | refine s_loadR ?_ | refine s_len ?_ | refine s_lenR ?_ | refine s_indexArrT ?_ | refine s_indexArrB ?_ | refine s_conv ?_ | refine s_convI ?_ | refine s_rem ?_ | refine s_eql ?_ | refine s_index ?_ | refine s_indexR ?_ | refine s_addI ?_ | refine s_quo ?_ | refine s_sliceSHi ?_ | refine s_eqlB ?_ | refine a7 ?_ | refine a8 ?_ | refine a9 ?_ | refine RW.storeR rfl rfl rfl rfl (by first | rfl | (simp [allOne, cellsL, one1]; done) | (simp [allOne, cellsL, one1]; first | assumption | (refine ⟨?_, ?_⟩ <;> assumption))) rfl ?_ | refine a10 ?_ | refine RW.storeR1 rfl rfl (by first | rfl | exact IsSl.one1 (by assumption) | exact IsSl.one1 (SliceRep.isSl (by assumption))) rfl rfl ?_)
    refine Runs.ret1 Try.func4 Try.results4 rfl (fun w hm => hR _ w _ H _ (List.mem_cons_self ..) (Snap.le.refl _) ?_ hm)
    rfl
  repeat (first | refine a1 ?_ | refine a3 ?_ | refine a4 ?_ | refine a5 ?_ | refine a6 ?_ | refine s_loadBs ?_ | refine s_loadHs ?_ | refine s_lenS ?_ | refine s_build ?_ | refine s_neqB ?_ | refine s_fieldB ?_ | refine s_fieldV ?_ | refine s_loadB ?_ | refine s_loadH ?_ | refine s_loadR ?_ | refine s_len ?_ | refine s_lenR ?_ | refine s_indexArrT ?_ | refine s_indexArrB ?_ | refine s_conv ?_ | refine s_convI ?_ | refine s_rem ?_ | refine s_eql ?_ | refine s_index ?_ | refine s_indexR ?_ | refine s_addI ?_ | refine s_quo ?_ | refine s_sliceSHi ?_ | refine s_eqlB ?_ | refine a7 ?_ | refine a8 ?_ | refine a9 ?_ | refine RW.storeR rfl rfl rfl rfl (by first | rfl | (simp [allOne, cellsL, one1]; done) | (simp [allOne, cellsL, one1]; first | assumption | (refine ⟨?_, ?_⟩ <;> assumption))) rfl ?_ | refine a10 ?_ | refine RW.storeR1 rfl rfl (by first | rfl | exact IsSl.one1 (by assumption) | exact IsSl.one1 (SliceRep.isSl (by assumption))) rfl rfl ?_)
  have hlen2 : ms.length = ms.length := rfl
  have hsm2 := hsm
  have hsl : (s.take (s.length / 2)).length ≤ s.length := by simp; omega
  rw [show (s.length : Int) / 2 = ((s.length / 2 : Nat) : Int) by omega]
  repeat (first | refine a1 ?_ | refine a3 ?_ | refine a4 ?_ | refine a5 ?_ | refine a6 ?_ | refine s_loadBs ?_ | refine s_loadHs ?_ | refine s_lenS ?_ | refine s_build ?_ | refine s_neqB ?_ | refine s_fieldB ?_ | refine s_fieldV ?_ | refine s_loadB ?_ | refine s_loadH ?_ | refine s_loadR ?_ | refine s_len ?_ | refine s_lenR ?_ | refine s_indexArrT ?_ | refine s_indexArrB ?_ | refine s_conv ?_ | refine s_convI ?_ | refine s_rem ?_ | refine s_eql ?_ | refine s_index ?_ | refine s_indexR ?_ | refine s_addI ?_ | refine s_quo ?_ | refine s_sliceSHi ?_ | refine s_eqlB ?_ | refine a7 ?_ | refine a8 ?_ | refine a9 ?_ | refine RW.storeR rfl rfl rfl rfl (by first | rfl | (simp [allOne, cellsL, one1]; done) | (simp [allOne, cellsL, one1]; first | assumption | (refine ⟨?_, ?_⟩ <;> assumption))) rfl ?_ | refine a10 ?_ | refine RW.storeR1 rfl rfl (by first | rfl | exact IsSl.one1 (by assumption) | exact IsSl.one1 (SliceRep.isSl (by assumption))) rfl rfl ?_)
  obtain ⟨ms5, hms5⟩ : ∃ ms5, ms5 = ms := ⟨_, rfl⟩
  subst hms5
  repeat (first | refine a1 ?_ | refine a3 ?_ | refine a4 ?_ | refine a5 ?_ | refine a6 ?_ | refine s_loadBs ?_ | refine s_loadHs ?_ | refine s_lenS ?_ | refine s_build ?_ | refine s_neqB ?_ | refine s_fieldB ?_ | refine s_fieldV ?_ | refine s_loadB ?_ | refine s_loadH ?_ | refine s_loadR ?_ | refine s_len ?_ | refine s_lenR ?_ | refine s_indexArrT ?_ | refine s_indexArrB ?_ | refine s_conv ?_ | refine s_convI ?_ | refine s_rem ?_ | refine s_eql ?_ | refine s_index ?_ | refine s_indexR ?_ | refine s_addI ?_ | refine s_quo ?_ | refine s_sliceSHi ?_ | refine s_eqlB ?_ | refine a7 ?_ | refine a8 ?_ | refine a9 ?_ | refine RW.storeR rfl rfl rfl rfl (by first | rfl | (simp [allOne, cellsL, one1]; done) | (simp [allOne, cellsL, one1]; first | assumption | (refine ⟨?_, ?_⟩ <;> assumption))) rfl ?_ | refine a10 ?_ | refine RW.storeR1 rfl rfl (by first | rfl | exact IsSl.one1 (by assumption) | exact IsSl.one1 (SliceRep.isSl (by assumption))) rfl rfl ?_)
  refine Runs.freeze (H := H2) v50 hM (fun H5 hle5 hs5 hc5 => ?_)
  have hr5 : SliceRep H5 MarkL v50 ms5 := rowRep hs5 hlen2 hc5
  refine Runs.regionD _ _ [] (fun x hx => List.mem_cons_of_mem _ hx) (List.Sublist.refl _) (by kernel_rfl) ?_
  (first | refine t_loadBs 0 ?_ | refine t_loadHs 0 ?_)
  (first | refine t_loadBs 2 ?_ | refine t_loadHs 2 ?_)
  refine DW.callV 1 rfl (by kernel_rfl) rfl (valid_c hr5 (by omega) (by omega) hsm2) rfl rfl ?_
  rintro _ _ rfl
  refine DW.callV 3 rfl (by kernel_rfl) rfl (rvalid_c hr5 (by omega) (by omega)) rfl rfl ?_
  rintro _ _ rfl
  refine t_eqlB 4 ?_
  refine d2 5 ?_
  rw [show ∀ b : Bool, (b == b) = true from fun b => by cases b <;> rfl]
  refine d1 6 3 ?_
  refine DW.done (by kernel_rfl) ?_
  repeat (first | refine a1 ?_ | refine a3 ?_ | refine a4 ?_ | refine a5 ?_ | refine a6 ?_ | refine s_loadBs ?_ | refine s_loadHs ?_ | refine s_lenS ?_ | refine s_build ?_ | refine s_neqB ?_ | refine s_fieldB ?_ | refine s_fieldV ?_ | refine s_loadB ?_ | refine s_loadH ?_ | refine s_loadR ?_ | refine s_len ?_ | refine s_lenR ?_ | refine s_indexArrT ?_ | refine s_indexArrB ?_ | refine s_conv ?_ | refine s_convI ?_ | refine s_rem ?_ | refine s_eql ?_ | refine s_index ?_ | refine s_indexR ?_ | refine s_addI ?_ | refine s_quo ?_ | refine s_sliceSHi ?_ | refine s_eqlB ?_ | refine a7 ?_ | refine a8 ?_ | refine a9 ?_ | refine RW.storeR rfl rfl rfl rfl (by first | rfl | (simp [allOne, cellsL, one1]; done) | (simp [allOne, cellsL, one1]; first | assumption | (refine ⟨?_, ?_⟩ <;> assumption))) rfl ?_ | refine a10 ?_ | refine RW.storeR1 rfl rfl (by first | rfl | exact IsSl.one1 (by assumption) | exact IsSl.one1 (SliceRep.isSl (by assumption))) rfl rfl ?_)
  refine Runs.ret1 Try.func4 Try.results4 rfl (fun w hm => hR _ w _ H _ (List.mem_cons_self ..) (Snap.le.refl _) ?_ hm)
  rfl
end Go.Proofs.Ytcikciefaggckaa

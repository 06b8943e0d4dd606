/-
  Contract: Put of the program. Conditions: the document's marks lie in its text, in order.
-/
import Derived.Test.YtbiohkncdlhigaaD8
namespace Go.Proofs.Ytbiohkncdlhigaa
open Go Go.RowKit

theorem mkCs_len (ms : List Mk) : (mkCs ms).length = ms.length * 4 := by
  induction ms with
  | nil => rfl
  | cons x ms ih => simp only [mkCs, List.flatMap_cons, List.length_append, List.length_cons] at *; rw [ih]; simp; omega
theorem mkCs_app (a b : List Mk) : mkCs (a ++ b) = mkCs a ++ mkCs b := List.flatMap_append
theorem putMs {A B C D : List Mk} (h : B.length = C.length) : putAll (mkCs (A ++ B ++ D)) (A.length * 4) (mkCs C) = some (mkCs (A ++ C ++ D)) := by
  rw [mkCs_app, mkCs_app, mkCs_app, mkCs_app, ← mkCs_len]
  exact putAll_mid _ _ _ _ (by rw [mkCs_len, mkCs_len, h])
theorem mkCs_rep_eq {H : Snap} : ∀ {ms : List Mk} {ds : List Value}, CellsRep H MarkL ms ds → ds = mkCs ms
  | [], ds, h => h
  | x :: ms, ds, ⟨c, r, h1, h2, h3⟩ => by
    have h2 : c = mkC x := h2
    subst h1; subst h2
    rw [mkCs_rep_eq h3]
    rfl
abbrev mk0 : Mk := ⟨0, 0, 0, false⟩
theorem repL_mk (n : Nat) : repL n (mkC mk0) = mkCs (List.replicate n mk0) := by
  induction n with
  | zero => rfl
  | succ n ih => rw [List.replicate_succ]; simp only [mkCs, List.flatMap_cons, repL] at *; rw [ih]
theorem repl_split (n m : Nat) : List.replicate (n + m) mk0 = List.replicate n mk0 ++ List.replicate m mk0 := by
  induction n with
  | zero => simp
  | succ n ih => rw [Nat.succ_add, List.replicate_succ, List.replicate_succ, ih]; rfl
section
variable {P : Program} {f : FuncId} {n : Nat} {E : Ent} {R : Value → World → Prop} {k : List Item} {Hs : List Snap} {O O' : List Own} {l : Env} {L : List Oper} {os : List Oper} {d : Nat} {ty : TypeId} {pos : String} {aft : Array Edge} {g : Option (Nat × Bool)}
variable {Hs0 : List Snap} {O0 : List Own} {lt : List Nat} {st : Bool} {fuel : Nat} {listed : Array Bool}
theorem HV.copyM {H : Snap} {A B C D : List Mk} {T T2 e : TypeId} {x y : Operand} {v vs : Value} {m : Nat} [t : TDesc P T (.slice e)] [zs : TSz P e 4] (hx : opv l x = some (slv v 4 A.length m (capOf v))) (hy : opv l y = some vs) (hr : SliceRep H MarkL vs C) (hBC : B.length = C.length) (hm : m = (A ++ B ++ D).length) (h0 : 0 < m) [i : InH Hs H]
    [gr : GetRow O v e 4 m (mkCs (A ++ B ++ D))] [q : PutRow O v e 4 m (mkCs (A ++ B ++ D)) v m (mkCs (A ++ C ++ D)) O'] : HV P E Hs O l (.call ⟨.builtin .copy, #[x, y], #[T, T2]⟩) (fun r Hs' O1 => Hs' = Hs ∧ O1 = O' ∧ r = .int .i64 (C.length : Int)) := by
  obtain ⟨hs, ds, hc, hcell⟩ := hr
  have hd := mkCs_rep_eq hc
  subst hd
  simp only [List.length_append] at hm
  exact HV.copyR hx hy h0 (by omega) hs (by omega) (mkCs_len C) (fun w hm k u hu => hm.cellH (hcell k u hu)) hc.one1 (putMs hBC)
theorem RW.copyM (A B C D : List Mk) {H : Snap} {T T2 e : TypeId} {x y : Operand} {v vs : Value} {m : Nat} [t : TDesc P T (.slice e)] [zs : TSz P e 4] (hx : opv l x = some (slv v 4 A.length m (capOf v))) (hy : opv l y = some vs) (hr : SliceRep H MarkL vs C) (hBC : B.length = C.length) (hm : m = (A ++ B ++ D).length) (h0 : 0 < m) [i : InH Hs H]
    [gr : GetRow O v e 4 m (mkCs (A ++ B ++ D))] [q : PutRow O v e 4 m (mkCs (A ++ B ++ D)) v m (mkCs (A ++ C ++ D)) O'] (hg : guardIs L l g = some true) (hd : Nat.blt d n = true)
    (h : RW P f n E R L.toArray os k Hs O' ((d, .int .i64 (C.length : Int)) :: l)) : RW P f n E R L.toArray (⟨some d, .call ⟨.builtin .copy, #[x, y], #[T, T2]⟩, ty, pos, aft, g⟩ :: os) k Hs O l :=
  RW.h (HV.copyM hx hy hr hBC hm h0) hg hd (by rintro v' Hs' O'' ⟨rfl, rfl, rfl⟩; exact h)
theorem DW.copyS (i : Nat) (A B C D : List Mk) {H : Snap} {T T2 e : TypeId} {x y : Operand} {v vs : Value} {m : Nat} (hi : opAt L i = some ⟨some d, .call ⟨.builtin .copy, #[x, y], #[T, T2]⟩, ty, pos, aft, g⟩) (hrd : (Region.ready .any L.toArray listed == [i]) = true) [t : TDesc P T (.slice e)] [zs : TSz P e 4] (hx : opv l x = some (slv v 4 A.length m (capOf v))) (hy : opv l y = some vs) (hr : SliceRep H MarkL vs C) (hBC : B.length = C.length) (hm : m = (A ++ B ++ D).length) (h0 : 0 < m) [iH : InH Hs H]
    [gr : GetRow O v e 4 m (mkCs (A ++ B ++ D))] [q : PutRow O v e 4 m (mkCs (A ++ B ++ D)) v m (mkCs (A ++ C ++ D)) O'] (hg : guardIs L l g = some true) (hd : Nat.blt d n = true) (hsub : SubO O0 O') (hsubH : SubH Hs0 Hs)
    (h : DW P f n E R L Hs0 O0 lt true fuel (listed.setIfInBounds i true) k Hs O' ((d, .int .i64 (C.length : Int)) :: l)) : DW P f n E R L Hs0 O0 lt true (fuel + 1) listed k Hs O l := by
  refine DW.h i true hi hrd (HV.copyM hx hy hr hBC hm h0) hg hd (by simp) ?_
  rintro v' Hs' O'' ⟨rfl, rfl, rfl⟩
  exact ⟨fun _ w hm => hm.sub (fun x hx => List.mem_cons_of_mem _ (hsubH.h x hx)) hsub.h, h⟩
end

set_option maxHeartbeats 2000000 in
theorem put_c {H : Snap} {s t : List UInt8} {vm : Value} {ms : List Mk} {i a : Int} (hv : SliceRep H MarkL vm ms) (hl : s.length ≤ 100000) (ht : t.length ≤ 100000) (hok : ∀ m ∈ ms, okM s.length m) (hml : ms.length ≤ 100000) (hs : ms.Pairwise (fun a b => a.id < b.id)) :
    Pure Try.prog 94 #[.agg #[str s, vm], .int .i64 i, .int .i64 a, str t] H (fun H' r => ∃ v, r = .tuple #[v, .int .i64 (putD ⟨s, ms⟩ i a t).2] ∧ DocR H' v (putD ⟨s, ms⟩ i a t).1) := by
  have hba := hv.isSl.bound
  refine Pure.intro Try.func94 rfl Try.ntmps94 rfl (fun E R hM hR => ?_)
  repeat (first | refine a4 ?_ | refine a6 ?_)
  refine RW.box rfl rfl rfl rfl (fun b4 => ?_)
  refine RW.alloc rfl rfl rfl (fun b8 => ?_)
  repeat (first | refine a1 ?_ | refine a4 ?_ | refine a5 ?_ | refine a6 ?_ | refine s_build ?_)
  refine RW.alloc rfl rfl rfl (fun b10 => ?_)
  repeat (first | refine a1 ?_ | refine a4 ?_ | refine a5 ?_ | refine a6 ?_ | refine s_loadBs ?_ | refine a9 ?_)
  refine RW.callV rfl (find_c hv hs hml (i := i)) rfl rfl ?_
  rintro _ _ rfl
  by_cases hno : hasId ms i
  · have hd : putD ⟨s, ms⟩ i a t = (⟨[], []⟩, 290) := by rw [putD, if_pos (.inr (.inr hno))]
    rw [hd] at hR
    rw [decide_eq_true hno]
    repeat (first | refine a1 ?_ | refine a3 ?_ | refine a4 ?_ | refine a5 ?_ | refine a6 ?_ | refine s_build ?_ | refine a7 ?_ | refine a9 ?_)
    refine Runs.retCT Try.func94 Try.results94 rfl rfl (fun w hm => hR _ w _ H _ (List.mem_cons_self ..) (Snap.le.refl _) ?_ hm)
    exact ⟨_, rfl, _, rfl, SliceRep.nil⟩
  rw [decide_eq_false hno]
  repeat (first | refine a1 ?_ | refine a4 ?_ | refine a5 ?_ | refine a6 ?_)
  refine RW.dec 32 rfl (fun hi0 => ?_) (fun hi0 => ?_)
  · have hd : putD ⟨s, ms⟩ i a t = (⟨[], []⟩, 290) := by rw [putD, if_pos (.inr (.inl hi0))]
    rw [hd] at hR
    repeat (first | refine a1 ?_ | refine a3 ?_ | refine a4 ?_ | refine a5 ?_ | refine a6 ?_ | refine s_build ?_ | refine a7 ?_ | refine a9 ?_)
    refine Runs.retCT Try.func94 Try.results94 rfl rfl (fun w hm => hR _ w _ H _ (List.mem_cons_self ..) (Snap.le.refl _) ?_ hm)
    exact ⟨_, rfl, _, rfl, SliceRep.nil⟩
  repeat (first | refine s_loadBs ?_ | refine s_fieldB ?_ | refine s_loadB ?_ | refine s_lenS ?_)
  refine RW.callV rfl (poss_c (H := H) (e := ⟨1, a, 0, 0, t⟩) (n := s.length) ht (by omega)) rfl rfl ?_
  rintro _ _ rfl
  by_cases hp : possE ⟨1, a, 0, 0, t⟩ s.length
  · rw [decide_eq_true hp]
    have hpd : putD ⟨s, ms⟩ i a t = if (doD ⟨s, ms⟩ ⟨1, a, 0, 0, t⟩).2 ≠ 0 ∨ 100 ≤ ms.length then (⟨[], []⟩, 2) else (⟨(doD ⟨s, ms⟩ ⟨1, a, 0, 0, t⟩).1.tx, insM ⟨i, a, a + t.length, true⟩ (doD ⟨s, ms⟩ ⟨1, a, 0, 0, t⟩).1.ms⟩, 0) := by
      rw [putD, if_neg]
      rintro (h | h | h)
      · exact h hp
      · omega
      · exact hno h
    have hpn := hp.nums
    dsimp only at hpn
    repeat (first | refine a1 ?_ | refine a4 ?_ | refine a5 ?_ | refine a6 ?_ | refine s_loadBs ?_ | refine a8 ?_)
    refine RW.call rfl (do_c (e := ⟨1, a, 0, 0, t⟩) hv hl ht hok hml) rfl rfl ?_
    rintro v8 H3 ⟨vd, hvd, hrd⟩ hle3
    subst hvd
    by_cases hbig : 400 < (applyT s ⟨1, a, 0, 0, t⟩).length
    · have hdd : doD ⟨s, ms⟩ ⟨1, a, 0, 0, t⟩ = (⟨[], []⟩, 2) := by rw [doD, if_pos hp, if_pos hbig]
      rw [hdd] at hrd hpd ⊢
      rw [if_pos (.inl (by decide))] at hpd
      rw [hpd] at hR
      obtain ⟨vm3, rfl, hrm3⟩ := hrd
      dsimp only at *
      have hi3 := hrm3.isSl
      have ho3 := hi3.one1
      repeat (refine a1 ?_)
      refine RW.alloc rfl rfl rfl (fun b13 => ?_)
      repeat (first | refine a1 ?_ | refine a3 ?_ | refine a4 ?_ | refine a5 ?_ | refine a6 ?_ | refine s_build ?_ | refine a7 ?_ | refine a9 ?_)
      refine Runs.retCT Try.func94 Try.results94 rfl rfl (fun w hm => hR _ w _ H _ (List.mem_cons_self ..) (Snap.le.refl _) ?_ hm)
      exact ⟨_, rfl, _, rfl, SliceRep.nil⟩
    · have hdd : doD ⟨s, ms⟩ ⟨1, a, 0, 0, t⟩ = (⟨applyT s ⟨1, a, 0, 0, t⟩, carryL ms ⟨1, a, 0, 0, t⟩⟩, 0) := by rw [doD, if_pos hp, if_neg hbig]
      rw [hdd] at hrd hpd ⊢
      obtain ⟨vm3, rfl, hrm3⟩ := hrd
      have hs3 := carryL_sorted hok hp hs
      have hno3 := carryL_noId hok hp hno
      have hcl := carryL_length ms ⟨1, a, 0, 0, t⟩
      dsimp only at *
      generalize carryL ms ⟨1, a, 0, 0, t⟩ = ms3 at *
      generalize applyT s ⟨1, a, 0, 0, t⟩ = s3 at *
      have hi3 := hrm3.isSl
      have ho3 := hi3.one1
      have hb3 := hi3.bound
      have hcap3 := hrm3.capOf_le
      repeat (refine a1 ?_)
      refine RW.alloc rfl rfl rfl (fun b13 => ?_)
      repeat (first | refine a1 ?_ | refine a4 ?_ | refine a5 ?_ | refine a6 ?_ | refine s_fieldB ?_ | refine s_loadB ?_ | refine s_len ?_ | refine a9 ?_)
      refine Runs.cond_d rfl (fun hfull => ?_) (fun hfull => ?_)
      · rw [if_pos (.inr (by omega))] at hpd
        rw [hpd] at hR
        repeat (first | refine a1 ?_ | refine a4 ?_ | refine a5 ?_ | refine a6 ?_ | refine s_build ?_ | refine a9 ?_)
        refine Runs.retCT Try.func94 Try.results94 rfl rfl (fun w hm => hR _ w _ H _ (List.mem_cons_self ..) (Snap.le.refl _) ?_ hm)
        exact ⟨_, rfl, _, rfl, SliceRep.nil⟩
      rw [if_neg (by omega)] at hpd
      rw [hpd] at hR
      repeat (first | refine a1 ?_ | refine a4 ?_ | refine a6 ?_ | refine s_loadBs ?_)
      refine RW.callV rfl (find_c hrm3 hs3 (by omega) (i := i)) rfl rfl ?_
      rintro _ _ rfl
      have hc := cntLt_le ms3 i
      have hins := insM_cnt ⟨i, a, a + t.length, true⟩ ms3
      dsimp only at hins
      generalize cntLt ms3 i = c at *
      repeat (first | refine a1 ?_ | refine a4 ?_ | refine a5 ?_ | refine a6 ?_ | refine s_fieldB ?_ | refine s_loadB ?_ | refine s_len ?_ | refine s_addI ?_)
      obtain ⟨N, hN⟩ : ∃ N : Nat, N = ms3.length + 1 := ⟨_, rfl⟩
      rw [show (ms3.length : Int) + 1 = (N : Int) by omega]
      refine RW.make rfl rfl rfl (by decide) (by omega) (by omega) rfl rfl (fun v17 hv17 => ?_)
      rw [show repL N (cellsL (.agg #[.int .i64 0, .int .i64 0, .int .i64 0, .bool false])) = mkCs ([] ++ List.replicate c mk0 ++ List.replicate (N - c) mk0) by
        rw [List.nil_append, ← repl_split, show c + (N - c) = N by omega]; exact repL_mk N]
      have hov := hv17.one1
      repeat (first | refine a1 ?_ | refine a4 ?_ | refine a5 ?_ | refine a6 ?_ | refine s_fieldB ?_ | refine s_loadB ?_ | refine s_sliceHi ?_)
      have hr1 : SliceRep H3 MarkL (slv vm3 4 0 c (capOf vm3)) (ms3.take c) := by
        have := hrm3.slv (lo := 0) (hi := c) (mx := capOf vm3) (s := 4) rfl (Nat.zero_le _) hc (by omega) (Nat.le_refl _)
        simpa using this
      refine RW.copyM [] (List.replicate c mk0) (ms3.take c) (List.replicate (N - c) mk0) (v := v17) (m := N) (by rw [List.length_nil, slv_self hv17]; rfl) rfl hr1 (by simp; omega) (by simp; omega) (by omega) rfl rfl ?_
      rw [show mkCs ([] ++ ms3.take c ++ List.replicate (N - c) mk0) = mkCs (ms3.take c ++ [mk0] ++ List.replicate (N - c - 1) mk0) by
        rw [List.nil_append, List.append_assoc]
        congr 2
        obtain ⟨q, hq⟩ : ∃ q, N - c = 1 + q := ⟨N - c - 1, by omega⟩
        rw [hq, repl_split, show 1 + q - 1 = q by omega]
        rfl]
      repeat (first | refine a1 ?_ | refine a4 ?_ | refine a5 ?_ | refine a6 ?_ | refine s_build ?_ | refine s_lenS ?_ | refine s_addI ?_ | refine s_index ?_)
      have htk : (ms3.take c).length = c := by simp; omega
      have hp1 := putMs (A := ms3.take c) (B := [mk0]) (C := [⟨i, a, a + t.length, true⟩]) (D := List.replicate (N - c - 1) mk0) rfl
      rw [htk] at hp1
      refine RW.storeR rfl rfl hp1 rfl rfl rfl ?_
      repeat (first | refine a4 ?_ | refine a5 ?_)
      have hA : (ms3.take c ++ [(⟨i, a, a + t.length, true⟩ : Mk)]).length = c + 1 := by simp; omega
      have hr2 : SliceRep H3 MarkL (slv vm3 4 c ms3.length (capOf vm3)) (ms3.drop c) := by
        have := hrm3.slv (lo := c) (hi := ms3.length) (mx := capOf vm3) (s := 4) rfl hc (Nat.le_refl _) hcap3 (Nat.le_refl _)
        rwa [List.take_of_length_le (by simp)] at this
      refine Runs.regionD _ ([.blk b13 36 [str s3, vm3]]) [] (fun x hx => List.mem_cons_of_mem _ hx) SubO.h (by kernel_rfl) ?_
      refine d1 0 2 ?_
      refine t_addI 2 ?_
      rw [show (c : Int) + 1 = ((c + 1 : Nat) : Int) from rfl]
      refine t_sliceLo 3 ?_
      refine t_fieldB 4 ?_
      refine t_loadB 5 ?_
      refine d2 6 ?_
      refine t_sliceLo 7 ?_
      rw [show mkCs (ms3.take c ++ [⟨i, a, a + t.length, true⟩] ++ List.replicate (N - c - 1) mk0) = mkCs ((ms3.take c ++ [⟨i, a, a + t.length, true⟩]) ++ List.replicate (N - c - 1) mk0 ++ []) by rw [List.append_nil]]
      refine DW.copyS 8 (ms3.take c ++ [⟨i, a, a + t.length, true⟩]) (List.replicate (N - c - 1) mk0) (ms3.drop c) [] (v := v17) (m := N) rfl (by kernel_rfl) (by rw [hA]; rfl) rfl hr2 (by simp; omega) (by simp; omega) (by omega) rfl rfl inferInstance inferInstance ?_
      rw [show mkCs ((ms3.take c ++ [⟨i, a, a + t.length, true⟩]) ++ ms3.drop c ++ []) = mkCs (insM ⟨i, a, a + t.length, true⟩ ms3) by rw [hins, List.append_nil, List.append_assoc]; rfl]
      have hNl : N = (insM ⟨i, a, a + t.length, true⟩ ms3).length := by rw [hins]; simp; omega
      refine DW.done (by kernel_rfl) ?_
      repeat (first | refine a1 ?_ | refine a4 ?_ | refine a5 ?_ | refine a6 ?_ | refine s_loadBs ?_ | refine s_fieldB ?_ | refine a9 ?_ | refine a10 ?_)
      refine Runs.freeze (H := H) v17 hM (fun H5 hle5 hs5 hc5 => ?_)
      have hr5 : SliceRep H5 MarkL v17 _ := SliceRep.of_row hs5 hNl (mkCs_rep H5 _) (Snap.le.refl _) hc5
      skip
      refine Runs.retCT Try.func94 Try.results94 rfl rfl (fun w hm => hR _ w _ H5 _ (by simp) (hle5) ?_ hm)
      exact ⟨_, rfl, _, rfl, hr5⟩
  · have hd : putD ⟨s, ms⟩ i a t = (⟨[], []⟩, 290) := by rw [putD, if_pos (.inl hp)]
    rw [hd] at hR
    rw [decide_eq_false hp]
    repeat (first | refine a1 ?_ | refine a4 ?_ | refine a5 ?_ | refine a6 ?_ | refine s_build ?_ | refine a7 ?_ | refine a9 ?_)
    refine Runs.retCT Try.func94 Try.results94 rfl rfl (fun w hm => hR _ w _ H _ (List.mem_cons_self ..) (Snap.le.refl _) ?_ hm)
    exact ⟨_, rfl, _, rfl, SliceRep.nil⟩
end Go.Proofs.Ytbiohkncdlhigaa

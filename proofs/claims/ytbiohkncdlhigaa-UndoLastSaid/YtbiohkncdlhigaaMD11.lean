/-
  Contract: Put of the program. Conditions: the document's marks lie in its text, in order.
  Raw edits: their plain side; words and edits of the reference. Conditions: bytes are bytes.
  Steps and documents of the reference; what is put keeps a document valid. Conditions: bytes are bytes.
-/
import Derived.Test.YtbiohkncdlhigaaD8
namespace Go.Proofs.Ytbiohkncdlhigaa
open Go Go.RowKit

theorem mkCs_len (ms : List Mk) : (mkCs ms).length = ms.length * 4 := by
  induction ms with
  | nil => rfl
  | cons x ms ih => simp only [mkCs, List.flatMap_cons, List.length_append, List.length_cons] at *; rw [ih]; simp; omega
theorem mkCs_app (a b : List Mk) : mkCs (a ++ b) = mkCs a ++ mkCs b := List.flatMap_append
theorem putMs {A B C D : List Mk} (h : B.length = C.length) : putAll (mkCs (A ++ B ++ D)) (A.length * 4) (mkCs C) = some (mkCs (A ++ C ++ D)) := by
  rw [mkCs_app, mkCs_app, mkCs_app, mkCs_app, ← mkCs_len]
  exact putAll_mid _ _ _ _ (by rw [mkCs_len, mkCs_len, h])
theorem mkCs_rep_eq {H : Snap} : ∀ {ms : List Mk} {ds : List Value}, CellsRep H MarkL ms ds → ds = mkCs ms
  | [], ds, h => h
  | x :: ms, ds, ⟨c, r, h1, h2, h3⟩ => by
    have h2 : c = mkC x := h2
    subst h1; subst h2
    rw [mkCs_rep_eq h3]
    rfl
abbrev mk0 : Mk := ⟨0, 0, 0, false⟩
theorem repL_mk (n : Nat) : repL n (mkC mk0) = mkCs (List.replicate n mk0) := by
  induction n with
  | zero => rfl
  | succ n ih => rw [List.replicate_succ]; simp only [mkCs, List.flatMap_cons, repL] at *; rw [ih]
theorem repl_split (n m : Nat) : List.replicate (n + m) mk0 = List.replicate n mk0 ++ List.replicate m mk0 := by
  induction n with
  | zero => simp
  | succ n ih => rw [Nat.succ_add, List.replicate_succ, List.replicate_succ, ih]; rfl
section
variable {P : Program} {f : FuncId} {n : Nat} {E : Ent} {R : Value → World → Prop} {k : List Item} {Hs : List Snap} {O O' : List Own} {l : Env} {L : List Oper} {os : List Oper} {d : Nat} {ty : TypeId} {pos : String} {aft : Array Edge} {g : Option (Nat × Bool)}
variable {Hs0 : List Snap} {O0 : List Own} {lt : List Nat} {st : Bool} {fuel : Nat} {listed : Array Bool}
theorem HV.copyM {H : Snap} {A B C D : List Mk} {T T2 e : TypeId} {x y : Operand} {v vs : Value} {m : Nat} [t : TDesc P T (.slice e)] [zs : TSz P e 4] (hx : opv l x = some (slv v 4 A.length m (capOf v))) (hy : opv l y = some vs) (hr : SliceRep H MarkL vs C) (hBC : B.length = C.length) (hm : m = (A ++ B ++ D).length) (h0 : 0 < m) [i : InH Hs H]
    [gr : GetRow O v e 4 m (mkCs (A ++ B ++ D))] [q : PutRow O v e 4 m (mkCs (A ++ B ++ D)) v m (mkCs (A ++ C ++ D)) O'] : HV P E Hs O l (.call ⟨.builtin .copy, #[x, y], #[T, T2]⟩) (fun r Hs' O1 => Hs' = Hs ∧ O1 = O' ∧ r = .int .i64 (C.length : Int)) := by
  obtain ⟨hs, ds, hc, hcell⟩ := hr
  have hd := mkCs_rep_eq hc
  subst hd
  simp only [List.length_append] at hm
  exact HV.copyR hx hy h0 (by omega) hs (by omega) (mkCs_len C) (fun w hm k u hu => hm.cellH (hcell k u hu)) hc.one1 (putMs hBC)
theorem RW.copyM (A B C D : List Mk) {H : Snap} {T T2 e : TypeId} {x y : Operand} {v vs : Value} {m : Nat} [t : TDesc P T (.slice e)] [zs : TSz P e 4] (hx : opv l x = some (slv v 4 A.length m (capOf v))) (hy : opv l y = some vs) (hr : SliceRep H MarkL vs C) (hBC : B.length = C.length) (hm : m = (A ++ B ++ D).length) (h0 : 0 < m) [i : InH Hs H]
    [gr : GetRow O v e 4 m (mkCs (A ++ B ++ D))] [q : PutRow O v e 4 m (mkCs (A ++ B ++ D)) v m (mkCs (A ++ C ++ D)) O'] (hg : guardIs L l g = some true) (hd : Nat.blt d n = true)
    (h : RW P f n E R L.toArray os k Hs O' ((d, .int .i64 (C.length : Int)) :: l)) : RW P f n E R L.toArray (⟨some d, .call ⟨.builtin .copy, #[x, y], #[T, T2]⟩, ty, pos, aft, g⟩ :: os) k Hs O l :=
  RW.h (HV.copyM hx hy hr hBC hm h0) hg hd (by rintro v' Hs' O'' ⟨rfl, rfl, rfl⟩; exact h)
theorem DW.copyS (i : Nat) (A B C D : List Mk) {H : Snap} {T T2 e : TypeId} {x y : Operand} {v vs : Value} {m : Nat} (hi : opAt L i = some ⟨some d, .call ⟨.builtin .copy, #[x, y], #[T, T2]⟩, ty, pos, aft, g⟩) (hrd : (Region.ready .any L.toArray listed == [i]) = true) [t : TDesc P T (.slice e)] [zs : TSz P e 4] (hx : opv l x = some (slv v 4 A.length m (capOf v))) (hy : opv l y = some vs) (hr : SliceRep H MarkL vs C) (hBC : B.length = C.length) (hm : m = (A ++ B ++ D).length) (h0 : 0 < m) [iH : InH Hs H]
    [gr : GetRow O v e 4 m (mkCs (A ++ B ++ D))] [q : PutRow O v e 4 m (mkCs (A ++ B ++ D)) v m (mkCs (A ++ C ++ D)) O'] (hg : guardIs L l g = some true) (hd : Nat.blt d n = true) (hsub : SubO O0 O') (hsubH : SubH Hs0 Hs)
    (h : DW P f n E R L Hs0 O0 lt true fuel (listed.setIfInBounds i true) k Hs O' ((d, .int .i64 (C.length : Int)) :: l)) : DW P f n E R L Hs0 O0 lt true (fuel + 1) listed k Hs O l := by
  refine DW.h i true hi hrd (HV.copyM hx hy hr hBC hm h0) hg hd (by simp) ?_
  rintro v' Hs' O'' ⟨rfl, rfl, rfl⟩
  exact ⟨fun _ w hm => hm.sub (fun x hx => List.mem_cons_of_mem _ (hsubH.h x hx)) hsub.h, h⟩
end

set_option maxHeartbeats 2000000 in
theorem put_c {H : Snap} {s t : List UInt8} {vm : Value} {ms : List Mk} {i a : Int} (hv : SliceRep H MarkL vm ms) (hl : s.length ≤ 100000) (ht : t.length ≤ 100000) (hok : ∀ m ∈ ms, okM s.length m) (hml : ms.length ≤ 100000) (hs : ms.Pairwise (fun a b => a.id < b.id)) :
    Pure Try.prog 94 #[.agg #[str s, vm], .int .i64 i, .int .i64 a, str t] H (fun H' r => ∃ v, r = .tuple #[v, .int .i64 (putD ⟨s, ms⟩ i a t).2] ∧ DocR H' v (putD ⟨s, ms⟩ i a t).1) := by
  have hba := hv.isSl.bound
  refine Pure.intro Try.func94 rfl Try.ntmps94 rfl (fun E R hM hR => ?_)
  repeat (first | refine a4 ?_ | refine a6 ?_)
  refine RW.box rfl rfl rfl rfl (fun b4 => ?_)
  refine RW.alloc rfl rfl rfl (fun b8 => ?_)
  repeat (first | refine a1 ?_ | refine a4 ?_ | refine a5 ?_ | refine a6 ?_ | refine s_build ?_)
  refine RW.alloc rfl rfl rfl (fun b10 => ?_)
  repeat (first | refine a1 ?_ | refine a4 ?_ | refine a5 ?_ | refine a6 ?_ | refine s_loadBs ?_ | refine a9 ?_)
  refine RW.callV rfl (find_c hv hs hml (i := i)) rfl rfl ?_
  rintro _ _ rfl
  by_cases hno : hasId ms i
  · have hd : putD ⟨s, ms⟩ i a t = (⟨[], []⟩, 290) := by rw [putD, if_pos (.inr (.inr hno))]
    rw [hd] at hR
    rw [decide_eq_true hno]
    repeat (first | refine a1 ?_ | refine a3 ?_ | refine a4 ?_ | refine a5 ?_ | refine a6 ?_ | refine s_build ?_ | refine a7 ?_ | refine a9 ?_)
    refine Runs.retCT Try.func94 Try.results94 rfl rfl (fun w hm => hR _ w _ H _ (List.mem_cons_self ..) (Snap.le.refl _) ?_ hm)
    exact ⟨_, rfl, _, rfl, SliceRep.nil⟩
  rw [decide_eq_false hno]
  repeat (first | refine a1 ?_ | refine a4 ?_ | refine a5 ?_ | refine a6 ?_)
  refine RW.dec 32 rfl (fun hi0 => ?_) (fun hi0 => ?_)
  · have hd : putD ⟨s, ms⟩ i a t = (⟨[], []⟩, 290) := by rw [putD, if_pos (.inr (.inl hi0))]
    rw [hd] at hR
    repeat (first | refine a1 ?_ | refine a3 ?_ | refine a4 ?_ | refine a5 ?_ | refine a6 ?_ | refine s_build ?_ | refine a7 ?_ | refine a9 ?_)
    refine Runs.retCT Try.func94 Try.results94 rfl rfl (fun w hm => hR _ w _ H _ (List.mem_cons_self ..) (Snap.le.refl _) ?_ hm)
    exact ⟨_, rfl, _, rfl, SliceRep.nil⟩
  repeat (first | refine s_loadBs ?_ | refine s_fieldB ?_ | refine s_loadB ?_ | refine s_lenS ?_)
  refine RW.callV rfl (poss_c (H := H) (e := ⟨1, a, 0, 0, t⟩) (n := s.length) ht (by omega)) rfl rfl ?_
  rintro _ _ rfl
  by_cases hp : possE ⟨1, a, 0, 0, t⟩ s.length
  · rw [decide_eq_true hp]
    have hpd : putD ⟨s, ms⟩ i a t = if (doD ⟨s, ms⟩ ⟨1, a, 0, 0, t⟩).2 ≠ 0 ∨ 100 ≤ ms.length then (⟨[], []⟩, 2) else (⟨(doD ⟨s, ms⟩ ⟨1, a, 0, 0, t⟩).1.tx, insM ⟨i, a, a + t.length, true⟩ (doD ⟨s, ms⟩ ⟨1, a, 0, 0, t⟩).1.ms⟩, 0) := by
      rw [putD, if_neg]
      rintro (h | h | h)
      · exact h hp
      · omega
      · exact hno h
    have hpn := hp.nums
    dsimp only at hpn
    repeat (first | refine a1 ?_ | refine a4 ?_ | refine a5 ?_ | refine a6 ?_ | refine s_loadBs ?_ | refine a8 ?_)
    refine RW.call rfl (do_c (e := ⟨1, a, 0, 0, t⟩) hv hl ht hok hml) rfl rfl ?_
    rintro v8 H3 ⟨vd, hvd, hrd⟩ hle3
    subst hvd
    by_cases hbig : 400 < (applyT s ⟨1, a, 0, 0, t⟩).length
    · have hdd : doD ⟨s, ms⟩ ⟨1, a, 0, 0, t⟩ = (⟨[], []⟩, 2) := by rw [doD, if_pos hp, if_pos hbig]
      rw [hdd] at hrd hpd ⊢
      rw [if_pos (.inl (by decide))] at hpd
      rw [hpd] at hR
      obtain ⟨vm3, rfl, hrm3⟩ := hrd
      dsimp only at *
      have hi3 := hrm3.isSl
      have ho3 := hi3.one1
      repeat (refine a1 ?_)
      refine RW.alloc rfl rfl rfl (fun b13 => ?_)
      repeat (first | refine a1 ?_ | refine a3 ?_ | refine a4 ?_ | refine a5 ?_ | refine a6 ?_ | refine s_build ?_ | refine a7 ?_ | refine a9 ?_)
      refine Runs.retCT Try.func94 Try.results94 rfl rfl (fun w hm => hR _ w _ H _ (List.mem_cons_self ..) (Snap.le.refl _) ?_ hm)
      exact ⟨_, rfl, _, rfl, SliceRep.nil⟩
    · have hdd : doD ⟨s, ms⟩ ⟨1, a, 0, 0, t⟩ = (⟨applyT s ⟨1, a, 0, 0, t⟩, carryL ms ⟨1, a, 0, 0, t⟩⟩, 0) := by rw [doD, if_pos hp, if_neg hbig]
      rw [hdd] at hrd hpd ⊢
      obtain ⟨vm3, rfl, hrm3⟩ := hrd
      have hs3 := carryL_sorted hok hp hs
      have hno3 := carryL_noId hok hp hno
      have hcl := carryL_length ms ⟨1, a, 0, 0, t⟩
      dsimp only at *
      generalize carryL ms ⟨1, a, 0, 0, t⟩ = ms3 at *
      generalize applyT s ⟨1, a, 0, 0, t⟩ = s3 at *
      have hi3 := hrm3.isSl
      have ho3 := hi3.one1
      have hb3 := hi3.bound
      have hcap3 := hrm3.capOf_le
      repeat (refine a1 ?_)
      refine RW.alloc rfl rfl rfl (fun b13 => ?_)
      repeat (first | refine a1 ?_ | refine a4 ?_ | refine a5 ?_ | refine a6 ?_ | refine s_fieldB ?_ | refine s_loadB ?_ | refine s_len ?_ | refine a9 ?_)
      refine Runs.cond_d rfl (fun hfull => ?_) (fun hfull => ?_)
      · rw [if_pos (.inr (by omega))] at hpd
        rw [hpd] at hR
        repeat (first | refine a1 ?_ | refine a4 ?_ | refine a5 ?_ | refine a6 ?_ | refine s_build ?_ | refine a9 ?_)
        refine Runs.retCT Try.func94 Try.results94 rfl rfl (fun w hm => hR _ w _ H _ (List.mem_cons_self ..) (Snap.le.refl _) ?_ hm)
        exact ⟨_, rfl, _, rfl, SliceRep.nil⟩
      rw [if_neg (by omega)] at hpd
      rw [hpd] at hR
      repeat (first | refine a1 ?_ | refine a4 ?_ | refine a6 ?_ | refine s_loadBs ?_)
      refine RW.callV rfl (find_c hrm3 hs3 (by omega) (i := i)) rfl rfl ?_
      rintro _ _ rfl
      have hc := cntLt_le ms3 i
      have hins := insM_cnt ⟨i, a, a + t.length, true⟩ ms3
      dsimp only at hins
      generalize cntLt ms3 i = c at *
      repeat (first | refine a1 ?_ | refine a4 ?_ | refine a5 ?_ | refine a6 ?_ | refine s_fieldB ?_ | refine s_loadB ?_ | refine s_len ?_ | refine s_addI ?_)
      obtain ⟨N, hN⟩ : ∃ N : Nat, N = ms3.length + 1 := ⟨_, rfl⟩
      rw [show (ms3.length : Int) + 1 = (N : Int) by omega]
      refine RW.make rfl rfl rfl (by decide) (by omega) (by omega) rfl rfl (fun v17 hv17 => ?_)
      rw [show repL N (cellsL (.agg #[.int .i64 0, .int .i64 0, .int .i64 0, .bool false])) = mkCs ([] ++ List.replicate c mk0 ++ List.replicate (N - c) mk0) by
        rw [List.nil_append, ← repl_split, show c + (N - c) = N by omega]; exact repL_mk N]
      have hov := hv17.one1
      repeat (first | refine a1 ?_ | refine a4 ?_ | refine a5 ?_ | refine a6 ?_ | refine s_fieldB ?_ | refine s_loadB ?_ | refine s_sliceHi ?_)
      have hr1 : SliceRep H3 MarkL (slv vm3 4 0 c (capOf vm3)) (ms3.take c) := by
        have := hrm3.slv (lo := 0) (hi := c) (mx := capOf vm3) (s := 4) rfl (Nat.zero_le _) hc (by omega) (Nat.le_refl _)
        simpa using this
      refine RW.copyM [] (List.replicate c mk0) (ms3.take c) (List.replicate (N - c) mk0) (v := v17) (m := N) (by rw [List.length_nil, slv_self hv17]; rfl) rfl hr1 (by simp; omega) (by simp; omega) (by omega) rfl rfl ?_
      rw [show mkCs ([] ++ ms3.take c ++ List.replicate (N - c) mk0) = mkCs (ms3.take c ++ [mk0] ++ List.replicate (N - c - 1) mk0) by
        rw [List.nil_append, List.append_assoc]
        congr 2
        obtain ⟨q, hq⟩ : ∃ q, N - c = 1 + q := ⟨N - c - 1, by omega⟩
        rw [hq, repl_split, show 1 + q - 1 = q by omega]
        rfl]
      repeat (first | refine a1 ?_ | refine a4 ?_ | refine a5 ?_ | refine a6 ?_ | refine s_build ?_ | refine s_lenS ?_ | refine s_addI ?_ | refine s_index ?_)
      have htk : (ms3.take c).length = c := by simp; omega
      have hp1 := putMs (A := ms3.take c) (B := [mk0]) (C := [⟨i, a, a + t.length, true⟩]) (D := List.replicate (N - c - 1) mk0) rfl
      rw [htk] at hp1
      refine RW.storeR rfl rfl hp1 rfl rfl rfl ?_
      repeat (first | refine a4 ?_ | refine a5 ?_)
      have hA : (ms3.take c ++ [(⟨i, a, a + t.length, true⟩ : Mk)]).length = c + 1 := by simp; omega
      have hr2 : SliceRep H3 MarkL (slv vm3 4 c ms3.length (capOf vm3)) (ms3.drop c) := by
        have := hrm3.slv (lo := c) (hi := ms3.length) (mx := capOf vm3) (s := 4) rfl hc (Nat.le_refl _) hcap3 (Nat.le_refl _)
        rwa [List.take_of_length_le (by simp)] at this
      refine Runs.regionD _ ([.blk b13 36 [str s3, vm3]]) [] (fun x hx => List.mem_cons_of_mem _ hx) SubO.h (by kernel_rfl) ?_
      refine d1 0 2 ?_
      refine t_addI 2 ?_
      rw [show (c : Int) + 1 = ((c + 1 : Nat) : Int) from rfl]
      refine t_sliceLo 3 ?_
      refine t_fieldB 4 ?_
      refine t_loadB 5 ?_
      refine d2 6 ?_
      refine t_sliceLo 7 ?_
      rw [show mkCs (ms3.take c ++ [⟨i, a, a + t.length, true⟩] ++ List.replicate (N - c - 1) mk0) = mkCs ((ms3.take c ++ [⟨i, a, a + t.length, true⟩]) ++ List.replicate (N - c - 1) mk0 ++ []) by rw [List.append_nil]]
      refine DW.copyS 8 (ms3.take c ++ [⟨i, a, a + t.length, true⟩]) (List.replicate (N - c - 1) mk0) (ms3.drop c) [] (v := v17) (m := N) rfl (by kernel_rfl) (by rw [hA]; rfl) rfl hr2 (by simp; omega) (by simp; omega) (by omega) rfl rfl inferInstance inferInstance ?_
      rw [show mkCs ((ms3.take c ++ [⟨i, a, a + t.length, true⟩]) ++ ms3.drop c ++ []) = mkCs (insM ⟨i, a, a + t.length, true⟩ ms3) by rw [hins, List.append_nil, List.append_assoc]; rfl]
      have hNl : N = (insM ⟨i, a, a + t.length, true⟩ ms3).length := by rw [hins]; simp; omega
      refine DW.done (by kernel_rfl) ?_
      repeat (first | refine a1 ?_ | refine a4 ?_ | refine a5 ?_ | refine a6 ?_ | refine s_loadBs ?_ | refine s_fieldB ?_ | refine a9 ?_ | refine a10 ?_)
      refine Runs.freeze (H := H) v17 hM (fun H5 hle5 hs5 hc5 => ?_)
      have hr5 : SliceRep H5 MarkL v17 _ := SliceRep.of_row hs5 hNl (mkCs_rep H5 _) (Snap.le.refl _) hc5
      skip
      refine Runs.retCT Try.func94 Try.results94 rfl rfl (fun w hm => hR _ w _ H5 _ (by simp) (hle5) ?_ hm)
      exact ⟨_, rfl, _, rfl, hr5⟩
  · have hd : putD ⟨s, ms⟩ i a t = (⟨[], []⟩, 290) := by rw [putD, if_pos (.inl hp)]
    rw [hd] at hR
    rw [decide_eq_false hp]
    repeat (first | refine a1 ?_ | refine a4 ?_ | refine a5 ?_ | refine a6 ?_ | refine s_build ?_ | refine a7 ?_ | refine a9 ?_)
    refine Runs.retCT Try.func94 Try.results94 rfl rfl (fun w hm => hR _ w _ H _ (List.mem_cons_self ..) (Snap.le.refl _) ?_ hm)
    exact ⟨_, rfl, _, rfl, SliceRep.nil⟩
end Go.Proofs.Ytbiohkncdlhigaa
namespace Go.Proofs.Ytbiohkncdlhigaa
open Go Go.RowKit

structure Rw where
  k : Int
  a : Int
  l : Int
  t : Int
  tx : List Int
  deriving DecidableEq
def okRw (x : Rw) : Prop := isByte x.k ∧ isByte x.a ∧ isByte x.l ∧ isByte x.t ∧ ∀ b ∈ x.tx, isByte b
def RwL : Lay Rw where
  sz := 5
  rep H x c := ∃ v, c = [.int .u8 x.k, .int .u8 x.a, .int .u8 x.l, .int .u8 x.t, v] ∧ SliceRep H U8 v x.tx
  mono := by rintro H H' x c hle ⟨v, h1, h2⟩; exact ⟨v, h1, h2.mono hle⟩
  len := by rintro H x c ⟨v, rfl, _⟩; rfl
  one := by
    rintro H x c ⟨v, rfl, ⟨⟨A, cap, rfl, _⟩, _⟩⟩ u hu
    simp at hu
    rcases hu with rfl | rfl | rfl | rfl | rfl <;> rfl
theorem SliceRep.rw {H : Snap} {v : Value} {xs : List Rw} (h : SliceRep H RwL v xs) {k : Nat} {x : Rw} (hx : xs[k]? = some x) :
    ∃ vl, SliceRep H U8 vl x.tx ∧ ∀ j u, [.int .u8 x.k, .int .u8 x.a, .int .u8 x.l, .int .u8 x.t, vl][j]? = some u → H.cell (vat v (k * 5 + j)) = some u := by
  obtain ⟨c, ⟨vl, rfl, h1⟩, h2⟩ := h.at hx
  exact ⟨vl, h1, h2⟩

def chT (x : Int) : UInt8 := UInt8.ofNat (97 + x % 26).toNat
def wordT (l : List Int) : List UInt8 := if l = [] then [45] else (l.take 4).map chT
theorem chT_plain {x : Int} : 32 ≤ (chT x).toNat ∧ (chT x).toNat ≤ 126 := by
  unfold chT
  have h : (97 + x % 26).toNat < 256 := by omega
  rw [UInt8.toNat_ofNat_of_lt' (by simpa using h)]
  omega
theorem wordT_plain (l : List Int) : plainP (wordT l) := by
  unfold wordT
  split
  · intro b hb
    rw [List.mem_singleton] at hb
    subst hb
    decide
  · intro b hb
    obtain ⟨x, _, rfl⟩ := List.mem_map.1 hb
    exact chT_plain
theorem wordT_length (l : List Int) : 1 ≤ (wordT l).length ∧ (wordT l).length ≤ 4 := by
  unfold wordT
  split
  · simp
  · rename_i h
    have : l.length ≠ 0 := fun h0 => h (List.eq_nil_of_length_eq_zero h0)
    rw [List.length_map, List.length_take]
    omega
def editE (x : Rw) (n : Int) : Ed :=
  if x.k % 4 = 0 then ⟨1, x.a % (n + 1), 0, 0, wordT x.tx⟩
  else if x.k % 4 = 2 then ⟨3, x.a % (n + 1), x.l % (n - x.a % (n + 1) + 1) % 8, x.t % (n - x.l % (n - x.a % (n + 1) + 1) % 8 + 1), []⟩
  else ⟨1 + x.k % 4, x.a % (n + 1), x.l % (n - x.a % (n + 1) + 1) % 8, 0, []⟩
theorem editE_poss {x : Rw} (hx : okRw x) {n : Int} (hn : 0 ≤ n) : possE (editE x n) n := by
  obtain ⟨⟨h1, h2⟩, ⟨h3, h4⟩, ⟨h5, h6⟩, ⟨h7, h8⟩, _⟩ := hx
  have a1 := Int.emod_nonneg x.a (by omega : n + 1 ≠ 0)
  have a2 := Int.emod_lt_of_pos x.a (by omega : 0 < n + 1)
  have w1 := wordT_length x.tx
  have w2 := wordT_plain x.tx
  unfold editE
  generalize x.a % (n + 1) = A at *
  have b1 := Int.emod_nonneg x.l (by omega : n - A + 1 ≠ 0)
  have b2 := Int.emod_lt_of_pos x.l (by omega : 0 < n - A + 1)
  generalize x.l % (n - A + 1) = B at *
  have c1 := Int.emod_nonneg x.t (by omega : n - B % 8 + 1 ≠ 0)
  have c2 := Int.emod_lt_of_pos x.t (by omega : 0 < n - B % 8 + 1)
  generalize x.t % (n - B % 8 + 1) = C at *
  split
  · refine ⟨by dsimp only; omega, by dsimp only; omega, .inl ⟨rfl, fun h => ?_, by dsimp only; omega, w2⟩⟩
    dsimp only at h
    rw [h] at w1
    simp at w1
  · split
    · exact ⟨by dsimp only; omega, by dsimp only; omega, .inr (.inr ⟨rfl, by dsimp only; omega, by dsimp only; omega, by dsimp only; omega, by dsimp only; omega⟩)⟩
    · refine ⟨by dsimp only; omega, by dsimp only; omega, .inr (.inl ⟨by dsimp only; omega, by dsimp only; omega, by dsimp only; omega⟩)⟩
theorem editE_tx (x : Rw) (n : Int) : (editE x n).tx.length ≤ 4 := by
  unfold editE
  have w1 := wordT_length x.tx
  split
  · exact w1.2
  · split <;> simp

theorem word_c {H : Snap} {v : Value} {l : List Int} (hv : SliceRep H U8 v l) (hb : ∀ b ∈ l, isByte b) : Pure Try.prog 57 #[v] H (fun _ r => r = str (wordT l)) := by
  have hvs := hv.isSl
  have hba := hvs.bound
  refine Pure.intro Try.func57 rfl Try.ntmps57 rfl (fun E R hM hR => ?_)
  repeat (first | refine a1 ?_ | refine a4 ?_ | refine a5 ?_ | refine a6 ?_)
  refine Runs.loop (fun k : Nat => k ≤ l.length ∧ k ≤ 4) (fun k => l.length - k) (fun _ => [H]) (fun _ => []) (fun k => [(0, v), (3, str ((l.take k).map chT)), (4, .int .i64 (k : Int))]) 0 ⟨Nat.zero_le _, by decide⟩ (fun h => by
    refine Runs.weak (h) (by repeat (first | exact trivial | refine And.intro rfl ?_)) (fun x hx => List.mem_cons_of_mem _ (SubH.h x hx)) (by repeat (first | exact List.nil_sublist _ | exact List.Sublist.refl _ | refine List.Sublist.cons_cons _ ?_ | refine List.Sublist.cons _ ?_))) ?_
  rintro k ⟨hk, hk4⟩ ih
  repeat (first | refine a1 ?_ | refine a4 ?_ | refine a6 ?_ | refine s_len ?_)
  refine RW.dec 9 rfl (fun h1 => ?_) (fun h1 => ?_)
  · obtain ⟨x, hx⟩ : ∃ x, l[k]? = some x := ⟨_, List.getElem?_eq_getElem (by omega)⟩
    have hxb := hb x (List.mem_of_getElem? hx)
    unfold isByte at hxb
    repeat (first | refine a1 ?_ | refine a5 ?_)
    refine Runs.cond_d rfl (fun h2 => ?_) (fun h2 => ?_)
    · have htk : ((l.take k).map chT).length = k := by simp; omega
      have hx1 : H.cell (vat v (k * 1)) = some (.int .u8 x) := hv.flat1 hx rfl
      repeat (first | refine a1 ?_ | refine a4 ?_ | refine a6 ?_ | refine s_index ?_ | refine s_loadH ?_ | refine s_rem ?_ | refine s_addU8 ?_)
      refine RW.buildSlice rfl rfl rfl rfl rfl rfl rfl (fun v22 hv22 => ?_)
      refine RW.q (QV.convBytes (ns := [97 + x % 26]) rfl rfl) rfl rfl ?_
      rw [show ([97 + x % 26].map fun n => UInt8.ofNat n.toNat) = [chT x] from rfl]
      have hl1 : [chT x].length = 1 := rfl
      repeat (first | refine a1 ?_ | refine a4 ?_ | refine a5 ?_ | refine a6 ?_ | refine s_addS ?_ | refine s_addI ?_)
      have h := ih (k + 1) ⟨by omega, by omega⟩ (by omega)
      rw [take_snoc_of hx, List.map_append] at h
      refine Runs.weak (h) (by repeat (first | exact trivial | refine And.intro rfl ?_)) (fun x hx => List.mem_cons_of_mem _ (SubH.h x hx)) (by repeat (first | exact List.nil_sublist _ | exact List.Sublist.refl _ | refine List.Sublist.cons_cons _ ?_ | refine List.Sublist.cons _ ?_))
    · have hk : k = 4 := by omega
      subst hk
      have hn : wordT l = (l.take 4).map chT := by
        unfold wordT
        rw [if_neg]
        rintro rfl
        simp at hk
      have hn2 : (l.take 4).map chT ≠ [] := by
        rw [← hn]
        intro h0
        have := wordT_length l
        rw [h0] at this
        simp at this
      repeat (first | refine a1 ?_ | refine a4 ?_ | refine a5 ?_ | refine a6 ?_ | refine s_eqlS ?_)
      rw [decide_eq_false hn2]
      repeat (first | refine a1 ?_ | refine a4 ?_ | refine a5 ?_ | refine a6 ?_ | refine a8 ?_)
      refine Runs.ret1 Try.func57 Try.results57 rfl (fun w hm => hR _ w _ H _ (List.mem_cons_self ..) (Snap.le.refl _) ?_ hm)
      rw [hn]
  · have hk : k = l.length := by omega
    subst hk
    rw [List.take_length]
    by_cases hl : l = []
    · subst hl
      repeat (first | refine a1 ?_ | refine a3 ?_ | refine a4 ?_ | refine a5 ?_ | refine a6 ?_ | refine s_eqlS ?_ | refine a7 ?_ | refine a8 ?_)
      refine Runs.ret1 Try.func57 Try.results57 rfl (fun w hm => hR _ w _ H _ (List.mem_cons_self ..) (Snap.le.refl _) ?_ hm)
      rfl
    · have hn : wordT l = l.map chT := by
        unfold wordT
        rw [if_neg hl, List.take_of_length_le hk4]
      have hn2 : l.map chT ≠ [] := by simpa using hl
      repeat (first | refine a1 ?_ | refine a3 ?_ | refine a4 ?_ | refine a5 ?_ | refine a6 ?_ | refine s_eqlS ?_ | refine a8 ?_)
      rw [decide_eq_false hn2]
      repeat (first | refine a1 ?_ | refine a4 ?_ | refine a5 ?_ | refine a6 ?_ | refine a8 ?_)
      refine Runs.ret1 Try.func57 Try.results57 rfl (fun w hm => hR _ w _ H _ (List.mem_cons_self ..) (Snap.le.refl _) ?_ hm)
      rw [hn]

set_option maxHeartbeats 1000000 in
theorem edit_c {H : Snap} {v : Value} {x : Rw} {n : Int} (hv : SliceRep H U8 v x.tx) (hx : okRw x) (hn : 0 ≤ n ∧ n ≤ 100000) : Pure Try.prog 40 #[.agg #[.int .u8 x.k, .int .u8 x.a, .int .u8 x.l, .int .u8 x.t, v], .int .i64 n] H (fun _ r => r = edV (editE x n)) := by
  have hvs := hv.isSl
  have hvo := hvs.one1
  obtain ⟨⟨g1, g2⟩, ⟨g3, g4⟩, ⟨g5, g6⟩, ⟨g7, g8⟩, hb⟩ := hx
  refine Pure.intro Try.func40 rfl Try.ntmps40 rfl (fun E R hM hR => ?_)
  repeat (first | refine a4 ?_ | refine a6 ?_)
  refine RW.box rfl rfl rfl rfl (fun b2 => ?_)
  refine RW.alloc rfl rfl rfl (fun b4 => ?_)
  repeat (first | refine a4 ?_ | refine a5 ?_)
  refine Runs.regionD _ _ [13] (fun x hx => List.mem_cons_of_mem _ hx) (List.Sublist.refl _) (by kernel_rfl) ?_
  refine t_fieldB 0 ?_
  refine t_loadB 1 ?_
  refine t_rem 2 ?_
  refine t_convI 3 ?_
  refine t_addI 4 ?_
  refine t_fieldB 5 ?_
  refine t_loadB 6 ?_
  refine t_convI 7 ?_
  refine d2 8 ?_
  refine t_addI 9 ?_
  refine t_rem 10 ?_
  refine t_build 11 ?_
  refine DW.alloc 12 rfl (by kernel_rfl) rfl rfl rfl (fun b5 => ?_)
  refine DW.storeB 13 rfl (by kernel_rfl) rfl rfl rfl rfl (by first | rfl | (simp [allOne, cellsL, one1]; done) | (simp [allOne, cellsL, one1]; first | assumption | (refine ⟨?_, ?_⟩ <;> assumption))) rfl ?_
  refine DW.done (by kernel_rfl) ?_
  have p1 := Int.emod_nonneg x.a (by omega : n + 1 ≠ 0)
  have p2 := Int.emod_lt_of_pos x.a (by omega : 0 < n + 1)
  have w1 := wordT_length x.tx
  unfold editE at hR
  generalize x.a % (n + 1) = A at *
  repeat (first | refine a1 ?_ | refine a4 ?_ | refine a5 ?_ | refine a6 ?_ | refine s_fieldB ?_ | refine s_loadB ?_)
  refine Runs.cond_d rfl (fun hk1 => ?_) (fun hk1 => ?_)
  · rw [if_pos (by omega)] at hR
    repeat (first | refine a4 ?_ | refine a6 ?_ | refine s_fieldB ?_ | refine s_loadB ?_)
    refine RW.callV rfl (word_c hv hb) rfl rfl ?_
    rintro _ _ rfl
    repeat (first | refine a4 ?_ | refine a5 ?_ | refine a6 ?_ | refine s_fieldB ?_ | refine s_loadBs ?_ | refine a9 ?_)
    refine Runs.retC Try.func40 Try.results40 rfl (fun w hm => hR _ w _ H _ (List.mem_cons_self ..) (Snap.le.refl _) ?_ hm)
    rw [hk1]
  rw [if_neg (by omega)] at hR
  have b1 := Int.emod_nonneg x.l (by omega : n - A + 1 ≠ 0)
  have b2 := Int.emod_lt_of_pos x.l (by omega : 0 < n - A + 1)
  generalize hB : x.l % (n - A + 1) = B at *
  repeat (first | refine a1 ?_ | refine a4 ?_ | refine a5 ?_ | refine a6 ?_ | refine s_fieldB ?_ | refine s_loadB ?_ | refine s_rem ?_ | refine s_convI ?_ | refine s_addI ?_ | refine s_subI ?_ | refine a9 ?_)
  rw [hB]
  skip
  refine Runs.cond_d rfl (fun hk3 => ?_) (fun hk3 => ?_)
  · rw [if_pos (by omega)] at hR
    have c1 := Int.emod_nonneg x.t (by omega : n - B % 8 + 1 ≠ 0)
    have c2 := Int.emod_lt_of_pos x.t (by omega : 0 < n - B % 8 + 1)
    repeat (first | refine a1 ?_ | refine a4 ?_ | refine a5 ?_ | refine a6 ?_ | refine s_fieldB ?_ | refine s_loadB ?_ | refine s_rem ?_ | refine s_convI ?_ | refine s_addI ?_ | refine s_loadBs ?_ | refine s_subI ?_ | refine a9 ?_)
    refine Runs.retC Try.func40 Try.results40 rfl (fun w hm => hR _ w _ H _ (List.mem_cons_self ..) (Snap.le.refl _) ?_ hm)
    rw [hk3]
  · rw [if_neg (by omega)] at hR
    repeat (first | refine a4 ?_ | refine a5 ?_ | refine a6 ?_ | refine s_loadBs ?_ | refine a9 ?_)
    refine Runs.retC Try.func40 Try.results40 rfl (fun w hm => hR _ w _ H _ (List.mem_cons_self ..) (Snap.le.refl _) ?_ hm)
    rfl
end Go.Proofs.Ytbiohkncdlhigaa
namespace Go.Proofs.Ytbiohkncdlhigaa
open Go Go.RowKit

theorem insM_mem {x m : Mk} {ms : List Mk} (h : m ∈ insM x ms) : m = x ∨ m ∈ ms := by
  rw [insM_cnt] at h
  rcases List.mem_append.1 h with h | h
  · exact .inr (List.mem_of_mem_take h)
  · rcases List.mem_cons.1 h with h | h
    · exact .inl h
    · exact .inr (List.mem_of_mem_drop h)
theorem insM_length (x : Mk) (ms : List Mk) : (insM x ms).length = ms.length + 1 := by
  have := cntLt_le ms x.id
  rw [insM_cnt]
  simp
  omega
theorem insM_sorted {x : Mk} {ms : List Mk} (hs : ms.Pairwise (fun a b => a.id < b.id)) (hno : ¬ hasId ms x.id) : (insM x ms).Pairwise (fun a b => a.id < b.id) := by
  have hd : ∀ b ∈ ms.drop (cntLt ms x.id), x.id < b.id := fun b hb => by
    obtain ⟨j, hj⟩ := List.getElem?_of_mem hb
    rw [List.getElem?_drop] at hj
    exact (cntLt_lt hs hno hj).2 (by omega)
  have ht : ∀ b ∈ ms.take (cntLt ms x.id), b.id < x.id := fun b hb => by
    have e : ms.take (cntLt ms x.id) = ms.takeWhile (fun m : Mk => decide (m.id < x.id)) := (take_while (fun m : Mk => decide (m.id < x.id)) ms).1.symm
    rw [e] at hb
    have := tw_imp hb
    simpa using this
  rw [insM_cnt, List.pairwise_append]
  refine ⟨hs.sublist (List.take_sublist _ _), List.pairwise_cons.2 ⟨hd, hs.sublist (List.drop_sublist _ _)⟩, fun a ha b hb => ?_⟩
  rcases List.mem_cons.1 hb with rfl | hb
  · exact ht a ha
  · have := ht a ha
    have := hd b hb
    omega
theorem putD_ok {d : Dc} {i a : Int} {t : List UInt8} (h0 : (putD d i a t).2 = 0) : possE ⟨1, a, 0, 0, t⟩ d.tx.length ∧ 0 ≤ i ∧ ¬ hasId d.ms i ∧ (doD d ⟨1, a, 0, 0, t⟩).2 = 0 ∧ d.ms.length < 100 ∧ (putD d i a t).1 = ⟨(doD d ⟨1, a, 0, 0, t⟩).1.tx, insM ⟨i, a, a + t.length, true⟩ (doD d ⟨1, a, 0, 0, t⟩).1.ms⟩ := by
  unfold putD at *
  split at h0
  · simp at h0
  · rename_i h1
    split at h0
    · simp at h0
    · rename_i h2
      rw [if_neg h1, if_neg h2]
      exact ⟨Classical.not_not.1 fun h => h1 (.inl h), by omega, fun h => h1 (.inr (.inr h)), Classical.not_not.1 fun h => h2 (.inl h), by omega, rfl⟩
theorem doD_ok {d : Dc} {e : Ed} (h0 : (doD d e).2 = 0) : possE e d.tx.length ∧ (applyT d.tx e).length ≤ 400 ∧ (doD d e).1 = ⟨applyT d.tx e, carryL d.ms e⟩ := by
  unfold doD at *
  split at h0
  · rename_i hp
    split at h0
    · simp at h0
    · rename_i hl
      rw [if_pos hp, if_neg hl]
      exact ⟨hp, by omega, rfl⟩
  · simp at h0
theorem putD_valid {d : Dc} {i a : Int} {t : List UInt8} (h : validD d) (h0 : (putD d i a t).2 = 0) : validD (putD d i a t).1 ∧ ∀ m ∈ (putD d i a t).1.ms, m.id = i ∨ hasId d.ms m.id := by
  obtain ⟨hp, hi, hno, hd0, hl, he⟩ := putD_ok h0
  have hv := doD_valid h hd0
  obtain ⟨_, hbig, hde⟩ := doD_ok hd0
  have hpn := hp.nums
  have hal := (applyT_length hp).1 rfl
  rw [he]
  rw [hde] at hv ⊢
  obtain ⟨v1, v2, v3, v4, v5⟩ := hv
  have hno3 := carryL_noId (i := i) h.2.2.2.1 hp hno
  have hcl := carryL_length d.ms ⟨1, a, 0, 0, t⟩
  dsimp only at *
  refine ⟨⟨v1, v2, ?_, fun m hm => ?_, insM_sorted v5 hno3⟩, fun m hm => ?_⟩
  · dsimp only; rw [insM_length]; omega
  · rcases insM_mem hm with rfl | hm
    · unfold okM; dsimp only; omega
    · exact v4 m hm
  · rcases insM_mem hm with rfl | hm
    · exact .inl rfl
    · obtain ⟨y, hy, hye⟩ := List.mem_filterMap.1 hm
      split at hye
      · rename_i hc
        injection hye with hye
        refine .inr ⟨y, hy, ?_⟩
        rw [← hye, (carryM_ok (h.2.2.2.1 y hy) hp hc).2]
      · cases hye
def stepD (d : Dc) (x : Rw) (i : Int) : Dc :=
  if 128 ≤ x.k then (if (putD d i (x.a % ((d.tx.length : Int) + 1)) (wordT x.tx)).2 = 0 then (putD d i (x.a % ((d.tx.length : Int) + 1)) (wordT x.tx)).1 else d)
  else (if (doD d (editE x d.tx.length)).2 = 0 then (doD d (editE x d.tx.length)).1 else d)
theorem carryL_ids {ms : List Mk} {e : Ed} {s : List UInt8} (hm : ∀ m ∈ ms, okM s.length m) (h : possE e s.length) : ∀ m ∈ carryL ms e, hasId ms m.id := by
  intro m hmem
  obtain ⟨y, hy, hye⟩ := List.mem_filterMap.1 hmem
  split at hye
  · rename_i hc
    injection hye with hye
    refine ⟨y, hy, ?_⟩
    rw [← hye, (carryM_ok (hm y hy) h hc).2]
  · cases hye
theorem stepD_valid {d : Dc} {x : Rw} {i : Int} (h : validD d) : validD (stepD d x i) ∧ (∀ m ∈ (stepD d x i).ms, m.id = i ∨ hasId d.ms m.id) ∧ (stepD d x i).ms.length ≤ d.ms.length + 1 := by
  have h9 : ∀ m ∈ d.ms, m.id = i ∨ hasId d.ms m.id := fun m hm => .inr ⟨m, hm, rfl⟩
  unfold stepD
  split
  · split
    · rename_i h0
      refine ⟨(putD_valid h h0).1, (putD_valid h h0).2, ?_⟩
      obtain ⟨_, _, _, hd0, _, he⟩ := putD_ok h0
      obtain ⟨_, _, hde⟩ := doD_ok hd0
      rw [he, hde]
      dsimp only
      rw [insM_length]
      have := carryL_length d.ms ⟨1, x.a % ((d.tx.length : Int) + 1), 0, 0, wordT x.tx⟩
      omega
    · exact ⟨h, h9, by omega⟩
  · split
    · rename_i h0
      obtain ⟨hp, _, hde⟩ := doD_ok h0
      refine ⟨doD_valid h h0, ?_, ?_⟩
      · rw [hde]
        exact fun m hm => .inr (carryL_ids h.2.2.2.1 hp m hm)
      · rw [hde]
        have := carryL_length d.ms (editE x d.tx.length)
        dsimp only
        omega
    · exact ⟨h, h9, by omega⟩
def madeK (l : List Rw) : Nat → Dc
  | 0 => ⟨[], []⟩
  | k + 1 => match l[k]? with
    | some x => stepD (madeK l k) x k
    | none => madeK l k
theorem madeK_valid (l : List Rw) : ∀ k, validD (madeK l k) ∧ (∀ m ∈ (madeK l k).ms, m.id < k) ∧ (madeK l k).ms.length ≤ k
  | 0 => by
    refine ⟨⟨?_, ?_, ?_, ?_, ?_⟩, ?_, ?_⟩ <;> simp [madeK, plainP]
  | k + 1 => by
    obtain ⟨h1, h2, h3⟩ := madeK_valid l k
    unfold madeK
    split
    · rename_i x _
      obtain ⟨g1, g2, g3⟩ := stepD_valid (x := x) (i := k) h1
      refine ⟨g1, fun m hm => ?_, by omega⟩
      rcases g2 m hm with h | ⟨y, hy, he⟩
      · omega
      · have := h2 y hy
        omega
    · refine ⟨h1, fun m hm => ?_, by omega⟩
      have := h2 m hm
      omega

end Go.Proofs.Ytbiohkncdlhigaa

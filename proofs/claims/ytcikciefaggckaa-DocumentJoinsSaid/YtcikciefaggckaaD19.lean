/-
  The law DocumentJoins. Conditions: the raw data hold bytes.
-/
import Derived.Test.YtcikciefaggckaaD13
import Derived.Test.YtcikciefaggckaaDj
namespace Go.Proofs.Ytcikciefaggckaa
open Go Go.RowKit

section
variable {P : Program} {f : FuncId} {n : Nat} {E : Ent} {R : Value → World → Prop} {k : List Item} {Hs : List Snap} {O : List Own} {l : Env} {L : List Oper} {d : Nat} {ty : TypeId} {pos : String} {aft : Array Edge} {g : Option (Nat × Bool)}
  {Hs0 : List Snap} {O0 : List Own} {lt : List Nat} {fuel : Nat} {listed : Array Bool} {j dj : Nat} {T : TypeId} {cs : List Value}
/-- A second allocation beside the floating one. -/
theorem DWf.alloc (i : Nat) {zj : Value} [tj : TZero P T zj] {tyj : TypeId} {posj : String} {aftj : Array Edge} (hij : Nat.beq i j = false) (hj : opAt L j = some ⟨some dj, .alloc T, tyj, posj, aftj, none⟩) (hc : cellsO zj = some cs)
    (hrd : (Region.ready .any L.toArray listed == [i, j] || Region.ready .any L.toArray listed == [j, i]) = true) (hrd2 : (Region.ready .any L.toArray (listed.setIfInBounds j true) == [i]) = true)
    (hdj : Nat.blt dj n = true) (hnj : (efind l dj).isNone = true) {T2 : TypeId} {z2 : Value} {cs2 : List Value} [t2 : TZero P T2 z2] (hi : opAt L i = some ⟨some d, .alloc T2, ty, pos, aft, g⟩) (hg : guardIs L l g = some true) (hd : Nat.blt d n = true) (hc2 : cellsO z2 = some cs2)
    (h : ∀ b', DWf P f n E R L Hs0 O0 lt j dj T cs fuel (listed.setIfInBounds i true) k Hs (.blk b' T2 cs2 :: O) ((d, .pointer (some ⟨b', 0, none⟩)) :: l)) : DWf P f n E R L Hs0 O0 lt j dj T cs (fuel + 1) listed k Hs O l := by
  refine DWf.step i (post := fun v Hs' O1 => Hs' = Hs ∧ ∃ b, v = .pointer (some ⟨b, 0, none⟩) ∧ O1 = .blk b T2 (cellsL z2) :: O) hij hi hj hc hrd hrd2 HV.alloc (fun b o ho w hm a ha next Q hn => ?_) hg hd hdj hnj ?_ ?_
  · refine (HV.alloc (E := E) (Hs := Hs) (O := O ++ [.blk b T cs]) (i := t2)) o ho w hm a ha next Q ?_
    rintro v w' Hs' O' ⟨rfl, b', rfl, rfl⟩ hm'
    exact hn _ w' Hs' _ ⟨_, rfl, rfl, b', rfl, rfl⟩ hm'
  · rintro v Hs' O' ⟨rfl, b', rfl, rfl⟩ hsub w hm
    exact hsub w (hm.sub (fun x hx => List.mem_cons_of_mem _ hx) (List.sublist_cons_self _ _))
  · rintro v Hs' O' ⟨rfl, b', rfl, rfl⟩
    rw [cellsO_eq hc2]
    exact h b'
/-- A store into what is not held throughout. -/
theorem DW.storeBS (i : Nat) {T T' : TypeId} {x y : Operand} {b o : Nat} {v : Value} {cs cs' : List Value} {O' : List Own} (hi : opAt L i = some ⟨none, .store T x y, ty, pos, aft, g⟩) (hrd : (Region.ready .any L.toArray listed == [i]) = true) (hx : opv l x = some (.pointer (some ⟨b, o, none⟩))) (hy : opv l y = some v) [q : GetBlk O b T' cs] (hp : putAll cs o (cellsL v) = some cs') (h1 : allOne (cellsL v) = true) [s : TSz P T (cellsL v).length] [u : PutBlk O b T' cs cs' O'] (hg : guardIs L l g = some true) (hsub : SubO O0 O') (hsubH : SubH Hs0 Hs)
    (h : DW P f n E R L Hs0 O0 lt true fuel (listed.setIfInBounds i true) k Hs O' l) : DW P f n E R L Hs0 O0 lt true (fuel + 1) listed k Hs O l :=
  DW.h0 i true hi hrd (HV.storeB hx hy hp h1) hg (by simp) (by rintro v Hs' O' ⟨rfl, rfl⟩; exact ⟨fun _ w hm => hm.sub (fun x hx => List.mem_cons_of_mem _ (hsubH.h x hx)) hsub.h, h⟩)
end
theorem editE_k2 {x : Rw} {n : Int} : (editE ⟨x.k % 2, x.a, x.l, x.t, x.tx⟩ n).k = 1 ∨ (editE ⟨x.k % 2, x.a, x.l, x.t, x.tx⟩ n).k = 2 := by
  unfold editE
  dsimp only
  split
  · exact .inl rfl
  · split
    · omega
    · dsimp only; omega
set_option maxHeartbeats 4000000 in
theorem joins_c {H : Snap} {v vx : Value} {l : List Rw} {x : Rw} {K : Int} (hv : SliceRep H RwL v l) (hb : ∀ x ∈ l, okRw x) (hvx : SliceRep H U8 vx x.tx) (hx : okRw x) (hK : isByte K) :
    Pure Try.prog 8 #[v, .agg #[.int .u8 x.k, .int .u8 x.a, .int .u8 x.l, .int .u8 x.t, vx], .int .u8 K] H (fun _ r => r = .bool true) := by
  have hval := (madeK_valid l (min l.length 14)).1
  have hox := hvx.isSl.one1
  have hx2 : okRw ⟨x.k % 2, x.a, x.l, x.t, x.tx⟩ := by
    obtain ⟨⟨g1, g2⟩, g3⟩ := hx
    exact ⟨⟨by dsimp only; omega, by dsimp only; omega⟩, g3⟩
  unfold isByte at hK
  have hxk := hx.1
  unfold isByte at hxk
  refine Pure.intro Try.func8 rfl Try.ntmps8 rfl (fun E R hM hR => ?_)
  repeat (first | refine a1 ?_ | refine a3 ?_ | refine a4 ?_ | refine a5 ?_ | refine a6 ?_ | refine s_fieldB ?_ | refine s_fieldV ?_ | refine s_loadB ?_ | refine s_loadH ?_ | refine s_loadR ?_ | refine s_rem ?_ | refine s_loadBs ?_ | refine s_loadHs ?_ | refine s_lenS ?_ | refine s_convI ?_ | refine s_addI ?_ | refine s_subI ?_ | refine s_sliceSHi ?_ | refine s_sliceSLo ?_ | refine a7 ?_ | refine a8 ?_ | refine a9 ?_ | refine RW.storeR rfl rfl rfl rfl (by first | rfl | (simp [allOne, cellsL, one1]; done) | (simp [allOne, cellsL, one1]; first | assumption | (refine ⟨?_, ?_⟩ <;> assumption))) rfl ?_ | refine a10 ?_ | refine RW.storeR1 rfl rfl (by first | rfl | exact IsSl.one1 (by assumption) | exact IsSl.one1 (SliceRep.isSl (by assumption))) rfl rfl ?_)
  refine RW.box rfl rfl rfl rfl (fun b4 => ?_)
  repeat (first | refine a1 ?_ | refine a3 ?_ | refine a4 ?_ | refine a5 ?_ | refine a6 ?_ | refine s_fieldB ?_ | refine s_fieldV ?_ | refine s_loadB ?_ | refine s_loadH ?_ | refine s_loadR ?_ | refine s_rem ?_ | refine s_loadBs ?_ | refine s_loadHs ?_ | refine s_lenS ?_ | refine s_convI ?_ | refine s_addI ?_ | refine s_subI ?_ | refine s_sliceSHi ?_ | refine s_sliceSLo ?_ | refine a7 ?_ | refine a8 ?_ | refine a9 ?_ | refine RW.storeR rfl rfl rfl rfl (by first | rfl | (simp [allOne, cellsL, one1]; done) | (simp [allOne, cellsL, one1]; first | assumption | (refine ⟨?_, ?_⟩ <;> assumption))) rfl ?_ | refine a10 ?_ | refine RW.storeR1 rfl rfl (by first | rfl | exact IsSl.one1 (by assumption) | exact IsSl.one1 (SliceRep.isSl (by assumption))) rfl rfl ?_)
  refine RW.callV rfl (sanity_c (H := H)) rfl rfl ?_
  rintro _ _ rfl
  repeat (first | refine a1 ?_ | refine a3 ?_ | refine a4 ?_ | refine a5 ?_ | refine a6 ?_ | refine s_fieldB ?_ | refine s_fieldV ?_ | refine s_loadB ?_ | refine s_loadH ?_ | refine s_loadR ?_ | refine s_rem ?_ | refine s_loadBs ?_ | refine s_loadHs ?_ | refine s_lenS ?_ | refine s_convI ?_ | refine s_addI ?_ | refine s_subI ?_ | refine s_sliceSHi ?_ | refine s_sliceSLo ?_ | refine a7 ?_ | refine a8 ?_ | refine a9 ?_ | refine RW.storeR rfl rfl rfl rfl (by first | rfl | (simp [allOne, cellsL, one1]; done) | (simp [allOne, cellsL, one1]; first | assumption | (refine ⟨?_, ?_⟩ <;> assumption))) rfl ?_ | refine a10 ?_ | refine RW.storeR1 rfl rfl (by first | rfl | exact IsSl.one1 (by assumption) | exact IsSl.one1 (SliceRep.isSl (by assumption))) rfl rfl ?_)
  refine RW.call rfl (made_c (n := 14) hv hb (by decide)) rfl rfl ?_
  rintro _ H2 ⟨vm2, hv2, hr2⟩ hle2
  subst hv2
  generalize madeK l (min l.length 14) = D at *
  obtain ⟨s, ms⟩ := D
  have hval2 := hval
  obtain ⟨v1, v2, v3, v4, v5⟩ := hval2
  have hr2 : SliceRep H2 MarkL vm2 ms := hr2
  have ho2 := hr2.isSl.one1
  dsimp only at *
  refine RW.alloc rfl rfl rfl (fun b8 => ?_)
  repeat (first | refine a1 ?_ | refine a3 ?_ | refine a4 ?_ | refine a5 ?_ | refine a6 ?_ | refine s_fieldB ?_ | refine s_fieldV ?_ | refine s_loadB ?_ | refine s_loadH ?_ | refine s_loadR ?_ | refine s_rem ?_ | refine s_loadBs ?_ | refine s_loadHs ?_ | refine s_lenS ?_ | refine s_convI ?_ | refine s_addI ?_ | refine s_subI ?_ | refine s_sliceSHi ?_ | refine s_sliceSLo ?_ | refine a7 ?_ | refine a8 ?_ | refine a9 ?_ | refine RW.storeR rfl rfl rfl rfl (by first | rfl | (simp [allOne, cellsL, one1]; done) | (simp [allOne, cellsL, one1]; first | assumption | (refine ⟨?_, ?_⟩ <;> assumption))) rfl ?_ | refine a10 ?_ | refine RW.storeR1 rfl rfl (by first | rfl | exact IsSl.one1 (by assumption) | exact IsSl.one1 (SliceRep.isSl (by assumption))) rfl rfl ?_)
  have hp := editE_poss hx2 (n := s.length) (by omega)
  have htx := editE_tx ⟨x.k % 2, x.a, x.l, x.t, x.tx⟩ s.length
  have hec := edit_c (x := ⟨x.k % 2, x.a, x.l, x.t, x.tx⟩) (n := s.length) hvx hx2 (by omega)
  have hk2 := editE_k2 (x := x) (n := s.length)
  generalize editE ⟨x.k % 2, x.a, x.l, x.t, x.tx⟩ s.length = e at *
  have hpn := hp.nums
  obtain ⟨ek, ea, el, et, ex⟩ := e
  have hec : Pure Try.prog 24 #[.agg #[.int .u8 (x.k % 2), .int .u8 x.a, .int .u8 x.l, .int .u8 x.t, vx], .int .i64 (s.length : Int)] H (fun _ r => r = .agg #[.int .i64 ek, .int .i64 ea, .int .i64 el, .int .i64 et, str ex]) := hec
  dsimp only at hpn htx hk2
  refine RW.callV rfl (hec) rfl rfl ?_
  rintro _ _ rfl
  refine RW.alloc rfl rfl rfl (fun b9 => ?_)
  repeat (first | refine a1 ?_ | refine a3 ?_ | refine a4 ?_ | refine a5 ?_ | refine a6 ?_ | refine s_fieldB ?_ | refine s_fieldV ?_ | refine s_loadB ?_ | refine s_loadH ?_ | refine s_loadR ?_ | refine s_rem ?_ | refine s_loadBs ?_ | refine s_loadHs ?_ | refine s_lenS ?_ | refine s_convI ?_ | refine s_addI ?_ | refine s_subI ?_ | refine s_sliceSHi ?_ | refine s_sliceSLo ?_ | refine a7 ?_ | refine a8 ?_ | refine a9 ?_ | refine RW.storeR rfl rfl rfl rfl (by first | rfl | (simp [allOne, cellsL, one1]; done) | (simp [allOne, cellsL, one1]; first | assumption | (refine ⟨?_, ?_⟩ <;> assumption))) rfl ?_ | refine a10 ?_ | refine RW.storeR1 rfl rfl (by first | rfl | exact IsSl.one1 (by assumption) | exact IsSl.one1 (SliceRep.isSl (by assumption))) rfl rfl ?_)
  refine RW.call rfl (do_c (e := ⟨ek, ea, el, et, ex⟩) hr2 (by omega) (by dsimp only; omega) v4 (by omega)) rfl rfl ?_
  rintro _ H3 ⟨_, rfl, hd3⟩ hle3
  by_cases hbig : 400 < (applyT s ⟨ek, ea, el, et, ex⟩).length
  · have hdd : doD ⟨s, ms⟩ ⟨ek, ea, el, et, ex⟩ = (⟨[], []⟩, 2) := by rw [doD, if_pos hp, if_pos hbig]
    rw [hdd] at hd3 ⊢
    obtain ⟨vm3, rfl, hr3⟩ := hd3
    have ho3 := hr3.isSl.one1
    dsimp only at hr3 ⊢
    repeat (first | refine a1 ?_ | refine a3 ?_ | refine a4 ?_ | refine a5 ?_ | refine a6 ?_ | refine s_fieldB ?_ | refine s_fieldV ?_ | refine s_loadB ?_ | refine s_loadH ?_ | refine s_loadR ?_ | refine s_rem ?_ | refine s_loadBs ?_ | refine s_loadHs ?_ | refine s_lenS ?_ | refine s_convI ?_ | refine s_addI ?_ | refine s_subI ?_ | refine s_sliceSHi ?_ | refine s_sliceSLo ?_ | refine a7 ?_ | refine a8 ?_ | refine a9 ?_ | refine RW.storeR rfl rfl rfl rfl (by first | rfl | (simp [allOne, cellsL, one1]; done) | (simp [allOne, cellsL, one1]; first | assumption | (refine ⟨?_, ?_⟩ <;> assumption))) rfl ?_ | refine a10 ?_ | refine RW.storeR1 rfl rfl (by first | rfl | exact IsSl.one1 (by assumption) | exact IsSl.one1 (SliceRep.isSl (by assumption))) rfl rfl ?_)
    refine RW.alloc rfl rfl rfl (fun b10 => ?_)
    repeat (first | refine a1 ?_ | refine a3 ?_ | refine a4 ?_ | refine a5 ?_ | refine a6 ?_ | refine s_fieldB ?_ | refine s_fieldV ?_ | refine s_loadB ?_ | refine s_loadH ?_ | refine s_loadR ?_ | refine s_rem ?_ | refine s_loadBs ?_ | refine s_loadHs ?_ | refine s_lenS ?_ | refine s_convI ?_ | refine s_addI ?_ | refine s_subI ?_ | refine s_sliceSHi ?_ | refine s_sliceSLo ?_ | refine a7 ?_ | refine a8 ?_ | refine a9 ?_ | refine RW.storeR rfl rfl rfl rfl (by first | rfl | (simp [allOne, cellsL, one1]; done) | (simp [allOne, cellsL, one1]; first | assumption | (refine ⟨?_, ?_⟩ <;> assumption))) rfl ?_ | refine a10 ?_ | refine RW.storeR1 rfl rfl (by first | rfl | exact IsSl.one1 (by assumption) | exact IsSl.one1 (SliceRep.isSl (by assumption))) rfl rfl ?_)
    refine Runs.ret1 Try.func8 Try.results8 rfl (fun w hm => hR _ w _ H _ (List.mem_cons_self ..) (Snap.le.refl _) ?_ hm)
    rfl
  have hdd : doD ⟨s, ms⟩ ⟨ek, ea, el, et, ex⟩ = (⟨applyT s ⟨ek, ea, el, et, ex⟩, carryL ms ⟨ek, ea, el, et, ex⟩⟩, 0) := by rw [doD, if_pos hp, if_neg hbig]
  rw [hdd] at hd3 ⊢
  clear hdd
  obtain ⟨vm3, rfl, hr3⟩ := hd3
  have ho3 := hr3.isSl.one1
  dsimp only at hr3 ⊢
  obtain ⟨a, rfl⟩ : ∃ a : Nat, ea = (a : Int) := ⟨ea.toNat, by omega⟩
  repeat (first | refine a1 ?_ | refine a3 ?_ | refine a4 ?_ | refine a5 ?_ | refine a6 ?_ | refine s_fieldB ?_ | refine s_fieldV ?_ | refine s_loadB ?_ | refine s_loadH ?_ | refine s_loadR ?_ | refine s_rem ?_ | refine s_loadBs ?_ | refine s_loadHs ?_ | refine s_lenS ?_ | refine s_convI ?_ | refine s_addI ?_ | refine s_subI ?_ | refine s_sliceSHi ?_ | refine s_sliceSLo ?_ | refine a7 ?_ | refine a8 ?_ | refine a9 ?_ | refine RW.storeR rfl rfl rfl rfl (by first | rfl | (simp [allOne, cellsL, one1]; done) | (simp [allOne, cellsL, one1]; first | assumption | (refine ⟨?_, ?_⟩ <;> assumption))) rfl ?_ | refine a10 ?_ | refine RW.storeR1 rfl rfl (by first | rfl | exact IsSl.one1 (by assumption) | exact IsSl.one1 (SliceRep.isSl (by assumption))) rfl rfl ?_)
  refine RW.alloc rfl rfl rfl (fun b10 => ?_)
  repeat (first | refine a1 ?_ | refine a3 ?_ | refine a4 ?_ | refine a5 ?_ | refine a6 ?_ | refine s_fieldB ?_ | refine s_fieldV ?_ | refine s_loadB ?_ | refine s_loadH ?_ | refine s_loadR ?_ | refine s_rem ?_ | refine s_loadBs ?_ | refine s_loadHs ?_ | refine s_lenS ?_ | refine s_convI ?_ | refine s_addI ?_ | refine s_subI ?_ | refine s_sliceSHi ?_ | refine s_sliceSLo ?_ | refine a7 ?_ | refine a8 ?_ | refine a9 ?_ | refine RW.storeR rfl rfl rfl rfl (by first | rfl | (simp [allOne, cellsL, one1]; done) | (simp [allOne, cellsL, one1]; first | assumption | (refine ⟨?_, ?_⟩ <;> assumption))) rfl ?_ | refine a10 ?_ | refine RW.storeR1 rfl rfl (by first | rfl | exact IsSl.one1 (by assumption) | exact IsSl.one1 (SliceRep.isSl (by assumption))) rfl rfl ?_)
  refine Runs.regionD _ ([.blk b9 24 [.int .i64 ek, .int .i64 (a : Int), .int .i64 el, .int .i64 et, str ex]]) [] (fun x hx => List.mem_cons_of_mem _ hx) SubO.h (by kernel_rfl) ?_
  (first | refine t_loadBs 0 ?_ | refine t_loadHs 0 ?_)
  (first | refine t_loadBs 1 ?_ | refine t_loadHs 1 ?_)
  refine DW.float 2 rfl rfl ?_
  refine DWf.alloc 3 rfl rfl rfl (by kernel_rfl) (by kernel_rfl) rfl rfl rfl rfl rfl rfl (fun b13 => ?_)
  refine DWf.take rfl (by kernel_rfl) rfl rfl rfl (fun b12 => ?_)
  simp only [List.cons_append, List.nil_append]
  refine DW.storeBS 4 rfl (by kernel_rfl) rfl rfl rfl rfl rfl inferInstance inferInstance ?_
  refine DW.storeBS 5 rfl (by kernel_rfl) rfl rfl rfl rfl rfl inferInstance inferInstance ?_
  refine DW.done (by kernel_rfl) ?_
  repeat (first | refine a1 ?_ | refine a3 ?_ | refine a4 ?_ | refine a5 ?_ | refine a6 ?_ | refine s_fieldB ?_ | refine s_fieldV ?_ | refine s_loadB ?_ | refine s_loadH ?_ | refine s_loadR ?_ | refine s_rem ?_ | refine s_loadBs ?_ | refine s_loadHs ?_ | refine s_lenS ?_ | refine s_convI ?_ | refine s_addI ?_ | refine s_subI ?_ | refine s_sliceSHi ?_ | refine s_sliceSLo ?_ | refine a7 ?_ | refine a8 ?_ | refine a9 ?_ | refine RW.storeR rfl rfl rfl rfl (by first | rfl | (simp [allOne, cellsL, one1]; done) | (simp [allOne, cellsL, one1]; first | assumption | (refine ⟨?_, ?_⟩ <;> assumption))) rfl ?_ | refine a10 ?_ | refine RW.storeR1 rfl rfl (by first | rfl | exact IsSl.one1 (by assumption) | exact IsSl.one1 (SliceRep.isSl (by assumption))) rfl rfl ?_)
  rcases hk2 with hk2 | hk2
  · subst hk2
    repeat (first | refine a1 ?_ | refine a3 ?_ | refine a4 ?_ | refine a5 ?_ | refine a6 ?_ | refine s_fieldB ?_ | refine s_fieldV ?_ | refine s_loadB ?_ | refine s_loadH ?_ | refine s_loadR ?_ | refine s_rem ?_ | refine s_loadBs ?_ | refine s_loadHs ?_ | refine s_lenS ?_ | refine s_convI ?_ | refine s_addI ?_ | refine s_subI ?_ | refine s_sliceSHi ?_ | refine s_sliceSLo ?_ | refine a7 ?_ | refine a8 ?_ | refine a9 ?_ | refine RW.storeR rfl rfl rfl rfl (by first | rfl | (simp [allOne, cellsL, one1]; done) | (simp [allOne, cellsL, one1]; first | assumption | (refine ⟨?_, ?_⟩ <;> assumption))) rfl ?_ | refine a10 ?_ | refine RW.storeR1 rfl rfl (by first | rfl | exact IsSl.one1 (by assumption) | exact IsSl.one1 (SliceRep.isSl (by assumption))) rfl rfl ?_)
    refine Runs.cond_d rfl (fun hsh => ?_) (fun hsh => ?_)
    · repeat (first | refine a1 ?_ | refine a3 ?_ | refine a4 ?_ | refine a5 ?_ | refine a6 ?_ | refine s_fieldB ?_ | refine s_fieldV ?_ | refine s_loadB ?_ | refine s_loadH ?_ | refine s_loadR ?_ | refine s_rem ?_ | refine s_loadBs ?_ | refine s_loadHs ?_ | refine s_lenS ?_ | refine s_convI ?_ | refine s_addI ?_ | refine s_subI ?_ | refine s_sliceSHi ?_ | refine s_sliceSLo ?_ | refine a7 ?_ | refine a8 ?_ | refine a9 ?_ | refine RW.storeR rfl rfl rfl rfl (by first | rfl | (simp [allOne, cellsL, one1]; done) | (simp [allOne, cellsL, one1]; first | assumption | (refine ⟨?_, ?_⟩ <;> assumption))) rfl ?_ | refine a10 ?_ | refine RW.storeR1 rfl rfl (by first | rfl | exact IsSl.one1 (by assumption) | exact IsSl.one1 (SliceRep.isSl (by assumption))) rfl rfl ?_)
      refine Runs.ret1 Try.func8 Try.results8 rfl (fun w hm => hR _ w _ H _ (List.mem_cons_self ..) (Snap.le.refl _) ?_ hm)
      rfl
    obtain ⟨q, hq⟩ : ∃ q : Nat, K % ((ex.length : Int) - 1) = (q : Int) := ⟨(K % ((ex.length : Int) - 1)).toNat, by have := Int.emod_nonneg K (by omega : (ex.length : Int) - 1 ≠ 0); omega⟩
    have hq2 : (q : Int) < (ex.length : Int) - 1 := by have := Int.emod_lt_of_pos K (by omega : 0 < (ex.length : Int) - 1); omega
    repeat (first | refine a1 ?_ | refine a3 ?_ | refine a4 ?_ | refine a5 ?_ | refine a6 ?_ | refine s_fieldB ?_ | refine s_fieldV ?_ | refine s_loadB ?_ | refine s_loadH ?_ | refine s_loadR ?_ | refine s_rem ?_ | refine s_loadBs ?_ | refine s_loadHs ?_ | refine s_lenS ?_ | refine s_convI ?_ | refine s_addI ?_ | refine s_subI ?_ | refine s_sliceSHi ?_ | refine s_sliceSLo ?_ | refine a7 ?_ | refine a8 ?_ | refine a9 ?_ | refine RW.storeR rfl rfl rfl rfl (by first | rfl | (simp [allOne, cellsL, one1]; done) | (simp [allOne, cellsL, one1]; first | assumption | (refine ⟨?_, ?_⟩ <;> assumption))) rfl ?_ | refine a10 ?_ | refine RW.storeR1 rfl rfl (by first | rfl | exact IsSl.one1 (by assumption) | exact IsSl.one1 (SliceRep.isSl (by assumption))) rfl rfl ?_)
    rw [hq]
    rw [show (1 : Int) + (q : Int) = ((q + 1 : Nat) : Int) by omega]
    have hpl : plainP ex := by
      rcases hp.2.2 with h | h | h
      · exact h.2.2.2
      · have := h.1; dsimp only at this; omega
      · have := h.1; dsimp only at this; omega
    have ht1 : (ex.take (q + 1)).length = q + 1 := by simp; omega
    have ht2 : (ex.drop (q + 1)).length = ex.length - (q + 1) := by simp
    have hp1 : possE ⟨1, a, el, et, ex.take (q + 1)⟩ s.length := ⟨by dsimp only; omega, by dsimp only; omega, .inl ⟨rfl, fun h => by dsimp only at h; rw [h] at ht1; simp at ht1, by dsimp only; omega, plain_take hpl _⟩⟩
    have hA1 : applyT s ⟨1, a, el, et, ex.take (q + 1)⟩ = insT s a (ex.take (q + 1)) := by rw [applyT_ins rfl]; dsimp only; rw [Int.toNat_natCast]
    have hA : applyT s ⟨1, a, el, et, ex⟩ = insT s a ex := by rw [applyT_ins rfl]; dsimp only; rw [Int.toNat_natCast]
    have hL1 := insT_length (s := s) (t := ex.take (q + 1)) (i := a) (by omega)
    have hL := insT_length (s := s) (t := ex) (i := a) (by omega)
    rw [hA] at hbig
    have hp2 : possE ⟨1, a + ((q + 1 : Nat) : Int), el, et, ex.drop (q + 1)⟩ (applyT s ⟨1, a, el, et, ex.take (q + 1)⟩).length := by
      rw [hA1]
      exact ⟨by dsimp only; omega, by dsimp only; omega, .inl ⟨rfl, fun h => by dsimp only at h; rw [h] at ht2; simp at ht2; omega, by dsimp only; omega, plain_drop hpl _⟩⟩
    have hT2 : applyT (applyT s ⟨1, a, el, et, ex.take (q + 1)⟩) ⟨1, a + ((q + 1 : Nat) : Int), el, et, ex.drop (q + 1)⟩ = applyT s ⟨1, a, el, et, ex⟩ := by
      rw [hA1, hA, applyT_ins rfl]
      dsimp only
      rw [show ((a : Int) + ((q + 1 : Nat) : Int)).toNat = a + (ex.take (q + 1)).length by omega, ins_ins (by omega), List.take_append_drop]
    have hM : carryL (carryL ms ⟨1, a, el, et, ex.take (q + 1)⟩) ⟨1, a + ((q + 1 : Nat) : Int), el, et, ex.drop (q + 1)⟩ = carryL ms ⟨1, a, el, et, ex⟩ := carryL_comp fun m _ => by
      have := comp_ins (m := m) (a := a) (l1 := el) (l2 := el) (t1 := et) (t2 := et) (l := el) (t := et) (x1 := ex.take (q + 1)) (x2 := ex.drop (q + 1))
      rwa [List.take_append_drop, ht1] at this
    have hsz : (applyT s ⟨1, a, el, et, ex.take (q + 1)⟩).length = s.length + (q + 1) := by rw [hA1, hL1, ht1]
    rw [← hA] at hbig
    have hszz : (applyT s ⟨1, a, el, et, ex⟩).length = s.length + ex.length := by rw [hA, hL]
    repeat (first | refine a1 ?_ | refine a3 ?_ | refine a4 ?_ | refine a5 ?_ | refine a6 ?_ | refine s_fieldB ?_ | refine s_fieldV ?_ | refine s_loadB ?_ | refine s_loadH ?_ | refine s_loadR ?_ | refine s_rem ?_ | refine s_loadBs ?_ | refine s_loadHs ?_ | refine s_lenS ?_ | refine s_convI ?_ | refine s_addI ?_ | refine s_subI ?_ | refine s_sliceSHi ?_ | refine s_sliceSLo ?_ | refine a7 ?_ | refine a8 ?_ | refine a9 ?_ | refine RW.storeR rfl rfl rfl rfl (by first | rfl | (simp [allOne, cellsL, one1]; done) | (simp [allOne, cellsL, one1]; first | assumption | (refine ⟨?_, ?_⟩ <;> assumption))) rfl ?_ | refine a10 ?_ | refine RW.storeR1 rfl rfl (by first | rfl | exact IsSl.one1 (by assumption) | exact IsSl.one1 (SliceRep.isSl (by assumption))) rfl rfl ?_)
    refine Runs.regionD _ ([.blk b9 24 [.int .i64 1, .int .i64 (a : Int), .int .i64 el, .int .i64 et, str ex]]) [] (fun x hx => List.mem_cons_of_mem _ hx) SubO.h (by kernel_rfl) ?_
    (first | refine t_fieldB 0 ?_ | refine t_fieldV 0 ?_)
    (first | refine t_loadB 1 ?_ | refine t_loadH 1 ?_ | refine t_loadR 1 ?_)
    refine d2 2 ?_
    refine t_sliceSHi 3 ?_
    (first | refine t_fieldB 4 ?_ | refine t_fieldV 4 ?_)
    (first | refine t_loadB 5 ?_ | refine t_loadH 5 ?_ | refine t_loadR 5 ?_)
    refine d2 6 ?_
    refine t_sliceSLo 7 ?_
    (first | refine t_fieldB 8 ?_ | refine t_fieldV 8 ?_)
    (first | refine t_loadB 9 ?_ | refine t_loadH 9 ?_ | refine t_loadR 9 ?_)
    refine d2 10 ?_
    refine t_addI 11 ?_
    (first | refine t_fieldB 12 ?_ | refine t_fieldV 12 ?_)
    refine DW.storeBS 13 rfl (by kernel_rfl) rfl rfl rfl rfl rfl inferInstance inferInstance ?_
    (first | refine t_fieldB 14 ?_ | refine t_fieldV 14 ?_)
    refine DW.storeBS 15 rfl (by kernel_rfl) rfl rfl rfl rfl rfl inferInstance inferInstance ?_
    (first | refine t_fieldB 16 ?_ | refine t_fieldV 16 ?_)
    refine DW.storeBS 17 rfl (by kernel_rfl) rfl rfl rfl rfl rfl inferInstance inferInstance ?_
    refine DW.done (by kernel_rfl) ?_
    repeat (first | refine a1 ?_ | refine a3 ?_ | refine a4 ?_ | refine a5 ?_ | refine a6 ?_ | refine s_fieldB ?_ | refine s_fieldV ?_ | refine s_loadB ?_ | refine s_loadH ?_ | refine s_loadR ?_ | refine s_rem ?_ | refine s_loadBs ?_ | refine s_loadHs ?_ | refine s_lenS ?_ | refine s_convI ?_ | refine s_addI ?_ | refine s_subI ?_ | refine s_sliceSHi ?_ | refine s_sliceSLo ?_ | refine a7 ?_ | refine a8 ?_ | refine a9 ?_ | refine RW.storeR rfl rfl rfl rfl (by first | rfl | (simp [allOne, cellsL, one1]; done) | (simp [allOne, cellsL, one1]; first | assumption | (refine ⟨?_, ?_⟩ <;> assumption))) rfl ?_ | refine a10 ?_ | refine RW.storeR1 rfl rfl (by first | rfl | exact IsSl.one1 (by assumption) | exact IsSl.one1 (SliceRep.isSl (by assumption))) rfl rfl ?_)
    have hT1 : (applyT s ⟨1, a, el, et, ex.take (q + 1)⟩).length ≤ 400 := by omega
    have hd1 : doD ⟨s, ms⟩ ⟨1, a, el, et, ex.take (q + 1)⟩ = (⟨applyT s ⟨1, a, el, et, ex.take (q + 1)⟩, carryL ms ⟨1, a, el, et, ex.take (q + 1)⟩⟩, 0) := by rw [doD, if_pos hp1, if_neg (by dsimp only; omega)]
    have hv4 := doD_valid (e := ⟨1, a, el, et, ex.take (q + 1)⟩) hval (by rw [hd1])
    have hd2 : doD ⟨applyT s ⟨1, a, el, et, ex.take (q + 1)⟩, carryL ms ⟨1, a, el, et, ex.take (q + 1)⟩⟩ ⟨1, a + ((q + 1 : Nat) : Int), el, et, ex.drop (q + 1)⟩ = (⟨applyT s ⟨1, a, el, et, ex⟩, carryL ms ⟨1, a, el, et, ex⟩⟩, 0) := by rw [doD, if_pos hp2, if_neg (by dsimp only; rw [hT2]; omega)]; dsimp only; rw [hT2, hM]
    refine RW.call rfl (do_c (e := ⟨1, a, el, et, ex.take (q + 1)⟩) (hr2.mono hle3) (by omega) (by dsimp only; omega) v4 (by omega)) rfl rfl ?_
    rintro _ H4 ⟨_, rfl, hd4⟩ hle4
    rw [hd1] at hd4 hv4 ⊢
    obtain ⟨vm4, rfl, hr4⟩ := hd4
    have ho4 := hr4.isSl.one1
    dsimp only at hr4 hv4 ⊢
    generalize applyT s ⟨1, a, el, et, ex.take (q + 1)⟩ = T1 at *
    generalize carryL ms ⟨1, a, el, et, ex.take (q + 1)⟩ = ms1 at *
    have hv4b := hv4
    obtain ⟨u1, u2, u3, u4, u5⟩ := hv4b
    dsimp only at u1 u2 u3 u4 u5
    repeat (first | refine a1 ?_ | refine a3 ?_ | refine a4 ?_ | refine a5 ?_ | refine a6 ?_ | refine s_fieldB ?_ | refine s_fieldV ?_ | refine s_loadB ?_ | refine s_loadH ?_ | refine s_loadR ?_ | refine s_rem ?_ | refine s_loadBs ?_ | refine s_loadHs ?_ | refine s_lenS ?_ | refine s_convI ?_ | refine s_addI ?_ | refine s_subI ?_ | refine s_sliceSHi ?_ | refine s_sliceSLo ?_ | refine a7 ?_ | refine a8 ?_ | refine a9 ?_ | refine RW.storeR rfl rfl rfl rfl (by first | rfl | (simp [allOne, cellsL, one1]; done) | (simp [allOne, cellsL, one1]; first | assumption | (refine ⟨?_, ?_⟩ <;> assumption))) rfl ?_ | refine a10 ?_ | refine RW.storeR1 rfl rfl (by first | rfl | exact IsSl.one1 (by assumption) | exact IsSl.one1 (SliceRep.isSl (by assumption))) rfl rfl ?_)
    refine RW.alloc rfl rfl rfl (fun b16 => ?_)
    repeat (first | refine a1 ?_ | refine a3 ?_ | refine a4 ?_ | refine a5 ?_ | refine a6 ?_ | refine s_fieldB ?_ | refine s_fieldV ?_ | refine s_loadB ?_ | refine s_loadH ?_ | refine s_loadR ?_ | refine s_rem ?_ | refine s_loadBs ?_ | refine s_loadHs ?_ | refine s_lenS ?_ | refine s_convI ?_ | refine s_addI ?_ | refine s_subI ?_ | refine s_sliceSHi ?_ | refine s_sliceSLo ?_ | refine a7 ?_ | refine a8 ?_ | refine a9 ?_ | refine RW.storeR rfl rfl rfl rfl (by first | rfl | (simp [allOne, cellsL, one1]; done) | (simp [allOne, cellsL, one1]; first | assumption | (refine ⟨?_, ?_⟩ <;> assumption))) rfl ?_ | refine a10 ?_ | refine RW.storeR1 rfl rfl (by first | rfl | exact IsSl.one1 (by assumption) | exact IsSl.one1 (SliceRep.isSl (by assumption))) rfl rfl ?_)
    refine RW.callV rfl (rvalid_c hr4 (by omega) (by omega)) rfl rfl ?_
    rintro _ _ rfl
    rw [decide_eq_true hv4]
    repeat (first | refine a1 ?_ | refine a3 ?_ | refine a4 ?_ | refine a5 ?_ | refine a6 ?_ | refine s_fieldB ?_ | refine s_fieldV ?_ | refine s_loadB ?_ | refine s_loadH ?_ | refine s_loadR ?_ | refine s_rem ?_ | refine s_loadBs ?_ | refine s_loadHs ?_ | refine s_lenS ?_ | refine s_convI ?_ | refine s_addI ?_ | refine s_subI ?_ | refine s_sliceSHi ?_ | refine s_sliceSLo ?_ | refine a7 ?_ | refine a8 ?_ | refine a9 ?_ | refine RW.storeR rfl rfl rfl rfl (by first | rfl | (simp [allOne, cellsL, one1]; done) | (simp [allOne, cellsL, one1]; first | assumption | (refine ⟨?_, ?_⟩ <;> assumption))) rfl ?_ | refine a10 ?_ | refine RW.storeR1 rfl rfl (by first | rfl | exact IsSl.one1 (by assumption) | exact IsSl.one1 (SliceRep.isSl (by assumption))) rfl rfl ?_)
    refine RW.call rfl (do_c (e := ⟨1, a + ((q + 1 : Nat) : Int), el, et, ex.drop (q + 1)⟩) hr4 (by omega) (by dsimp only; omega) u4 (by omega)) rfl rfl ?_
    rintro _ H5 ⟨_, rfl, hd5⟩ hle5
    rw [hd2] at hd5 ⊢
    obtain ⟨vm5, rfl, hr5⟩ := hd5
    have ho5 := hr5.isSl.one1
    dsimp only at hr5 ⊢
    repeat (first | refine a1 ?_ | refine a3 ?_ | refine a4 ?_ | refine a5 ?_ | refine a6 ?_ | refine s_fieldB ?_ | refine s_fieldV ?_ | refine s_loadB ?_ | refine s_loadH ?_ | refine s_loadR ?_ | refine s_rem ?_ | refine s_loadBs ?_ | refine s_loadHs ?_ | refine s_lenS ?_ | refine s_convI ?_ | refine s_addI ?_ | refine s_subI ?_ | refine s_sliceSHi ?_ | refine s_sliceSLo ?_ | refine a7 ?_ | refine a8 ?_ | refine a9 ?_ | refine RW.storeR rfl rfl rfl rfl (by first | rfl | (simp [allOne, cellsL, one1]; done) | (simp [allOne, cellsL, one1]; first | assumption | (refine ⟨?_, ?_⟩ <;> assumption))) rfl ?_ | refine a10 ?_ | refine RW.storeR1 rfl rfl (by first | rfl | exact IsSl.one1 (by assumption) | exact IsSl.one1 (SliceRep.isSl (by assumption))) rfl rfl ?_)
    refine RW.alloc rfl rfl rfl (fun b18 => ?_)
    repeat (first | refine a1 ?_ | refine a3 ?_ | refine a4 ?_ | refine a5 ?_ | refine a6 ?_ | refine s_fieldB ?_ | refine s_fieldV ?_ | refine s_loadB ?_ | refine s_loadH ?_ | refine s_loadR ?_ | refine s_rem ?_ | refine s_loadBs ?_ | refine s_loadHs ?_ | refine s_lenS ?_ | refine s_convI ?_ | refine s_addI ?_ | refine s_subI ?_ | refine s_sliceSHi ?_ | refine s_sliceSLo ?_ | refine a7 ?_ | refine a8 ?_ | refine a9 ?_ | refine RW.storeR rfl rfl rfl rfl (by first | rfl | (simp [allOne, cellsL, one1]; done) | (simp [allOne, cellsL, one1]; first | assumption | (refine ⟨?_, ?_⟩ <;> assumption))) rfl ?_ | refine a10 ?_ | refine RW.storeR1 rfl rfl (by first | rfl | exact IsSl.one1 (by assumption) | exact IsSl.one1 (SliceRep.isSl (by assumption))) rfl rfl ?_)
    refine RW.callV rfl (same_c (H := H5) ⟨_, rfl, hr5⟩ ⟨_, rfl, (hr3.mono hle4).mono hle5⟩ (a := ⟨applyT s ⟨1, a, el, et, ex⟩, carryL ms ⟨1, a, el, et, ex⟩⟩) (b := ⟨applyT s ⟨1, a, el, et, ex⟩, carryL ms ⟨1, a, el, et, ex⟩⟩)) rfl rfl ?_
    rintro _ _ rfl
    rw [show decide ((⟨applyT s ⟨1, a, el, et, ex⟩, carryL ms ⟨1, a, el, et, ex⟩⟩ : Dc) = ⟨applyT s ⟨1, a, el, et, ex⟩, carryL ms ⟨1, a, el, et, ex⟩⟩) = true by simp]
    repeat (first | refine a1 ?_ | refine a3 ?_ | refine a4 ?_ | refine a5 ?_ | refine a6 ?_ | refine s_fieldB ?_ | refine s_fieldV ?_ | refine s_loadB ?_ | refine s_loadH ?_ | refine s_loadR ?_ | refine s_rem ?_ | refine s_loadBs ?_ | refine s_loadHs ?_ | refine s_lenS ?_ | refine s_convI ?_ | refine s_addI ?_ | refine s_subI ?_ | refine s_sliceSHi ?_ | refine s_sliceSLo ?_ | refine a7 ?_ | refine a8 ?_ | refine a9 ?_ | refine RW.storeR rfl rfl rfl rfl (by first | rfl | (simp [allOne, cellsL, one1]; done) | (simp [allOne, cellsL, one1]; first | assumption | (refine ⟨?_, ?_⟩ <;> assumption))) rfl ?_ | refine a10 ?_ | refine RW.storeR1 rfl rfl (by first | rfl | exact IsSl.one1 (by assumption) | exact IsSl.one1 (SliceRep.isSl (by assumption))) rfl rfl ?_)
    refine Runs.ret1 Try.func8 Try.results8 rfl (fun w hm => hR _ w _ H _ (List.mem_cons_self ..) (Snap.le.refl _) ?_ hm)
    rfl

  · subst hk2
    obtain ⟨L, rfl⟩ : ∃ L : Nat, el = (L : Int) := ⟨el.toNat, by omega⟩
    obtain ⟨q, hq⟩ : ∃ q : Nat, K % ((L : Int) + 1) = (q : Int) := ⟨(K % ((L : Int) + 1)).toNat, by have := Int.emod_nonneg K (by omega : (L : Int) + 1 ≠ 0); omega⟩
    have hq2 : (q : Int) ≤ (L : Int) := by have := Int.emod_lt_of_pos K (by omega : 0 < (L : Int) + 1); omega
    repeat (first | refine a1 ?_ | refine a3 ?_ | refine a4 ?_ | refine a5 ?_ | refine a6 ?_ | refine s_fieldB ?_ | refine s_fieldV ?_ | refine s_loadB ?_ | refine s_loadH ?_ | refine s_loadR ?_ | refine s_rem ?_ | refine s_loadBs ?_ | refine s_loadHs ?_ | refine s_lenS ?_ | refine s_convI ?_ | refine s_addI ?_ | refine s_subI ?_ | refine s_sliceSHi ?_ | refine s_sliceSLo ?_ | refine a7 ?_ | refine a8 ?_ | refine a9 ?_ | refine RW.storeR rfl rfl rfl rfl (by first | rfl | (simp [allOne, cellsL, one1]; done) | (simp [allOne, cellsL, one1]; first | assumption | (refine ⟨?_, ?_⟩ <;> assumption))) rfl ?_ | refine a10 ?_ | refine RW.storeR1 rfl rfl (by first | rfl | exact IsSl.one1 (by assumption) | exact IsSl.one1 (SliceRep.isSl (by assumption))) rfl rfl ?_)
    rw [hq]
    have hp1 : possE ⟨2, a, q, et, ex⟩ s.length := ⟨by dsimp only; omega, by dsimp only; omega, .inr (.inl ⟨.inl rfl, by dsimp only; omega, by dsimp only; omega⟩)⟩
    have hA1 : applyT s ⟨2, a, q, et, ex⟩ = delT s a q := by rw [applyT_del rfl]; dsimp only; rw [Int.toNat_natCast, Int.toNat_natCast]
    have hA : applyT s ⟨2, a, L, et, ex⟩ = delT s a L := by rw [applyT_del rfl]; dsimp only; rw [Int.toNat_natCast, Int.toNat_natCast]
    have hL1 := delT_length (s := s) (i := a) (n := q) (by omega)
    have hL := delT_length (s := s) (i := a) (n := L) (by omega)
    have hp2 : possE ⟨2, a, (L : Int) - q, et, ex⟩ (applyT s ⟨2, a, q, et, ex⟩).length := by
      rw [hA1]
      exact ⟨by dsimp only; omega, by dsimp only; omega, .inr (.inl ⟨.inl rfl, by dsimp only; omega, by dsimp only; omega⟩)⟩
    have hT2 : applyT (applyT s ⟨2, a, q, et, ex⟩) ⟨2, a, (L : Int) - q, et, ex⟩ = applyT s ⟨2, a, L, et, ex⟩ := by
      rw [hA1, hA, applyT_del rfl]
      dsimp only
      rw [Int.toNat_natCast, show ((L : Int) - (q : Int)).toNat = L - q by omega, del_del (by omega), show q + (L - q) = L by omega]
    have hM : carryL (carryL ms ⟨2, a, q, et, ex⟩) ⟨2, a, (L : Int) - q, et, ex⟩ = carryL ms ⟨2, a, L, et, ex⟩ := carryL_comp fun m hm => by
      have := comp_del (m := m) (a := a) (n1 := q) (n2 := (L : Int) - q) (t := et) (t1 := et) (t2 := et) (x := ex) (x1 := ex) (x2 := ex) (v4 m hm).2.2.1 (by omega) (by omega)
      rwa [show (q : Int) + ((L : Int) - q) = L by omega] at this
    have hsz : (applyT s ⟨2, a, q, et, ex⟩).length = s.length - q := by rw [hA1, hL1]
    repeat (first | refine a1 ?_ | refine a3 ?_ | refine a4 ?_ | refine a5 ?_ | refine a6 ?_ | refine s_fieldB ?_ | refine s_fieldV ?_ | refine s_loadB ?_ | refine s_loadH ?_ | refine s_loadR ?_ | refine s_rem ?_ | refine s_loadBs ?_ | refine s_loadHs ?_ | refine s_lenS ?_ | refine s_convI ?_ | refine s_addI ?_ | refine s_subI ?_ | refine s_sliceSHi ?_ | refine s_sliceSLo ?_ | refine a7 ?_ | refine a8 ?_ | refine a9 ?_ | refine RW.storeR rfl rfl rfl rfl (by first | rfl | (simp [allOne, cellsL, one1]; done) | (simp [allOne, cellsL, one1]; first | assumption | (refine ⟨?_, ?_⟩ <;> assumption))) rfl ?_ | refine a10 ?_ | refine RW.storeR1 rfl rfl (by first | rfl | exact IsSl.one1 (by assumption) | exact IsSl.one1 (SliceRep.isSl (by assumption))) rfl rfl ?_)
    refine Runs.regionD _ ([.blk b9 24 [.int .i64 2, .int .i64 (a : Int), .int .i64 (L : Int), .int .i64 et, str ex]]) [] (fun x hx => List.mem_cons_of_mem _ hx) SubO.h (by kernel_rfl) ?_
    refine d2 0 ?_
    (first | refine t_fieldB 1 ?_ | refine t_fieldV 1 ?_)
    (first | refine t_loadB 2 ?_ | refine t_loadH 2 ?_ | refine t_loadR 2 ?_)
    refine d2 3 ?_
    refine t_subI 4 ?_
    (first | refine t_fieldB 5 ?_ | refine t_fieldV 5 ?_)
    refine DW.storeBS 6 rfl (by kernel_rfl) rfl rfl rfl rfl rfl inferInstance inferInstance ?_
    (first | refine t_fieldB 7 ?_ | refine t_fieldV 7 ?_)
    refine DW.storeBS 8 rfl (by kernel_rfl) rfl rfl rfl rfl rfl inferInstance inferInstance ?_
    refine DW.done (by kernel_rfl) ?_
    repeat (first | refine a1 ?_ | refine a3 ?_ | refine a4 ?_ | refine a5 ?_ | refine a6 ?_ | refine s_fieldB ?_ | refine s_fieldV ?_ | refine s_loadB ?_ | refine s_loadH ?_ | refine s_loadR ?_ | refine s_rem ?_ | refine s_loadBs ?_ | refine s_loadHs ?_ | refine s_lenS ?_ | refine s_convI ?_ | refine s_addI ?_ | refine s_subI ?_ | refine s_sliceSHi ?_ | refine s_sliceSLo ?_ | refine a7 ?_ | refine a8 ?_ | refine a9 ?_ | refine RW.storeR rfl rfl rfl rfl (by first | rfl | (simp [allOne, cellsL, one1]; done) | (simp [allOne, cellsL, one1]; first | assumption | (refine ⟨?_, ?_⟩ <;> assumption))) rfl ?_ | refine a10 ?_ | refine RW.storeR1 rfl rfl (by first | rfl | exact IsSl.one1 (by assumption) | exact IsSl.one1 (SliceRep.isSl (by assumption))) rfl rfl ?_)
    have hT1 : (applyT s ⟨2, a, q, et, ex⟩).length ≤ 400 := by omega
    have hd1 : doD ⟨s, ms⟩ ⟨2, a, q, et, ex⟩ = (⟨applyT s ⟨2, a, q, et, ex⟩, carryL ms ⟨2, a, q, et, ex⟩⟩, 0) := by rw [doD, if_pos hp1, if_neg (by dsimp only; omega)]
    have hv4 := doD_valid (e := ⟨2, a, q, et, ex⟩) hval (by rw [hd1])
    have hd2 : doD ⟨applyT s ⟨2, a, q, et, ex⟩, carryL ms ⟨2, a, q, et, ex⟩⟩ ⟨2, a, (L : Int) - q, et, ex⟩ = (⟨applyT s ⟨2, a, L, et, ex⟩, carryL ms ⟨2, a, L, et, ex⟩⟩, 0) := by rw [doD, if_pos hp2, if_neg (by dsimp only; rw [hT2]; omega)]; dsimp only; rw [hT2, hM]
    refine RW.call rfl (do_c (e := ⟨2, a, q, et, ex⟩) (hr2.mono hle3) (by omega) (by dsimp only; omega) v4 (by omega)) rfl rfl ?_
    rintro _ H4 ⟨_, rfl, hd4⟩ hle4
    rw [hd1] at hd4 hv4 ⊢
    obtain ⟨vm4, rfl, hr4⟩ := hd4
    have ho4 := hr4.isSl.one1
    dsimp only at hr4 hv4 ⊢
    generalize applyT s ⟨2, a, q, et, ex⟩ = T1 at *
    generalize carryL ms ⟨2, a, q, et, ex⟩ = ms1 at *
    have hv4b := hv4
    obtain ⟨u1, u2, u3, u4, u5⟩ := hv4b
    dsimp only at u1 u2 u3 u4 u5
    repeat (first | refine a1 ?_ | refine a3 ?_ | refine a4 ?_ | refine a5 ?_ | refine a6 ?_ | refine s_fieldB ?_ | refine s_fieldV ?_ | refine s_loadB ?_ | refine s_loadH ?_ | refine s_loadR ?_ | refine s_rem ?_ | refine s_loadBs ?_ | refine s_loadHs ?_ | refine s_lenS ?_ | refine s_convI ?_ | refine s_addI ?_ | refine s_subI ?_ | refine s_sliceSHi ?_ | refine s_sliceSLo ?_ | refine a7 ?_ | refine a8 ?_ | refine a9 ?_ | refine RW.storeR rfl rfl rfl rfl (by first | rfl | (simp [allOne, cellsL, one1]; done) | (simp [allOne, cellsL, one1]; first | assumption | (refine ⟨?_, ?_⟩ <;> assumption))) rfl ?_ | refine a10 ?_ | refine RW.storeR1 rfl rfl (by first | rfl | exact IsSl.one1 (by assumption) | exact IsSl.one1 (SliceRep.isSl (by assumption))) rfl rfl ?_)
    refine RW.alloc rfl rfl rfl (fun b16 => ?_)
    repeat (first | refine a1 ?_ | refine a3 ?_ | refine a4 ?_ | refine a5 ?_ | refine a6 ?_ | refine s_fieldB ?_ | refine s_fieldV ?_ | refine s_loadB ?_ | refine s_loadH ?_ | refine s_loadR ?_ | refine s_rem ?_ | refine s_loadBs ?_ | refine s_loadHs ?_ | refine s_lenS ?_ | refine s_convI ?_ | refine s_addI ?_ | refine s_subI ?_ | refine s_sliceSHi ?_ | refine s_sliceSLo ?_ | refine a7 ?_ | refine a8 ?_ | refine a9 ?_ | refine RW.storeR rfl rfl rfl rfl (by first | rfl | (simp [allOne, cellsL, one1]; done) | (simp [allOne, cellsL, one1]; first | assumption | (refine ⟨?_, ?_⟩ <;> assumption))) rfl ?_ | refine a10 ?_ | refine RW.storeR1 rfl rfl (by first | rfl | exact IsSl.one1 (by assumption) | exact IsSl.one1 (SliceRep.isSl (by assumption))) rfl rfl ?_)
    refine RW.callV rfl (rvalid_c hr4 (by omega) (by omega)) rfl rfl ?_
    rintro _ _ rfl
    rw [decide_eq_true hv4]
    repeat (first | refine a1 ?_ | refine a3 ?_ | refine a4 ?_ | refine a5 ?_ | refine a6 ?_ | refine s_fieldB ?_ | refine s_fieldV ?_ | refine s_loadB ?_ | refine s_loadH ?_ | refine s_loadR ?_ | refine s_rem ?_ | refine s_loadBs ?_ | refine s_loadHs ?_ | refine s_lenS ?_ | refine s_convI ?_ | refine s_addI ?_ | refine s_subI ?_ | refine s_sliceSHi ?_ | refine s_sliceSLo ?_ | refine a7 ?_ | refine a8 ?_ | refine a9 ?_ | refine RW.storeR rfl rfl rfl rfl (by first | rfl | (simp [allOne, cellsL, one1]; done) | (simp [allOne, cellsL, one1]; first | assumption | (refine ⟨?_, ?_⟩ <;> assumption))) rfl ?_ | refine a10 ?_ | refine RW.storeR1 rfl rfl (by first | rfl | exact IsSl.one1 (by assumption) | exact IsSl.one1 (SliceRep.isSl (by assumption))) rfl rfl ?_)
    refine RW.call rfl (do_c (e := ⟨2, a, (L : Int) - q, et, ex⟩) hr4 (by omega) (by dsimp only; omega) u4 (by omega)) rfl rfl ?_
    rintro _ H5 ⟨_, rfl, hd5⟩ hle5
    rw [hd2] at hd5 ⊢
    obtain ⟨vm5, rfl, hr5⟩ := hd5
    have ho5 := hr5.isSl.one1
    dsimp only at hr5 ⊢
    repeat (first | refine a1 ?_ | refine a3 ?_ | refine a4 ?_ | refine a5 ?_ | refine a6 ?_ | refine s_fieldB ?_ | refine s_fieldV ?_ | refine s_loadB ?_ | refine s_loadH ?_ | refine s_loadR ?_ | refine s_rem ?_ | refine s_loadBs ?_ | refine s_loadHs ?_ | refine s_lenS ?_ | refine s_convI ?_ | refine s_addI ?_ | refine s_subI ?_ | refine s_sliceSHi ?_ | refine s_sliceSLo ?_ | refine a7 ?_ | refine a8 ?_ | refine a9 ?_ | refine RW.storeR rfl rfl rfl rfl (by first | rfl | (simp [allOne, cellsL, one1]; done) | (simp [allOne, cellsL, one1]; first | assumption | (refine ⟨?_, ?_⟩ <;> assumption))) rfl ?_ | refine a10 ?_ | refine RW.storeR1 rfl rfl (by first | rfl | exact IsSl.one1 (by assumption) | exact IsSl.one1 (SliceRep.isSl (by assumption))) rfl rfl ?_)
    refine RW.alloc rfl rfl rfl (fun b18 => ?_)
    repeat (first | refine a1 ?_ | refine a3 ?_ | refine a4 ?_ | refine a5 ?_ | refine a6 ?_ | refine s_fieldB ?_ | refine s_fieldV ?_ | refine s_loadB ?_ | refine s_loadH ?_ | refine s_loadR ?_ | refine s_rem ?_ | refine s_loadBs ?_ | refine s_loadHs ?_ | refine s_lenS ?_ | refine s_convI ?_ | refine s_addI ?_ | refine s_subI ?_ | refine s_sliceSHi ?_ | refine s_sliceSLo ?_ | refine a7 ?_ | refine a8 ?_ | refine a9 ?_ | refine RW.storeR rfl rfl rfl rfl (by first | rfl | (simp [allOne, cellsL, one1]; done) | (simp [allOne, cellsL, one1]; first | assumption | (refine ⟨?_, ?_⟩ <;> assumption))) rfl ?_ | refine a10 ?_ | refine RW.storeR1 rfl rfl (by first | rfl | exact IsSl.one1 (by assumption) | exact IsSl.one1 (SliceRep.isSl (by assumption))) rfl rfl ?_)
    refine RW.callV rfl (same_c (H := H5) ⟨_, rfl, hr5⟩ ⟨_, rfl, (hr3.mono hle4).mono hle5⟩ (a := ⟨applyT s ⟨2, a, L, et, ex⟩, carryL ms ⟨2, a, L, et, ex⟩⟩) (b := ⟨applyT s ⟨2, a, L, et, ex⟩, carryL ms ⟨2, a, L, et, ex⟩⟩)) rfl rfl ?_
    rintro _ _ rfl
    rw [show decide ((⟨applyT s ⟨2, a, L, et, ex⟩, carryL ms ⟨2, a, L, et, ex⟩⟩ : Dc) = ⟨applyT s ⟨2, a, L, et, ex⟩, carryL ms ⟨2, a, L, et, ex⟩⟩) = true by simp]
    repeat (first | refine a1 ?_ | refine a3 ?_ | refine a4 ?_ | refine a5 ?_ | refine a6 ?_ | refine s_fieldB ?_ | refine s_fieldV ?_ | refine s_loadB ?_ | refine s_loadH ?_ | refine s_loadR ?_ | refine s_rem ?_ | refine s_loadBs ?_ | refine s_loadHs ?_ | refine s_lenS ?_ | refine s_convI ?_ | refine s_addI ?_ | refine s_subI ?_ | refine s_sliceSHi ?_ | refine s_sliceSLo ?_ | refine a7 ?_ | refine a8 ?_ | refine a9 ?_ | refine RW.storeR rfl rfl rfl rfl (by first | rfl | (simp [allOne, cellsL, one1]; done) | (simp [allOne, cellsL, one1]; first | assumption | (refine ⟨?_, ?_⟩ <;> assumption))) rfl ?_ | refine a10 ?_ | refine RW.storeR1 rfl rfl (by first | rfl | exact IsSl.one1 (by assumption) | exact IsSl.one1 (SliceRep.isSl (by assumption))) rfl rfl ?_)
    refine Runs.ret1 Try.func8 Try.results8 rfl (fun w hm => hR _ w _ H _ (List.mem_cons_self ..) (Snap.le.refl _) ?_ hm)
    rfl

end Go.Proofs.Ytcikciefaggckaa

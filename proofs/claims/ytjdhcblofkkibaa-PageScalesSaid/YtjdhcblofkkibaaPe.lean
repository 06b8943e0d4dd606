/-
  The visit of the tree: what is handed to the function that it calls, in order. Conditions: the graph is valid, the function called does as it is said to do.
-/
import Derived.Test.YtjdhcblofkkibaaPd
namespace Go.Proofs.Ytjdhcblofkkibaa
open Go Go.RowKit

/-- Calls in order, until one answers false. -/
def runY {σ : Type} (step : σ → Int × List Int → Bool × σ) : List (Int × List Int) → σ → Bool × σ
  | [], s => (true, s)
  | y :: ys, s => match step s y with
    | (true, s') => runY step ys s'
    | (false, s') => (false, s')
theorem runY_append {σ : Type} (step : σ → Int × List Int → Bool × σ) : ∀ (A B : List (Int × List Int)) (s : σ), runY step (A ++ B) s = match runY step A s with | (true, s') => runY step B s' | (false, s') => (false, s')
  | [], _, _ => rfl
  | y :: A, B, s => by
    simp only [List.cons_append, runY]
    cases e : step s y with
    | mk b s' => cases b <;> simp [runY_append step A B]
/-- What is handed on below a beginning p that ends at n and costs c: a bound for the cost and the beginning, for each link that leaves the tree. -/
def visitL (gl : List Lnk) (h : List Int) (N : Int) (has wh : List Int → Bool) : Nat → List Int → Int → Int → List (Int × List Int)
  | 0, _, _, _ => []
  | F + 1, p, n, c => ((outOf gl n).flatMap fun i => if has (p ++ [i]) = true then visitL gl h N has wh F (p ++ [i]) (lnk gl i).t (c + (lnk gl i).c)
      else if tv h (lnk gl i).t = -1 then [] else [(c + (lnk gl i).c + tv h (lnk gl i).t, p ++ [i])]) ++ if n = N - 1 ∧ wh p = false then [(c, p)] else []

theorem feet_append (A B : List Own) : feet (A ++ B) = feet A ++ feet B := by simp [feet]

set_option maxHeartbeats 4000000 in
theorem visit_c {σ : Type} {H : Snap} {F : List Own} {Y : σ → List Own} {step : σ → Int × List Int → Bool × σ} {yf : FuncId} {ycap : List Value} [ty : TCall Try.prog yf]
    {N : Nat} {gl : List Lnk} {h : List Int} {vl vh vo : Value} {b4 b5 b6 : Nat} {bc : Nat} {vk vb : Value} {ls : List Int} {ks : List AT} {wh : Bool} {B : Nat}
    (hg : validG N gl) (hl : SliceRep H LinkL vl gl) (hh : SliceRep H I64 vh h) (hvo : SliceRep H (SlL I64) vo (outsOf N gl)) (hhl : h.length = N) (hhb : ∀ j : Int, 0 ≤ j → j < N → -1 ≤ tv h j ∧ tv h j ≤ 2000000000)
    (hk : AT.ok B (.mk bc 84 [.int .i64 (N : Int), vl, vh, vo] vk vb ls ks wh)) (hF : ∀ o ∈ AT.own (.mk bc 84 [.int .i64 (N : Int), vl, vh, vo] vk vb ls ks wh), o ∈ F)
    (h4 : .blk b4 79 [.pointer (some ⟨bc, 0, none⟩)] ∈ F) (h5 : .blk b5 95 [.func (.func 49) #[] #[.pointer (some ⟨b4, 0, none⟩), .pointer (some ⟨b5, 0, none⟩), .pointer (some ⟨b6, 0, none⟩)]] ∈ F) (h6 : .blk b6 88 [.func (.func yf) #[] ycap.toArray] ∈ F)
    (hYf : ∀ s s', feet (Y s) = feet (Y s'))
    (hy : ∀ (H' : Snap) (s : σ) (c : Int) (v : Value) (b : List Int), H.le H' → SliceRep H' I64 v b → 0 ≤ c ∧ c ≤ 9000000000 → Ctr Try.prog yf ([.int .i64 c, v] ++ ycap).toArray H' (F ++ Y s) (fun _ O' r => O' = F ++ Y (step s (c, b)).2 ∧ r = .bool (step s (c, b)).1)) :
    ∀ (fu : Nat) (p : List Int) (T : AT) (n : Nat) (c : Int) (v : Value) (H1 : Snap) (s : σ), H.le H1 → SliceRep H1 I64 v p → AT.sub p (.mk bc 84 [.int .i64 (N : Int), vl, vh, vo] vk vb ls ks wh) = some T → N ≤ n + fu → n < N → 0 ≤ c → c ≤ n * 1000000 → p.length ≤ n →
      Ctr Try.prog 49 #[T.ptr, .int .i64 (n : Int), .int .i64 c, v, .pointer (some ⟨b4, 0, none⟩), .pointer (some ⟨b5, 0, none⟩), .pointer (some ⟨b6, 0, none⟩)] H1 (F ++ Y s)
        (fun _ O' r => O' = F ++ Y (runY step (visitL gl h N (AT.has (.mk bc 84 [.int .i64 (N : Int), vl, vh, vo] vk vb ls ks wh)) (AT.isWh (.mk bc 84 [.int .i64 (N : Int), vl, vh, vo] vk vb ls ks wh)) fu p n c) s).2 ∧
          r = .bool (runY step (visitL gl h N (AT.has (.mk bc 84 [.int .i64 (N : Int), vl, vh, vo] vk vb ls ks wh)) (AT.isWh (.mk bc 84 [.int .i64 (N : Int), vl, vh, vo] vk vb ls ks wh)) fu p n c) s).1) := by
  obtain ⟨hN1, hN2, hlen, hall⟩ := hg
  have i4 : ∀ s, GetBlk (F ++ Y s) b4 79 [.pointer (some ⟨bc, 0, none⟩)] := fun s => ⟨List.mem_append_left _ h4⟩
  have i5 : ∀ s, GetBlk (F ++ Y s) b5 95 [.func (.func 49) #[] #[.pointer (some ⟨b4, 0, none⟩), .pointer (some ⟨b5, 0, none⟩), .pointer (some ⟨b6, 0, none⟩)]] := fun s => ⟨List.mem_append_left _ h5⟩
  have i6 : ∀ s, GetBlk (F ++ Y s) b6 88 [.func (.func yf) #[] ycap.toArray] := fun s => ⟨List.mem_append_left _ h6⟩
  have ic : ∀ s, GetBlk (F ++ Y s) bc 84 [.int .i64 (N : Int), vl, vh, vo, vk, vb, .bool wh] := fun s => ⟨List.mem_append_left _ (hF _ (by simp [AT.own]))⟩
  have j4 : GetBlk F b4 79 [.pointer (some ⟨bc, 0, none⟩)] := ⟨h4⟩
  have j6 : GetBlk F b6 88 [.func (.func yf) #[] ycap.toArray] := ⟨h6⟩
  have jc : GetBlk F bc 84 [.int .i64 (N : Int), vl, vh, vo, vk, vb, .bool wh] := ⟨hF _ (by simp [AT.own])⟩
  generalize hK : AT.mk bc 84 [.int .i64 (N : Int), vl, vh, vo] vk vb ls ks wh = K at hk hF ⊢
  intro fu
  induction fu with
  | zero => intro p T n c v H1 s _ _ _ h1 h2; omega
  | succ fu ihf =>
  intro p T n c v H1 s0 hle1 hv hsub hfu hn hc0 hcn hpn
  obtain ⟨hTok, hTown⟩ := AT.sub_mem hsub hk
  have hl1 := hl.mono hle1
  have hh1 := hh.mono hle1
  have hvo1 := hvo.mono hle1
  have hbo := hvo1.isSl
  rw [outsOf_length] at hbo
  obtain ⟨vm, hvm, hcm⟩ := hvo1.sl (outsOf_at (N := N) (gl := gl) (i := n) hn)
  have hbm := hvm.isSl.bound
  have hV : visitL gl h N K.has K.isWh (fu + 1) p n c = ((outOf gl n).drop 0).flatMap (fun i => if K.has (p ++ [i]) = true then visitL gl h N K.has K.isWh fu (p ++ [i]) (lnk gl i).t (c + (lnk gl i).c)
      else if tv h (lnk gl i).t = -1 then [] else [(c + (lnk gl i).c + tv h (lnk gl i).t, p ++ [i])]) ++ if (n : Int) = N - 1 ∧ K.isWh p = false then [(c, p)] else [] := by rw [List.drop_zero, visitL]
  generalize hVe : visitL gl h N K.has K.isWh (fu + 1) p n c = V at hV ⊢
  refine Ctr.intro Try.func49 rfl Try.ntmps49 rfl (fun E R hM hR => ?_)
  have hMf : ∀ s, ∀ b ∈ E.M, b ∈ feet (F ++ Y s) := fun s b hb => by rw [hM, feet_append] at hb; rw [feet_append, hYf s s0]; exact hb
  repeat (first | refine a1 ?_ | refine a3 ?_ | refine a4 ?_ | refine a5 ?_ | refine a6 ?_ | refine s_loadB ?_ | refine s_loadH ?_ | refine s_loadR ?_ | refine s_fieldB ?_ | refine s_fieldV ?_ | refine s_index ?_ | refine s_indexR ?_ | refine s_len ?_ | refine s_lenR ?_ | refine s_loadBs ?_ | refine s_loadHs ?_ | refine s_sliceHi ?_ | refine s_neqP ?_ | refine s_addI ?_ | refine s_subI ?_ | refine a7 ?_ | refine a8 ?_ | refine a9 ?_ | refine RW.storeR rfl rfl rfl rfl (by first | rfl | (simp [allOne, cellsL, one1]; done) | (simp [allOne, cellsL, one1]; first | assumption | (refine ⟨?_, ?_⟩ <;> assumption))) rfl ?_ | refine a10 ?_ | refine RW.storeR1 rfl rfl (by first | rfl | exact IsSl.one1 (by assumption) | exact IsSl.one1 (SliceRep.isSl (by assumption))) rfl rfl ?_)
  refine Runs.loop (fun (s : Nat × σ) => s.1 ≤ (outOf gl n).length ∧ runY step V s0 = runY step (((outOf gl n).drop s.1).flatMap (fun i => if K.has (p ++ [i]) = true then visitL gl h N K.has K.isWh fu (p ++ [i]) (lnk gl i).t (c + (lnk gl i).c)
      else if tv h (lnk gl i).t = -1 then [] else [(c + (lnk gl i).c + tv h (lnk gl i).t, p ++ [i])]) ++ if (n : Int) = N - 1 ∧ K.isWh p = false then [(c, p)] else []) s.2) (fun s => (outOf gl n).length - s.1) (fun _ => [H1]) (fun s => F ++ Y s.2)
    (fun s => [(0, T.ptr), (1, .int .i64 (n : Int)), (2, .int .i64 c), (3, v), (4, .pointer (some ⟨b4, 0, none⟩)), (5, .pointer (some ⟨b5, 0, none⟩)), (6, .pointer (some ⟨b6, 0, none⟩)), (23, vm), (24, .int .i64 ((outOf gl n).length : Int)), (25, .int .i64 (s.1 : Int))]) (0, s0) ⟨Nat.zero_le _, by rw [hV]⟩ (fun h => by
      refine Runs.weak (h) (by repeat (first | exact trivial | refine And.intro rfl ?_)) (fun x hx => List.mem_cons_of_mem _ (SubH.h x hx)) (by repeat (first | exact List.nil_sublist _ | exact List.Sublist.refl _ | refine List.Sublist.cons_cons _ ?_ | refine List.Sublist.cons _ ?_))) ?_
  rintro ⟨k, s⟩ ⟨hk1, hI⟩ ih
  dsimp only at hk1 hI ⊢
  repeat (first | refine a1 ?_ | refine a3 ?_ | refine a4 ?_ | refine a5 ?_ | refine a6 ?_ | refine s_loadB ?_ | refine s_loadH ?_ | refine s_loadR ?_ | refine s_fieldB ?_ | refine s_fieldV ?_ | refine s_index ?_ | refine s_indexR ?_ | refine s_len ?_ | refine s_lenR ?_ | refine s_loadBs ?_ | refine s_loadHs ?_ | refine s_sliceHi ?_ | refine s_neqP ?_ | refine s_addI ?_ | refine s_subI ?_ | refine a7 ?_ | refine a8 ?_ | refine a9 ?_ | refine RW.storeR rfl rfl rfl rfl (by first | rfl | (simp [allOne, cellsL, one1]; done) | (simp [allOne, cellsL, one1]; first | assumption | (refine ⟨?_, ?_⟩ <;> assumption))) rfl ?_ | refine a10 ?_ | refine RW.storeR1 rfl rfl (by first | rfl | exact IsSl.one1 (by assumption) | exact IsSl.one1 (SliceRep.isSl (by assumption))) rfl rfl ?_)
  refine Runs.cond_d rfl (fun hlt => ?_) (fun hlt => ?_)
  · obtain ⟨oi, hoi⟩ : ∃ i, (outOf gl n)[k]? = some i := ⟨_, List.getElem?_eq_getElem (by omega)⟩
    obtain ⟨i, x, rfl, hx, hxf⟩ := outOf_at hoi
    have hxo := hall x (List.mem_of_getElem? hx)
    unfold okL at hxo
    have hil := (List.getElem?_eq_some_iff.1 hx).1
    obtain ⟨j, hj⟩ : ∃ j : Nat, x.t = (j : Int) := ⟨x.t.toNat, by omega⟩
    have hload : ∀ jj u, [Value.int .i64 x.f, .int .i64 x.t, .int .i64 x.lab, .int .i64 x.c][jj]? = some u → H1.cell (vat vl (i * 4 + jj)) = some u := fun jj u hu => hl1.flat hx hu
    rw [hj] at hload
    rw [drop_cons_of hoi, List.flatMap_cons, lnk_at hx, List.append_assoc, runY_append] at hI
    generalize hre : (((outOf gl n).drop (k + 1)).flatMap (fun i => if K.has (p ++ [i]) = true then visitL gl h N K.has K.isWh fu (p ++ [i]) (lnk gl i).t (c + (lnk gl i).c)
      else if tv h (lnk gl i).t = -1 then [] else [(c + (lnk gl i).c + tv h (lnk gl i).t, p ++ [i])]) ++ if (n : Int) = N - 1 ∧ K.isWh p = false then [(c, p)] else []) = rest at hI
    repeat (first | refine a1 ?_ | refine a3 ?_ | refine a4 ?_ | refine a5 ?_ | refine a6 ?_ | refine s_loadB ?_ | refine s_loadH ?_ | refine s_loadR ?_ | refine s_fieldB ?_ | refine s_fieldV ?_ | refine s_index ?_ | refine s_indexR ?_ | refine s_len ?_ | refine s_lenR ?_ | refine s_loadBs ?_ | refine s_loadHs ?_ | refine s_sliceHi ?_ | refine s_neqP ?_ | refine s_addI ?_ | refine s_subI ?_ | refine a7 ?_ | refine a8 ?_ | refine a9 ?_ | refine RW.storeR rfl rfl rfl rfl (by first | rfl | (simp [allOne, cellsL, one1]; done) | (simp [allOne, cellsL, one1]; first | assumption | (refine ⟨?_, ?_⟩ <;> assumption))) rfl ?_ | refine a10 ?_ | refine RW.storeR1 rfl rfl (by first | rfl | exact IsSl.one1 (by assumption) | exact IsSl.one1 (SliceRep.isSl (by assumption))) rfl rfl ?_)
    refine RW.alloc rfl rfl rfl (fun b14 => ?_)
    repeat (first | refine a1 ?_ | refine a3 ?_ | refine a4 ?_ | refine a5 ?_ | refine a6 ?_ | refine s_loadB ?_ | refine s_loadH ?_ | refine s_loadR ?_ | refine s_fieldB ?_ | refine s_fieldV ?_ | refine s_index ?_ | refine s_indexR ?_ | refine s_len ?_ | refine s_lenR ?_ | refine s_loadBs ?_ | refine s_loadHs ?_ | refine s_sliceHi ?_ | refine s_neqP ?_ | refine s_addI ?_ | refine s_subI ?_ | refine a7 ?_ | refine a8 ?_ | refine a9 ?_ | refine RW.storeR rfl rfl rfl rfl (by first | rfl | (simp [allOne, cellsL, one1]; done) | (simp [allOne, cellsL, one1]; first | assumption | (refine ⟨?_, ?_⟩ <;> assumption))) rfl ?_ | refine a10 ?_ | refine RW.storeR1 rfl rfl (by first | rfl | exact IsSl.one1 (by assumption) | exact IsSl.one1 (SliceRep.isSl (by assumption))) rfl rfl ?_)
    have hcap : p.length ≤ capOf v := hv.capOf_le
    have hfull : SliceRep H1 I64 (slv v 1 0 p.length p.length) p := by
      have := hv.slv (s := 1) (lo := 0) (hi := p.length) (mx := p.length) rfl (Nat.zero_le _) (Nat.le_refl _) (Nat.le_refl _) hcap
      simpa using this
    have hcap2 : capOf (slv v 1 0 p.length p.length) = p.length := by obtain ⟨A, cap, rfl, _⟩ := hv.isSl; simp [slv, capOf]
    refine RW.q (QF.slice3 (hi := p.length) (m := p.length) rfl rfl rfl hv.isSl rfl rfl (Nat.le_refl _) hcap).qv rfl rfl ?_
    repeat (first | refine a1 ?_ | refine a3 ?_ | refine a4 ?_ | refine a5 ?_ | refine a6 ?_ | refine s_loadB ?_ | refine s_loadH ?_ | refine s_loadR ?_ | refine s_fieldB ?_ | refine s_fieldV ?_ | refine s_index ?_ | refine s_indexR ?_ | refine s_len ?_ | refine s_lenR ?_ | refine s_loadBs ?_ | refine s_loadHs ?_ | refine s_sliceHi ?_ | refine s_neqP ?_ | refine s_addI ?_ | refine s_subI ?_ | refine a7 ?_ | refine a8 ?_ | refine a9 ?_ | refine RW.storeR rfl rfl rfl rfl (by first | rfl | (simp [allOne, cellsL, one1]; done) | (simp [allOne, cellsL, one1]; first | assumption | (refine ⟨?_, ?_⟩ <;> assumption))) rfl ?_ | refine a10 ?_ | refine RW.storeR1 rfl rfl (by first | rfl | exact IsSl.one1 (by assumption) | exact IsSl.one1 (SliceRep.isSl (by assumption))) rfl rfl ?_)
    refine RW.buildSlice rfl rfl rfl rfl rfl rfl rfl (fun v44 hv44 => ?_)
    refine RW.appendF rfl (hfull) (hcap2) (by rfl) rfl (by omega) rfl rfl (by decide) (by omega) (by omega) rfl rfl (fun xs v45 hxs hv45 => ?_)
    have hxs' := i64_cells hxs
    subst hxs'
    refine RW.freezeM (H := H1) v45 (fun b hb => feet_sub (List.Sublist.cons _ (List.Sublist.cons _ (List.Sublist.refl _))) b (hMf s b hb)) (fun H2 hle2 hs2 hc2 => ?_)
    have hrow : SliceRep H2 I64 v45 (p ++ [(i : Int)]) := SliceRep.of_row hs2 (by simp) (by
      have := ints_rep H2 (p ++ [(i : Int)])
      rw [List.map_append] at this
      exact this) (Snap.le.refl _) hc2
    repeat (first | refine a1 ?_ | refine a3 ?_ | refine a4 ?_ | refine a5 ?_ | refine a6 ?_ | refine s_loadB ?_ | refine s_loadH ?_ | refine s_loadR ?_ | refine s_fieldB ?_ | refine s_fieldV ?_ | refine s_index ?_ | refine s_indexR ?_ | refine s_len ?_ | refine s_lenR ?_ | refine s_loadBs ?_ | refine s_loadHs ?_ | refine s_sliceHi ?_ | refine s_neqP ?_ | refine s_addI ?_ | refine s_subI ?_ | refine a7 ?_ | refine a8 ?_ | refine a9 ?_ | refine RW.storeR rfl rfl rfl rfl (by first | rfl | (simp [allOne, cellsL, one1]; done) | (simp [allOne, cellsL, one1]; first | assumption | (refine ⟨?_, ?_⟩ <;> assumption))) rfl ?_ | refine a10 ?_ | refine RW.storeR1 rfl rfl (by first | rfl | exact IsSl.one1 (by assumption) | exact IsSl.one1 (SliceRep.isSl (by assumption))) rfl rfl ?_)
    refine RW.callL (cap := []) rfl rfl (at_c (H := H2) (t := T) (i := (i : Int)) (fun o ho => by exact List.mem_cons_of_mem _ (List.mem_cons_of_mem _ (List.mem_append_left _ (hF o (hTown o ho))))) hTok) (List.Sublist.refl _) rfl rfl ?_
    rintro _ H3 rfl hle3
    have hsn := AT.sub_snoc p (i : Int) K
    rw [hsub] at hsn
    simp only at hsn
    have hrow3 := hrow.mono hle3
    have hleH3 := (hle1.trans hle2).trans hle3
    have hhj : H1.cell (vat vh (j * 1)) = some (.int .i64 (tv h (j : Int))) := hh1.flat1 (tv_at (by omega)) rfl
    have hhjb := hhb (j : Int) (by omega) (by omega)
    have hbh := hh1.isSl
    have hSub : (F ++ Y s).Sublist (.row 3 1 v44 1 (Value.int IntKind.i64 ↑i :: [].append (repL 0 (cellsL (Value.int IntKind.i64 0)))) :: .blk b14 58 [.int .i64 x.f, .int .i64 (j : Int), .int .i64 x.lab, .int .i64 x.c] :: (F ++ Y s)) := List.Sublist.cons _ (List.Sublist.cons _ (List.Sublist.refl _))
    cases e : T.at (i : Int) with
    | some kid =>
      rw [e] at hsn
      have hhas : K.has (p ++ [(i : Int)]) = true := by simp [AT.has, hsn]
      rw [if_pos hhas, hj] at hI
      have hpt : kid.ptr = .pointer (some ⟨kid.head.1, kid.head.2.2.length, none⟩) := by cases kid; rfl
      simp only [hpt]
      repeat (first | refine a1 ?_ | refine a3 ?_ | refine a4 ?_ | refine a5 ?_ | refine a6 ?_ | refine s_loadB ?_ | refine s_loadH ?_ | refine s_loadR ?_ | refine s_fieldB ?_ | refine s_fieldV ?_ | refine s_index ?_ | refine s_indexR ?_ | refine s_len ?_ | refine s_lenR ?_ | refine s_loadBs ?_ | refine s_loadHs ?_ | refine s_sliceHi ?_ | refine s_neqP ?_ | refine s_addI ?_ | refine s_subI ?_ | refine a7 ?_ | refine a8 ?_ | refine a9 ?_ | refine RW.storeR rfl rfl rfl rfl (by first | rfl | (simp [allOne, cellsL, one1]; done) | (simp [allOne, cellsL, one1]; first | assumption | (refine ⟨?_, ?_⟩ <;> assumption))) rfl ?_ | refine a10 ?_ | refine RW.storeR1 rfl rfl (by first | rfl | exact IsSl.one1 (by assumption) | exact IsSl.one1 (SliceRep.isSl (by assumption))) rfl rfl ?_)
      rw [← hpt]
      have hc := ihf (p ++ [(i : Int)]) kid j (c + x.c) v45 H3 s hleH3 hrow3 hsn (by omega) (by omega) (by omega) (by omega) (by simp; omega)
      generalize runY step (visitL gl h N K.has K.isWh fu (p ++ [(i : Int)]) (j : Int) (c + x.c)) s = res at hI hc
      obtain ⟨b, s'⟩ := res
      refine RW.callD rfl rfl hc hSub rfl rfl ?_
      rintro _ H4 _ ⟨rfl, rfl⟩ hle4
      cases b with
      | true =>
        repeat (first | refine a1 ?_ | refine a3 ?_ | refine a4 ?_ | refine a5 ?_ | refine a6 ?_ | refine s_loadB ?_ | refine s_loadH ?_ | refine s_loadR ?_ | refine s_fieldB ?_ | refine s_fieldV ?_ | refine s_index ?_ | refine s_indexR ?_ | refine s_len ?_ | refine s_lenR ?_ | refine s_loadBs ?_ | refine s_loadHs ?_ | refine s_sliceHi ?_ | refine s_neqP ?_ | refine s_addI ?_ | refine s_subI ?_ | refine a7 ?_ | refine a8 ?_ | refine a9 ?_ | refine RW.storeR rfl rfl rfl rfl (by first | rfl | (simp [allOne, cellsL, one1]; done) | (simp [allOne, cellsL, one1]; first | assumption | (refine ⟨?_, ?_⟩ <;> assumption))) rfl ?_ | refine a10 ?_ | refine RW.storeR1 rfl rfl (by first | rfl | exact IsSl.one1 (by assumption) | exact IsSl.one1 (SliceRep.isSl (by assumption))) rfl rfl ?_)
        refine Runs.weak (ih (k + 1, s') ⟨by dsimp only; omega, by dsimp only; rw [hre]; exact hI⟩ (by dsimp only; omega)) (by repeat (first | exact trivial | refine And.intro rfl ?_)) (fun x hx => List.mem_cons_of_mem _ (SubH.h x hx)) (by repeat (first | exact List.nil_sublist _ | exact List.Sublist.refl _ | refine List.Sublist.cons_cons _ ?_ | refine List.Sublist.cons _ ?_))
      | false =>
        repeat (first | refine a1 ?_ | refine a3 ?_ | refine a4 ?_ | refine a5 ?_ | refine a6 ?_ | refine s_loadB ?_ | refine s_loadH ?_ | refine s_loadR ?_ | refine s_fieldB ?_ | refine s_fieldV ?_ | refine s_index ?_ | refine s_indexR ?_ | refine s_len ?_ | refine s_lenR ?_ | refine s_loadBs ?_ | refine s_loadHs ?_ | refine s_sliceHi ?_ | refine s_neqP ?_ | refine s_addI ?_ | refine s_subI ?_ | refine a7 ?_ | refine a8 ?_ | refine a9 ?_ | refine RW.storeR rfl rfl rfl rfl (by first | rfl | (simp [allOne, cellsL, one1]; done) | (simp [allOne, cellsL, one1]; first | assumption | (refine ⟨?_, ?_⟩ <;> assumption))) rfl ?_ | refine a10 ?_ | refine RW.storeR1 rfl rfl (by first | rfl | exact IsSl.one1 (by assumption) | exact IsSl.one1 (SliceRep.isSl (by assumption))) rfl rfl ?_)
        refine Runs.ret1 Try.func49 Try.results49 rfl (fun w hm => hR _ w _ H1 _ (by simp) ((Snap.le.refl _)) ?_ hm)
        rw [hI]
        exact ⟨rfl, rfl⟩
    | none =>
      rw [e] at hsn
      have hhas : ¬ K.has (p ++ [(i : Int)]) = true := by simp [AT.has, hsn]
      rw [if_neg hhas, hj] at hI
      dsimp only
      repeat (first | refine a1 ?_ | refine a3 ?_ | refine a4 ?_ | refine a5 ?_ | refine a6 ?_ | refine s_loadB ?_ | refine s_loadH ?_ | refine s_loadR ?_ | refine s_fieldB ?_ | refine s_fieldV ?_ | refine s_index ?_ | refine s_indexR ?_ | refine s_len ?_ | refine s_lenR ?_ | refine s_loadBs ?_ | refine s_loadHs ?_ | refine s_sliceHi ?_ | refine s_neqP ?_ | refine s_addI ?_ | refine s_subI ?_ | refine a7 ?_ | refine a8 ?_ | refine a9 ?_ | refine RW.storeR rfl rfl rfl rfl (by first | rfl | (simp [allOne, cellsL, one1]; done) | (simp [allOne, cellsL, one1]; first | assumption | (refine ⟨?_, ?_⟩ <;> assumption))) rfl ?_ | refine a10 ?_ | refine RW.storeR1 rfl rfl (by first | rfl | exact IsSl.one1 (by assumption) | exact IsSl.one1 (SliceRep.isSl (by assumption))) rfl rfl ?_)
      refine Runs.regionD _ _ [] (fun x hx => List.mem_cons_of_mem _ hx) (List.Sublist.refl _) (by kernel_rfl) ?_
      (first | refine t_loadB 0 ?_ | refine t_loadH 0 ?_ | refine t_loadR 0 ?_)
      refine d2 1 ?_
      (first | refine t_fieldB 2 ?_ | refine t_fieldV 2 ?_)
      (first | refine t_loadB 3 ?_ | refine t_loadH 3 ?_ | refine t_loadR 3 ?_)
      (first | refine t_fieldB 4 ?_ | refine t_fieldV 4 ?_)
      (first | refine t_loadB 5 ?_ | refine t_loadH 5 ?_ | refine t_loadR 5 ?_)
      (first | refine t_index 6 ?_ | refine t_indexR 6 ?_)
      (first | refine t_loadB 7 ?_ | refine t_loadH 7 ?_ | refine t_loadR 7 ?_)
      refine d1 8 2 ?_
      refine DW.done (by kernel_rfl) ?_
      repeat (first | refine a1 ?_ | refine a3 ?_ | refine a4 ?_ | refine a5 ?_ | refine a6 ?_ | refine s_loadB ?_ | refine s_loadH ?_ | refine s_loadR ?_ | refine s_fieldB ?_ | refine s_fieldV ?_ | refine s_index ?_ | refine s_indexR ?_ | refine s_len ?_ | refine s_lenR ?_ | refine s_loadBs ?_ | refine s_loadHs ?_ | refine s_sliceHi ?_ | refine s_neqP ?_ | refine s_addI ?_ | refine s_subI ?_ | refine a7 ?_ | refine a8 ?_ | refine a9 ?_ | refine RW.storeR rfl rfl rfl rfl (by first | rfl | (simp [allOne, cellsL, one1]; done) | (simp [allOne, cellsL, one1]; first | assumption | (refine ⟨?_, ?_⟩ <;> assumption))) rfl ?_ | refine a10 ?_ | refine RW.storeR1 rfl rfl (by first | rfl | exact IsSl.one1 (by assumption) | exact IsSl.one1 (SliceRep.isSl (by assumption))) rfl rfl ?_)
      refine Runs.cond_d rfl (fun hno => ?_) (fun hno => ?_)
      · rw [if_neg hno] at hI
        have hc := hy H3 s (c + x.c + tv h (j : Int)) v45 (p ++ [(i : Int)]) hleH3 hrow3 (by omega)
        rw [runY] at hI
        generalize step s (c + x.c + tv h (j : Int), p ++ [(i : Int)]) = res at hI hc
        obtain ⟨b, s'⟩ := res
        repeat (first | refine a1 ?_ | refine a3 ?_ | refine a4 ?_ | refine a5 ?_ | refine a6 ?_ | refine s_loadB ?_ | refine s_loadH ?_ | refine s_loadR ?_ | refine s_fieldB ?_ | refine s_fieldV ?_ | refine s_index ?_ | refine s_indexR ?_ | refine s_len ?_ | refine s_lenR ?_ | refine s_loadBs ?_ | refine s_loadHs ?_ | refine s_sliceHi ?_ | refine s_neqP ?_ | refine s_addI ?_ | refine s_subI ?_ | refine a7 ?_ | refine a8 ?_ | refine a9 ?_ | refine RW.storeR rfl rfl rfl rfl (by first | rfl | (simp [allOne, cellsL, one1]; done) | (simp [allOne, cellsL, one1]; first | assumption | (refine ⟨?_, ?_⟩ <;> assumption))) rfl ?_ | refine a10 ?_ | refine RW.storeR1 rfl rfl (by first | rfl | exact IsSl.one1 (by assumption) | exact IsSl.one1 (SliceRep.isSl (by assumption))) rfl rfl ?_)
        refine Runs.regionD _ (.blk b14 58 [.int .i64 x.f, .int .i64 (j : Int), .int .i64 x.lab, .int .i64 x.c] :: F) [] (fun x hx => List.mem_cons_of_mem _ hx) (List.Sublist.cons _ (List.Sublist.cons_cons _ (List.sublist_append_left ..))) (by kernel_rfl) ?_
        (first | refine t_loadB 0 ?_ | refine t_loadH 0 ?_ | refine t_loadR 0 ?_)
        refine d2 1 ?_
        (first | refine t_fieldB 2 ?_ | refine t_fieldV 2 ?_)
        (first | refine t_loadB 3 ?_ | refine t_loadH 3 ?_ | refine t_loadR 3 ?_)
        refine t_addI 4 ?_
        (first | refine t_loadB 5 ?_ | refine t_loadH 5 ?_ | refine t_loadR 5 ?_)
        refine d2 6 ?_
        (first | refine t_fieldB 7 ?_ | refine t_fieldV 7 ?_)
        (first | refine t_loadB 8 ?_ | refine t_loadH 8 ?_ | refine t_loadR 8 ?_)
        (first | refine t_fieldB 9 ?_ | refine t_fieldV 9 ?_)
        (first | refine t_loadB 10 ?_ | refine t_loadH 10 ?_ | refine t_loadR 10 ?_)
        (first | refine t_index 11 ?_ | refine t_indexR 11 ?_)
        (first | refine t_loadB 12 ?_ | refine t_loadH 12 ?_ | refine t_loadR 12 ?_)
        refine t_addI 13 ?_
        refine d2 14 ?_
        refine DW.callM 15 (F := [.row 3 1 v44 1 (Value.int IntKind.i64 ↑i :: [].append (repL 0 (cellsL (Value.int IntKind.i64 0)))), .blk b14 58 [.int .i64 x.f, .int .i64 (j : Int), .int .i64 x.lab, .int .i64 x.c]]) rfl (by kernel_rfl) rfl rfl hc (List.perm_append_comm (l₁ := [_, _])) rfl rfl ?_ ?_
        · rintro _ H' _ ⟨rfl, rfl⟩ w hm
          exact (hm.perm (List.perm_append_comm (l₂ := [_, _]))).sub (fun x hx => List.mem_cons_of_mem _ (List.mem_cons_of_mem _ hx)) (List.Sublist.cons _ (List.Sublist.cons_cons _ (List.sublist_append_left ..)))
        rintro _ H4 _ ⟨rfl, rfl⟩ hle4
        cases b with
        | true =>
          refine DW.qF 16 rfl (by kernel_rfl) (qev_eq rfl) rfl rfl ?_
          refine DW.done (by kernel_rfl) ?_
          repeat (first | refine a1 ?_ | refine a3 ?_ | refine a4 ?_ | refine a5 ?_ | refine a6 ?_ | refine s_loadB ?_ | refine s_loadH ?_ | refine s_loadR ?_ | refine s_fieldB ?_ | refine s_fieldV ?_ | refine s_index ?_ | refine s_indexR ?_ | refine s_len ?_ | refine s_lenR ?_ | refine s_loadBs ?_ | refine s_loadHs ?_ | refine s_sliceHi ?_ | refine s_neqP ?_ | refine s_addI ?_ | refine s_subI ?_ | refine a7 ?_ | refine a8 ?_ | refine a9 ?_ | refine RW.storeR rfl rfl rfl rfl (by first | rfl | (simp [allOne, cellsL, one1]; done) | (simp [allOne, cellsL, one1]; first | assumption | (refine ⟨?_, ?_⟩ <;> assumption))) rfl ?_ | refine a10 ?_ | refine RW.storeR1 rfl rfl (by first | rfl | exact IsSl.one1 (by assumption) | exact IsSl.one1 (SliceRep.isSl (by assumption))) rfl rfl ?_)
          refine Runs.weak (ih (k + 1, s') ⟨by dsimp only; omega, by dsimp only; rw [hre]; exact hI⟩ (by dsimp only; omega)) (by repeat (first | exact trivial | refine And.intro rfl ?_)) (fun x hx => List.mem_cons_of_mem _ (SubH.h x hx)) (List.sublist_append_left ..)
        | false =>
          refine DW.qF 16 rfl (by kernel_rfl) (qev_eq rfl) rfl rfl ?_
          refine DW.done (by kernel_rfl) ?_
          repeat (first | refine a1 ?_ | refine a3 ?_ | refine a4 ?_ | refine a5 ?_ | refine a6 ?_ | refine s_loadB ?_ | refine s_loadH ?_ | refine s_loadR ?_ | refine s_fieldB ?_ | refine s_fieldV ?_ | refine s_index ?_ | refine s_indexR ?_ | refine s_len ?_ | refine s_lenR ?_ | refine s_loadBs ?_ | refine s_loadHs ?_ | refine s_sliceHi ?_ | refine s_neqP ?_ | refine s_addI ?_ | refine s_subI ?_ | refine a7 ?_ | refine a8 ?_ | refine a9 ?_ | refine RW.storeR rfl rfl rfl rfl (by first | rfl | (simp [allOne, cellsL, one1]; done) | (simp [allOne, cellsL, one1]; first | assumption | (refine ⟨?_, ?_⟩ <;> assumption))) rfl ?_ | refine a10 ?_ | refine RW.storeR1 rfl rfl (by first | rfl | exact IsSl.one1 (by assumption) | exact IsSl.one1 (SliceRep.isSl (by assumption))) rfl rfl ?_)
          refine Runs.weak (O' := F ++ Y s') (l' := [(11, .bool false)]) (Hs' := [H4, H3, H2, H1]) ?_ ⟨rfl, trivial⟩ (fun x hx => List.mem_cons_of_mem _ hx) (List.sublist_append_left ..)
          refine Runs.ret1 Try.func49 Try.results49 rfl (fun w hm => hR _ w _ H1 _ (by simp) ((Snap.le.refl _)) ?_ hm)
          rw [hI]
          exact ⟨rfl, rfl⟩
      · rw [if_pos (by omega)] at hI
        repeat (first | refine a1 ?_ | refine a3 ?_ | refine a4 ?_ | refine a5 ?_ | refine a6 ?_ | refine s_loadB ?_ | refine s_loadH ?_ | refine s_loadR ?_ | refine s_fieldB ?_ | refine s_fieldV ?_ | refine s_index ?_ | refine s_indexR ?_ | refine s_len ?_ | refine s_lenR ?_ | refine s_loadBs ?_ | refine s_loadHs ?_ | refine s_sliceHi ?_ | refine s_neqP ?_ | refine s_addI ?_ | refine s_subI ?_ | refine a7 ?_ | refine a8 ?_ | refine a9 ?_ | refine RW.storeR rfl rfl rfl rfl (by first | rfl | (simp [allOne, cellsL, one1]; done) | (simp [allOne, cellsL, one1]; first | assumption | (refine ⟨?_, ?_⟩ <;> assumption))) rfl ?_ | refine a10 ?_ | refine RW.storeR1 rfl rfl (by first | rfl | exact IsSl.one1 (by assumption) | exact IsSl.one1 (SliceRep.isSl (by assumption))) rfl rfl ?_)
        refine Runs.weak (ih (k + 1, s) ⟨by dsimp only; omega, by dsimp only; rw [hre]; exact hI⟩ (by dsimp only; omega)) (by repeat (first | exact trivial | refine And.intro rfl ?_)) (fun x hx => List.mem_cons_of_mem _ (SubH.h x hx)) (by repeat (first | exact List.nil_sublist _ | exact List.Sublist.refl _ | refine List.Sublist.cons_cons _ ?_ | refine List.Sublist.cons _ ?_))
  · have hkl : (outOf gl (n : Int)).drop k = [] := List.drop_eq_nil_of_le (by omega)
    rw [hkl, List.flatMap_nil, List.nil_append] at hI
    cases T with
    | mk bT TT pre vl' vb' ls' ks' wh' =>
    have iT : ∀ s, GetBlk (F ++ Y s) bT TT (pre ++ [vl', vb', .bool wh']) := fun s => ⟨List.mem_append_left _ (hF _ (hTown _ (by simp [AT.own])))⟩
    have c2 := pre_at2 pre vl' vb' (.bool wh')
    have hw : K.isWh p = wh' := by simp [AT.isWh, hsub, AT.wh]
    simp only [AT.ptr]
    rw [hw] at hI
    repeat (first | refine a1 ?_ | refine a3 ?_ | refine a4 ?_ | refine a5 ?_ | refine a6 ?_ | refine s_loadB ?_ | refine s_loadH ?_ | refine s_loadR ?_ | refine s_fieldB ?_ | refine s_fieldV ?_ | refine s_index ?_ | refine s_indexR ?_ | refine s_len ?_ | refine s_lenR ?_ | refine s_loadBs ?_ | refine s_loadHs ?_ | refine s_sliceHi ?_ | refine s_neqP ?_ | refine s_addI ?_ | refine s_subI ?_ | refine a7 ?_ | refine a8 ?_ | refine a9 ?_ | refine RW.storeR rfl rfl rfl rfl (by first | rfl | (simp [allOne, cellsL, one1]; done) | (simp [allOne, cellsL, one1]; first | assumption | (refine ⟨?_, ?_⟩ <;> assumption))) rfl ?_ | refine a10 ?_ | refine RW.storeR1 rfl rfl (by first | rfl | exact IsSl.one1 (by assumption) | exact IsSl.one1 (SliceRep.isSl (by assumption))) rfl rfl ?_)
    refine RW.dec 99 rfl (fun hn1 => ?_) (fun hn1 => ?_)
    · cases wh' with
      | true =>
        rw [if_neg (by simp)] at hI
        repeat (first | refine a1 ?_ | refine a3 ?_ | refine a4 ?_ | refine a5 ?_ | refine a6 ?_ | refine s_loadB ?_ | refine s_loadH ?_ | refine s_loadR ?_ | refine s_fieldB ?_ | refine s_fieldV ?_ | refine s_index ?_ | refine s_indexR ?_ | refine s_len ?_ | refine s_lenR ?_ | refine s_loadBs ?_ | refine s_loadHs ?_ | refine s_sliceHi ?_ | refine s_neqP ?_ | refine s_addI ?_ | refine s_subI ?_ | refine a7 ?_ | refine a8 ?_ | refine a9 ?_ | refine RW.storeR rfl rfl rfl rfl (by first | rfl | (simp [allOne, cellsL, one1]; done) | (simp [allOne, cellsL, one1]; first | assumption | (refine ⟨?_, ?_⟩ <;> assumption))) rfl ?_ | refine a10 ?_ | refine RW.storeR1 rfl rfl (by first | rfl | exact IsSl.one1 (by assumption) | exact IsSl.one1 (SliceRep.isSl (by assumption))) rfl rfl ?_)
        refine Runs.ret1 Try.func49 Try.results49 rfl (fun w hm => hR _ w _ H1 _ (by simp) ((Snap.le.refl _)) ?_ hm)
        rw [hI]
        exact ⟨rfl, rfl⟩
      | false =>
        rw [if_pos ⟨by omega, rfl⟩] at hI
        have hc := hy H1 s c v p hle1 hv (by omega)
        rw [runY] at hI
        generalize step s (c, p) = res at hI hc
        obtain ⟨b, s'⟩ := res
        repeat (first | refine a1 ?_ | refine a3 ?_ | refine a4 ?_ | refine a5 ?_ | refine a6 ?_ | refine s_loadB ?_ | refine s_loadH ?_ | refine s_loadR ?_ | refine s_fieldB ?_ | refine s_fieldV ?_ | refine s_index ?_ | refine s_indexR ?_ | refine s_len ?_ | refine s_lenR ?_ | refine s_loadBs ?_ | refine s_loadHs ?_ | refine s_sliceHi ?_ | refine s_neqP ?_ | refine s_addI ?_ | refine s_subI ?_ | refine a7 ?_ | refine a8 ?_ | refine a9 ?_ | refine RW.storeR rfl rfl rfl rfl (by first | rfl | (simp [allOne, cellsL, one1]; done) | (simp [allOne, cellsL, one1]; first | assumption | (refine ⟨?_, ?_⟩ <;> assumption))) rfl ?_ | refine a10 ?_ | refine RW.storeR1 rfl rfl (by first | rfl | exact IsSl.one1 (by assumption) | exact IsSl.one1 (SliceRep.isSl (by assumption))) rfl rfl ?_)
        refine RW.callD rfl rfl hc (List.Sublist.refl _) rfl rfl ?_
        rintro _ H4 _ ⟨rfl, rfl⟩ hle4
        repeat (first | refine a1 ?_ | refine a3 ?_ | refine a4 ?_ | refine a5 ?_ | refine a6 ?_ | refine s_loadB ?_ | refine s_loadH ?_ | refine s_loadR ?_ | refine s_fieldB ?_ | refine s_fieldV ?_ | refine s_index ?_ | refine s_indexR ?_ | refine s_len ?_ | refine s_lenR ?_ | refine s_loadBs ?_ | refine s_loadHs ?_ | refine s_sliceHi ?_ | refine s_neqP ?_ | refine s_addI ?_ | refine s_subI ?_ | refine a7 ?_ | refine a8 ?_ | refine a9 ?_ | refine RW.storeR rfl rfl rfl rfl (by first | rfl | (simp [allOne, cellsL, one1]; done) | (simp [allOne, cellsL, one1]; first | assumption | (refine ⟨?_, ?_⟩ <;> assumption))) rfl ?_ | refine a10 ?_ | refine RW.storeR1 rfl rfl (by first | rfl | exact IsSl.one1 (by assumption) | exact IsSl.one1 (SliceRep.isSl (by assumption))) rfl rfl ?_)
        cases b with
        | true =>
          refine Runs.ret1 Try.func49 Try.results49 rfl (fun w hm => hR _ w _ H1 _ (by simp) ((Snap.le.refl _)) ?_ hm)
          rw [hI]
          exact ⟨rfl, rfl⟩
        | false =>
          refine Runs.ret1 Try.func49 Try.results49 rfl (fun w hm => hR _ w _ H1 _ (by simp) ((Snap.le.refl _)) ?_ hm)
          rw [hI]
          exact ⟨rfl, rfl⟩
    · rw [if_neg (fun h => hn1 (by omega))] at hI
      repeat (first | refine a1 ?_ | refine a3 ?_ | refine a4 ?_ | refine a5 ?_ | refine a6 ?_ | refine s_loadB ?_ | refine s_loadH ?_ | refine s_loadR ?_ | refine s_fieldB ?_ | refine s_fieldV ?_ | refine s_index ?_ | refine s_indexR ?_ | refine s_len ?_ | refine s_lenR ?_ | refine s_loadBs ?_ | refine s_loadHs ?_ | refine s_sliceHi ?_ | refine s_neqP ?_ | refine s_addI ?_ | refine s_subI ?_ | refine a7 ?_ | refine a8 ?_ | refine a9 ?_ | refine RW.storeR rfl rfl rfl rfl (by first | rfl | (simp [allOne, cellsL, one1]; done) | (simp [allOne, cellsL, one1]; first | assumption | (refine ⟨?_, ?_⟩ <;> assumption))) rfl ?_ | refine a10 ?_ | refine RW.storeR1 rfl rfl (by first | rfl | exact IsSl.one1 (by assumption) | exact IsSl.one1 (SliceRep.isSl (by assumption))) rfl rfl ?_)
      refine Runs.ret1 Try.func49 Try.results49 rfl (fun w hm => hR _ w _ H1 _ (by simp) ((Snap.le.refl _)) ?_ hm)
      rw [hI]
      exact ⟨rfl, rfl⟩
end Go.Proofs.Ytjdhcblofkkibaa

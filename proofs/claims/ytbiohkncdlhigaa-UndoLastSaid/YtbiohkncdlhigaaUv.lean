/-
  Contracts: pasts from described steps; such pasts are good. Conditions: bytes are bytes.
-/
import Derived.Test.YtbiohkncdlhigaaUu
namespace Go.Proofs.Ytbiohkncdlhigaa
open Go Go.RowKit

structure Rq where
  app : Int
  undo : Bool
  x : Rw
  deriving DecidableEq
def okRq (x : Rq) : Prop := isByte x.app ∧ okRw x.x
def RqL : Lay Rq where
  sz := 7
  rep H x c := ∃ v, c = [.int .u8 x.app, .bool x.undo, .int .u8 x.x.k, .int .u8 x.x.a, .int .u8 x.x.l, .int .u8 x.x.t, v] ∧ SliceRep H U8 v x.x.tx
  mono := by rintro H H' x c hle ⟨v, h1, h2⟩; exact ⟨v, h1, h2.mono hle⟩
  len := by rintro H x c ⟨v, rfl, _⟩; rfl
  one := by
    rintro H x c ⟨v, rfl, ⟨⟨A, cap, rfl, _⟩, _⟩⟩ u hu
    simp at hu
    rcases hu with rfl | rfl | rfl | rfl | rfl | rfl | rfl <;> rfl
theorem SliceRep.rq {H : Snap} {v : Value} {xs : List Rq} (h : SliceRep H RqL v xs) {k : Nat} {x : Rq} (hx : xs[k]? = some x) :
    ∃ vl, SliceRep H U8 vl x.x.tx ∧ ∀ j u, [.int .u8 x.app, .bool x.undo, .int .u8 x.x.k, .int .u8 x.x.a, .int .u8 x.x.l, .int .u8 x.x.t, vl][j]? = some u → H.cell (vat v (k * 7 + j)) = some u := by
  obtain ⟨c, ⟨vl, rfl, h1⟩, h2⟩ := h.at hx
  exact ⟨vl, h1, h2⟩
def rqV (x : Rq) (v : Value) : Value := .agg #[.int .u8 x.app, .bool x.undo, .int .u8 x.x.k, .int .u8 x.x.a, .int .u8 x.x.l, .int .u8 x.x.t, v]
def nextP (p : Pst) (x : Rq) : Stp :=
  if 128 ≤ x.x.k then ⟨x.app % (p.ds.length : Int), (p.ss.length : Int), editE ⟨0, x.x.a, x.x.l, x.x.t, x.x.tx⟩ (p.ds.getD (x.app % (p.ds.length : Int)).toNat nilD).tx.length, false⟩
  else ⟨x.app % (p.ds.length : Int), -1, editE x.x (p.ds.getD (x.app % (p.ds.length : Int)).toNat nilD).tx.length, false⟩
def stepP (p : Pst) (x : Rq) : Pst :=
  if x.undo = true ∧ 0 < p.ss.length then (if (undoP p (x.x.a % (p.ss.length : Int))).2.2 = 0 then (undoP p (x.x.a % (p.ss.length : Int))).1 else p)
  else (if (doP p (nextP p x)).2 = 0 then (doP p (nextP p x)).1 else p)
def madeP (l : List Rq) (k : Nat) : Pst := (l.take k).foldl stepP (newP 2)
theorem madeP_succ {l : List Rq} {k : Nat} {x : Rq} (h : l[k]? = some x) : madeP l (k + 1) = stepP (madeP l k) x := by
  unfold madeP
  rw [List.take_add_one, h]
  simp

/-! ### Pasts stay good -/
theorem doP_ok {p : Pst} {s : Stp} (h : (doP p s).2 = 0) : 0 ≤ s.app ∧ s.app < p.ds.length ∧ s.un = false ∧ -1 ≤ s.id ∧ (∀ t ∈ p.ss, 0 ≤ s.id → t.id ≠ s.id) ∧ (stD (p.ds.getD s.app.toNat nilD) s).2 = 0 ∧ (doP p s).1 = ⟨p.ds.set s.app.toNat (stD (p.ds.getD s.app.toNat nilD) s).1, p.ss ++ [s]⟩ := by
  unfold doP at *
  split at h
  · simp at h
  · rename_i c1
    split at h
    · simp at h
    · rename_i c2
      split at h
      · simp at h
      · rename_i c3
        split at h
        · rename_i c4; exact absurd h c4
        · rename_i c4
          rw [if_neg c1, if_neg c2, if_neg c3, if_neg c4]
          refine ⟨by omega, by omega, ?_, by omega, fun t ht h0 he => c3 (List.any_eq_true.2 ⟨t, ht, decide_eq_true ⟨h0, he⟩⟩), by simpa using c4, rfl⟩
          cases e : s.un with
          | false => rfl
          | true => exact absurd (.inr (.inr (.inl e))) c1
theorem doP_good {p : Pst} {s : Stp} (hg : GoodP p) (h : (doP p s).2 = 0) (hid : s.id = -1 ∨ s.id = (p.ss.length : Int)) (hl : p.ss.length < 50) (htx : s.e.tx.length ≤ 40) : GoodP (doP p s).1 := by
  obtain ⟨h1, h2, h3, h4, h5, h6, h7⟩ := doP_ok h
  rw [h7]
  have hmem : ∀ t, t ∈ p.ss ++ [s] → t ∈ p.ss ∨ t = s := fun t ht => by simpa using ht
  have hlen : (p.ds.set s.app.toNat (stD (p.ds.getD s.app.toNat nilD) s).1).length = p.ds.length := by simp
  refine ⟨by rw [hlen]; exact hg.len, by simp; omega, fun t ht => ?_, fun j t ht => ?_, fun t ht => ?_, fun a ha => ?_⟩
  · rcases hmem t ht with ht | rfl
    · dsimp only; rw [hlen]; exact hg.app t ht
    · dsimp only; rw [hlen]; omega
  · dsimp only at ht
    by_cases c : j < p.ss.length
    · rw [List.getElem?_append_left c] at ht; exact hg.ids j t ht
    · rw [List.getElem?_append_right (by omega)] at ht
      have hj : j - p.ss.length = 0 := by
        have := (List.getElem?_eq_some_iff.1 ht).1
        simp at this; omega
      rw [hj, List.getElem?_cons_zero, Option.some.injEq] at ht
      subst ht
      omega
  · rcases hmem t ht with ht | rfl
    · exact hg.tx t ht
    · exact htx
  · dsimp only at ha
    rw [hlen] at ha
    obtain ⟨d, g1, g2⟩ := hg.run a ha
    dsimp only
    rw [runS_app, g2]
    by_cases c : s.app = (a : Int)
    · have e : s.app.toNat = a := by omega
      rw [e] at h6 ⊢
      have e2 : p.ds.getD a nilD = d := by rw [List.getD_eq_getElem?_getD, g1]; rfl
      rw [e2] at h6 ⊢
      refine ⟨(stD d s).1, by rw [List.getElem?_set_self ha], ?_⟩
      show runS a d [s] = _
      rw [runS_do (by rintro (k | k); exact k c; rw [h3] at k; cases k) h6]
      rfl
    · refine ⟨d, by rw [List.getElem?_set_ne (by omega)]; exact g1, ?_⟩
      show runS a d [s] = _
      rw [runS_skip (.inl c)]
      rfl
theorem newP_good : GoodP (newP 2) := ⟨Nat.le_refl 2, by simp [newP], by simp [newP], by simp [newP], by simp [newP], fun a ha => ⟨nilD, by
  rcases a with _ | _ | a
  · rfl
  · rfl
  · simp [newP] at ha; omega, rfl⟩⟩
theorem next_ok (p : Pst) (x : Rq) : (nextP p x).e.tx.length ≤ 40 ∧ ((nextP p x).id = -1 ∨ (nextP p x).id = (p.ss.length : Int)) := by
  unfold nextP
  split
  · exact ⟨Nat.le_trans (editE_tx _ _) (by omega), .inr rfl⟩
  · exact ⟨Nat.le_trans (editE_tx _ _) (by omega), .inl rfl⟩
theorem undoP_good {p : Pst} {i : Int} (hg : GoodP p) (h : (undoP p i).2.2 = 0) : GoodP (undoP p i).1 ∧ (undoP p i).1.ss.length = p.ss.length := by
  obtain ⟨k, s, rfl, hs, hs0, hsu, hdn, hun⟩ := undoP_ok (p := p) (i := i) (by simp [h])
  rw [hun]
  exact ⟨undP_good hg hs hs0 hsu ((dep_nil rfl).1 hdn), undS_length hs⟩
theorem stepP_good {p : Pst} {x : Rq} (hg : GoodP p) (hl : p.ss.length < 50) : GoodP (stepP p x) ∧ (stepP p x).ss.length ≤ p.ss.length + 1 := by
  unfold stepP
  split
  · split
    · rename_i h
      have := undoP_good hg h
      exact ⟨this.1, by omega⟩
    · exact ⟨hg, by omega⟩
  · split
    · rename_i h
      refine ⟨doP_good hg h (next_ok p x).2 hl (next_ok p x).1, ?_⟩
      rw [(doP_ok h).2.2.2.2.2.2]
      simp
    · exact ⟨hg, by omega⟩
theorem madeP_good (l : List Rq) : ∀ k, k ≤ 49 → GoodP (madeP l k) ∧ (madeP l k).ss.length ≤ k
  | 0, _ => ⟨newP_good, by simp [madeP, newP]⟩
  | k + 1, hk => by
    obtain ⟨h1, h2⟩ := madeP_good l k (by omega)
    cases e : l[k]? with
    | none =>
      have : madeP l (k + 1) = madeP l k := by
        unfold madeP
        rw [List.take_of_length_le (by have := List.getElem?_eq_none_iff.1 e; omega), List.take_of_length_le (by have := List.getElem?_eq_none_iff.1 e; omega)]
      rw [this]
      exact ⟨h1, by omega⟩
    | some x =>
      rw [madeP_succ e]
      obtain ⟨g1, g2⟩ := stepP_good (x := x) h1 (by omega)
      exact ⟨g1, by omega⟩

theorem stepP_len (p : Pst) (x : Rq) : (stepP p x).ds.length = p.ds.length := by
  unfold stepP
  split
  · split
    · rename_i h
      obtain ⟨k, s, hk, hs, hs0, hsu, hdn, hun⟩ := undoP_ok (p := p) (i := x.x.a % (p.ss.length : Int)) (by simp [h])
      rw [hun]
      simp [undP]
    · rfl
  · split
    · rename_i h
      rw [(doP_ok h).2.2.2.2.2.2]
      simp
    · rfl
theorem madeP_len (l : List Rq) : ∀ k, (madeP l k).ds.length = 2
  | 0 => by simp [madeP, newP]
  | k + 1 => by
    have h1 := madeP_len l k
    cases e : l[k]? with
    | none =>
      have : madeP l (k + 1) = madeP l k := by
        unfold madeP
        rw [List.take_of_length_le (by have := List.getElem?_eq_none_iff.1 e; omega), List.take_of_length_le (by have := List.getElem?_eq_none_iff.1 e; omega)]
      rw [this, h1]
    | some x => rw [madeP_succ e, stepP_len, h1]

/-! ### Contracts -/
theorem tail7 {a b c d e f g : Value} : ∀ (j : Nat) (u : Value), [c, d, e, f, g][j]? = some u → [a, b, c, d, e, f, g][2 + j]? = some u
  | 0, _, h => h
  | 1, _, h => h
  | 2, _, h => h
  | 3, _, h => h
  | 4, _, h => h
  | _ + 5, _, h => by simp at h
set_option maxHeartbeats 1000000 in
theorem next_c {H : Snap} {vd vs vx : Value} {ds : List Dc} {ss : List Stp} {x : Rq} (hd : SliceRep H DocL vd ds) (hv : SliceRep H StepL vs ss) (hvx : SliceRep H U8 vx x.x.tx) (hx : okRq x) (hg : GoodP ⟨ds, ss⟩) (h0d : 0 < ds.length) :
    Pure Try.prog 20 #[.agg #[vd, vs], .agg #[.int .u8 x.app, .bool x.undo, .int .u8 x.x.k, .int .u8 x.x.a, .int .u8 x.x.l, .int .u8 x.x.t, vx]] H (fun _ r => r = stpV (nextP ⟨ds, ss⟩ x)) := by
  have ho1 := hd.isSl.one1
  have ho2 := hv.isSl.one1
  have ho3 := hvx.isSl.one1
  have hisd := hd.isSl
  have hiss := hv.isSl
  have hdl : ds.length ≤ 2 := hg.len
  have hsl : ss.length ≤ 50 := hg.sz
  obtain ⟨hx1, hx2⟩ := hx
  unfold isByte at hx1
  have hne : nextP ⟨ds, ss⟩ x = nextP ⟨ds, ss⟩ x := rfl
  conv at hne => rhs; unfold nextP
  dsimp only at hne
  have z1 := Int.emod_nonneg x.app (by omega : (ds.length : Int) ≠ 0)
  have z2 := Int.emod_lt_of_pos x.app (by omega : 0 < (ds.length : Int))
  obtain ⟨a, ha⟩ : ∃ a : Nat, x.app % (ds.length : Int) = (a : Int) := ⟨(x.app % (ds.length : Int)).toNat, by omega⟩
  rw [ha, Int.toNat_natCast] at hne
  obtain ⟨d, hda⟩ : ∃ d, ds[a]? = some d := ⟨_, List.getElem?_eq_getElem (by omega)⟩
  have hgd : ds.getD a nilD = d := by rw [List.getD_eq_getElem?_getD, hda]; rfl
  rw [hgd] at hne
  have hvd := good_valid hg d (List.mem_of_getElem? hda)
  have hdt := hvd.2.1
  obtain ⟨vm, hvm, hcell⟩ := hd.dc hda
  have hTx : H.cell (vat vd (a * 2 + 0)) = some (str d.tx) := hcell 0 _ rfl
  refine Pure.intro Try.func20 rfl Try.ntmps20 rfl (fun E R hM hR => ?_)
  repeat (first | refine a4 ?_ | refine a6 ?_)
  refine RW.box rfl rfl rfl rfl (fun b2 => ?_)
  refine RW.box rfl rfl rfl rfl (fun b3 => ?_)
  refine RW.alloc rfl rfl rfl (fun b4 => ?_)
  repeat (first | refine a4 ?_ | refine a5 ?_ | refine a6 ?_ | refine s_fieldB ?_ | refine s_loadB ?_ | refine s_convI ?_ | refine s_len ?_ | refine s_rem ?_ | refine s_build ?_)
  rw [ha]
  skip
  refine RW.alloc rfl rfl rfl (fun b5 => ?_)
  repeat (first | refine a1 ?_ | refine a4 ?_ | refine a5 ?_ | refine a6 ?_ | refine s_fieldB ?_ | refine s_fieldV ?_ | refine s_loadB ?_ | refine s_loadH ?_ | refine s_index ?_ | refine s_lenS ?_ | refine s_geq ?_ | refine a9 ?_)
  refine Runs.cond_d rfl (fun hk => ?_) (fun hk => ?_)
  · rw [if_pos hk] at hne
    rw [hne] at hR
    repeat (first | refine a4 ?_ | refine a5 ?_ | refine a6 ?_ | refine s_fieldB ?_ | refine s_loadB ?_ | refine s_len ?_ | refine a9 ?_)
    refine RW.q (QV.loadBp (c := [.int .u8 0, .int .u8 x.x.a, .int .u8 x.x.l, .int .u8 x.x.t, vx]) rfl tail7) rfl rfl ?_
    repeat (refine a1 ?_)
    refine RW.callV rfl (edit_c (H := H) (x := ⟨0, x.x.a, x.x.l, x.x.t, x.x.tx⟩) (n := (d.tx.length : Int)) hvx ⟨⟨Int.le_refl 0, by dsimp only; omega⟩, hx2.2⟩ (by omega)) rfl rfl ?_
    rintro _ _ rfl
    repeat (first | refine a4 ?_ | refine a5 ?_ | refine a6 ?_ | refine s_fieldB ?_ | refine s_loadBs ?_ | refine a9 ?_)
    refine Runs.retC Try.func20 Try.results20 rfl (fun w hm => hR _ w _ H _ (List.mem_cons_self ..) (Snap.le.refl _) ?_ hm)
    rfl
  · rw [if_neg hk] at hne
    rw [hne] at hR
    repeat (first | refine a4 ?_ | refine a6 ?_ | refine s_fieldB ?_)
    refine RW.q (QV.loadBp (c := [.int .u8 x.x.k, .int .u8 x.x.a, .int .u8 x.x.l, .int .u8 x.x.t, vx]) rfl tail7) rfl rfl ?_
    repeat (refine a1 ?_)
    refine RW.callV rfl (edit_c (H := H) (x := x.x) (n := (d.tx.length : Int)) hvx hx2 (by omega)) rfl rfl ?_
    rintro _ _ rfl
    repeat (first | refine a4 ?_ | refine a5 ?_ | refine a6 ?_ | refine s_fieldB ?_ | refine s_loadBs ?_ | refine a9 ?_)
    refine Runs.retC Try.func20 Try.results20 rfl (fun w hm => hR _ w _ H _ (List.mem_cons_self ..) (Snap.le.refl _) ?_ hm)
    rfl
set_option maxHeartbeats 2000000 in
theorem stepP_c {H : Snap} {vd vs vx : Value} {ds : List Dc} {ss : List Stp} {x : Rq} (hd : SliceRep H DocL vd ds) (hv : SliceRep H StepL vs ss) (hvx : SliceRep H U8 vx x.x.tx) (hx : okRq x) (hg : GoodP ⟨ds, ss⟩) (h0d : 0 < ds.length) :
    Pure Try.prog 32 #[.agg #[vd, vs], .agg #[.int .u8 x.app, .bool x.undo, .int .u8 x.x.k, .int .u8 x.x.a, .int .u8 x.x.l, .int .u8 x.x.t, vx]] H (fun H' r => PastR H' r (stepP ⟨ds, ss⟩ x)) := by
  have ho1 := hd.isSl.one1
  have ho2 := hv.isSl.one1
  have ho3 := hvx.isSl.one1
  have hisd := hd.isSl
  have hiss := hv.isSl
  have hdl : ds.length ≤ 2 := hg.len
  have hsl : ss.length ≤ 50 := hg.sz
  have hxa := hx.2.2.1
  unfold isByte at hxa
  have hst : stepP ⟨ds, ss⟩ x = stepP ⟨ds, ss⟩ x := rfl
  conv at hst => rhs; unfold stepP
  dsimp only at hst
  have hdv := good_valid hg
  have hnx := next_ok ⟨ds, ss⟩ x
  obtain ⟨xa, xu, xx⟩ := x
  dsimp only at *
  have hnc := next_c (H := H) (x := ⟨xa, xu, xx⟩) hd hv hvx hx hg h0d
  generalize nextP ⟨ds, ss⟩ ⟨xa, xu, xx⟩ = nx at *
  dsimp only at hnc
  refine Pure.intro Try.func32 rfl Try.ntmps32 rfl (fun E R hM hR => ?_)
  repeat (first | refine a4 ?_ | refine a6 ?_)
  refine RW.box rfl rfl rfl rfl (fun b2 => ?_)
  refine RW.box rfl rfl rfl rfl (fun b3 => ?_)
  refine RW.alloc rfl rfl rfl (fun b4 => ?_)
  repeat (first | refine a1 ?_ | refine a4 ?_ | refine a5 ?_ | refine a6 ?_ | refine s_fieldB ?_ | refine s_loadB ?_)
  cases xu with
  | false =>
    rw [if_neg (by simp)] at hst
    repeat (first | refine a1 ?_ | refine a3 ?_ | refine a4 ?_ | refine a5 ?_ | refine a8 ?_)
    skip
    refine Runs.regionD _ _ [9] (fun x hx => List.mem_cons_of_mem _ hx) (List.Sublist.refl _) (by kernel_rfl) ?_
    refine t_loadBs 0 ?_
    refine t_loadBs 1 ?_
    refine t_loadBs 2 ?_
    refine DW.float 8 rfl rfl ?_
    refine DWf.call 3 rfl rfl rfl (by kernel_rfl) (by kernel_rfl) rfl rfl rfl rfl rfl rfl (hnc) ?_
    rintro _ H2 rfl hle2
    refine DWf.call 4 rfl rfl rfl (by kernel_rfl) (by kernel_rfl) rfl rfl rfl rfl rfl rfl (rdoP_c (H := H) (s := nx) hd hv hdv (by omega) (by omega) (by omega)) ?_
    rintro _ H3 ⟨vp, rfl, hrp⟩ hle3
    obtain ⟨vd3, vs3, rfl, hd3, hs3⟩ := hrp
    have ho4 := hd3.isSl.one1
    have ho5 := hs3.isSl.one1
    refine DWf.qF 5 rfl rfl (by kernel_rfl) (qev_eq rfl) (fun _ => qev_eq rfl) rfl rfl ?_
    refine DWf.qF 6 rfl rfl (by kernel_rfl) (qev_eq rfl) (fun _ => qev_eq rfl) rfl rfl ?_
    refine DWf.qF 7 rfl rfl (by kernel_rfl) (qev_eq rfl) (fun _ => qev_eq rfl) rfl rfl ?_
    refine DWf.take rfl (by kernel_rfl) rfl rfl rfl (fun b6 => ?_)
    simp only [List.cons_append, List.nil_append]
    refine DW.storeB 9 rfl (by kernel_rfl) rfl rfl rfl rfl (by first | rfl | (simp [allOne, cellsL, one1]; done) | (simp [allOne, cellsL, one1]; first | assumption | (refine ⟨?_, ?_⟩ <;> assumption) | (refine ⟨?_, ?_, ?_⟩ <;> assumption))) rfl ?_
    refine d2 10 ?_
    refine DW.done (by kernel_rfl) ?_
    repeat (first | refine a1 ?_ | refine a4 ?_ | refine a5 ?_ | refine a6 ?_)
    refine Runs.cond_d rfl (fun h0 => ?_) (fun h0 => ?_)
    · rw [if_pos h0] at hst
      rw [hst] at hR
      repeat (first | refine a4 ?_ | refine a5 ?_ | refine a6 ?_ | refine s_loadBs ?_ | refine a9 ?_)
      refine Runs.retC Try.func32 Try.results32 rfl (fun w hm => hR _ w _ H3 _ (by simp) (hle3) ?_ hm)
      exact ⟨_, _, rfl, hd3, hs3⟩
    · rw [if_neg h0] at hst
      rw [hst] at hR
      repeat (first | refine a4 ?_ | refine a5 ?_ | refine a6 ?_ | refine s_loadBs ?_ | refine a9 ?_)
      refine Runs.retC Try.func32 Try.results32 rfl (fun w hm => hR _ w _ H _ (List.mem_cons_self ..) (Snap.le.refl _) ?_ hm)
      exact ⟨_, _, rfl, hd, hv⟩
  | true =>
    repeat (first | refine a1 ?_ | refine a5 ?_ | refine s_fieldB ?_ | refine s_loadB ?_ | refine s_len ?_)
    by_cases hs0 : 0 < ss.length
    · rw [if_pos ⟨rfl, hs0⟩] at hst
      rw [decide_eq_true (show (0 : Int) < (ss.length : Int) by omega)]
      repeat (first | refine a4 ?_ | refine a7 ?_)
      refine Runs.regionD _ _ [11] (fun x hx => List.mem_cons_of_mem _ hx) (List.Sublist.refl _) (by kernel_rfl) ?_
      refine t_loadBs 0 ?_
      refine t_fieldB 1 ?_
      refine t_fieldB 2 ?_
      refine t_loadB 3 ?_
      refine t_convI 4 ?_
      refine t_fieldB 5 ?_
      refine t_loadB 6 ?_
      refine t_len 7 ?_
      refine t_rem 8 ?_
      refine DW.float 10 rfl rfl ?_
      refine DWf.call 9 rfl rfl rfl (by kernel_rfl) (by kernel_rfl) rfl rfl rfl rfl rfl rfl (rundo_c (H := H) hd hv hg) ?_
      rintro _ H2 ⟨vd2, vs2, vl, rfl, hd2, hs2, hl2⟩ hle2
      have ho4 := hd2.isSl.one1
      have ho5 := hs2.isSl.one1
      have ho6 := hl2.isSl.one1
      refine DWf.take rfl (by kernel_rfl) rfl rfl rfl (fun b5 => ?_)
      simp only [List.cons_append, List.nil_append]
      refine DW.storeB 11 rfl (by kernel_rfl) rfl rfl rfl rfl (by simp [allOne, cellsL, one1]; exact ⟨ho4, ho5, ho6⟩) rfl ?_
      refine DW.done (by kernel_rfl) ?_
      repeat (first | refine a1 ?_ | refine a4 ?_ | refine a5 ?_ | refine a6 ?_ | refine s_fieldB ?_ | refine s_loadB ?_)
      refine Runs.cond_d rfl (fun h0 => ?_) (fun h0 => ?_)
      · rw [if_pos h0] at hst
        rw [hst] at hR
        repeat (first | refine a4 ?_ | refine a6 ?_ | refine s_fieldB ?_)
        refine RW.q (QV.loadBp (c := [vd2, vs2]) rfl past4) rfl rfl ?_
        repeat (first | refine a5 ?_ | refine a9 ?_)
        refine Runs.retC Try.func32 Try.results32 rfl (fun w hm => hR _ w _ H2 _ (by simp) (hle2) ?_ hm)
        exact ⟨_, _, rfl, hd2, hs2⟩
      · rw [if_neg h0] at hst
        rw [hst] at hR
        repeat (first | refine a4 ?_ | refine a5 ?_ | refine a6 ?_ | refine s_loadBs ?_ | refine a9 ?_)
        refine Runs.retC Try.func32 Try.results32 rfl (fun w hm => hR _ w _ H _ (List.mem_cons_self ..) (Snap.le.refl _) ?_ hm)
        exact ⟨_, _, rfl, hd, hv⟩
    · rw [if_neg (by rintro ⟨_, h⟩; exact hs0 h)] at hst
      rw [decide_eq_false (show ¬ (0 : Int) < (ss.length : Int) by omega)]
      repeat (first | refine a4 ?_ | refine a8 ?_)
      skip
      refine Runs.regionD _ _ [9] (fun x hx => List.mem_cons_of_mem _ hx) (List.Sublist.refl _) (by kernel_rfl) ?_
      refine t_loadBs 0 ?_
      refine t_loadBs 1 ?_
      refine t_loadBs 2 ?_
      refine DW.float 8 rfl rfl ?_
      refine DWf.call 3 rfl rfl rfl (by kernel_rfl) (by kernel_rfl) rfl rfl rfl rfl rfl rfl (hnc) ?_
      rintro _ H2 rfl hle2
      refine DWf.call 4 rfl rfl rfl (by kernel_rfl) (by kernel_rfl) rfl rfl rfl rfl rfl rfl (rdoP_c (H := H) (s := nx) hd hv hdv (by omega) (by omega) (by omega)) ?_
      rintro _ H3 ⟨vp, rfl, hrp⟩ hle3
      obtain ⟨vd3, vs3, rfl, hd3, hs3⟩ := hrp
      have ho4 := hd3.isSl.one1
      have ho5 := hs3.isSl.one1
      refine DWf.qF 5 rfl rfl (by kernel_rfl) (qev_eq rfl) (fun _ => qev_eq rfl) rfl rfl ?_
      refine DWf.qF 6 rfl rfl (by kernel_rfl) (qev_eq rfl) (fun _ => qev_eq rfl) rfl rfl ?_
      refine DWf.qF 7 rfl rfl (by kernel_rfl) (qev_eq rfl) (fun _ => qev_eq rfl) rfl rfl ?_
      refine DWf.take rfl (by kernel_rfl) rfl rfl rfl (fun b6 => ?_)
      simp only [List.cons_append, List.nil_append]
      refine DW.storeB 9 rfl (by kernel_rfl) rfl rfl rfl rfl (by first | rfl | (simp [allOne, cellsL, one1]; done) | (simp [allOne, cellsL, one1]; first | assumption | (refine ⟨?_, ?_⟩ <;> assumption) | (refine ⟨?_, ?_, ?_⟩ <;> assumption))) rfl ?_
      refine d2 10 ?_
      refine DW.done (by kernel_rfl) ?_
      repeat (first | refine a1 ?_ | refine a4 ?_ | refine a5 ?_ | refine a6 ?_)
      refine Runs.cond_d rfl (fun h0 => ?_) (fun h0 => ?_)
      · rw [if_pos h0] at hst
        rw [hst] at hR
        repeat (first | refine a4 ?_ | refine a5 ?_ | refine a6 ?_ | refine s_loadBs ?_ | refine a9 ?_)
        refine Runs.retC Try.func32 Try.results32 rfl (fun w hm => hR _ w _ H3 _ (by simp) (hle3) ?_ hm)
        exact ⟨_, _, rfl, hd3, hs3⟩
      · rw [if_neg h0] at hst
        rw [hst] at hR
        repeat (first | refine a4 ?_ | refine a5 ?_ | refine a6 ?_ | refine s_loadBs ?_ | refine a9 ?_)
        refine Runs.retC Try.func32 Try.results32 rfl (fun w hm => hR _ w _ H _ (List.mem_cons_self ..) (Snap.le.refl _) ?_ hm)
        exact ⟨_, _, rfl, hd, hv⟩
set_option maxHeartbeats 1000000 in
theorem madeP_c {H : Snap} {v : Value} {l : List Rq} (hv : SliceRep H RqL v l) (hx : ∀ x ∈ l, okRq x) : Pure Try.prog 11 #[v] H (fun H' r => PastR H' r (madeP l (min l.length 14))) := by
  have hb := hv.isSl.bound
  have hiv := hv.isSl
  refine Pure.intro Try.func11 rfl Try.ntmps11 rfl (fun E R hM hR => ?_)
  repeat (first | refine a4 ?_ | refine a6 ?_)
  refine RW.alloc rfl rfl rfl (fun b2 => ?_)
  repeat (first | refine a4 ?_ | refine a5 ?_ | refine a6 ?_)
  refine RW.call rfl (rnew_c (H := H) (n := 2) (by decide)) rfl rfl ?_
  rintro _ H1 ⟨vd, vs, rfl, hd, hs⟩ hle1
  have hod := hd.isSl.one1
  have hos := hs.isSl.one1
  refine RW.alloc rfl rfl rfl (fun b3 => ?_)
  repeat (first | refine a1 ?_ | refine a4 ?_ | refine a5 ?_ | refine a6 ?_ | refine a9 ?_)
  refine Runs.loop (fun s : Nat × Snap × Value × Value => s.1 ≤ min l.length 14 ∧ H.le s.2.1 ∧ SliceRep s.2.1 DocL s.2.2.1 (madeP l s.1).ds ∧ SliceRep s.2.1 StepL s.2.2.2 (madeP l s.1).ss) (fun s => min l.length 14 - s.1) (fun s => [s.2.1, H]) (fun s => [.blk b3 27 [s.2.2.1, s.2.2.2], .blk b2 27 [.slice none 0 0, .slice none 0 0]]) (fun s => [(0, v), (2, .pointer (some ⟨b2, 0, none⟩)), (3, .pointer (some ⟨b3, 0, none⟩)), (4, .int .i64 (s.1 : Int))]) (0, H1, vd, vs) ⟨Nat.zero_le _, hle1, hd, hs⟩
    (fun h => by refine Runs.weak (h) (by repeat (first | exact trivial | refine And.intro rfl ?_)) (fun x hx => List.mem_cons_of_mem _ (SubH.h x hx)) (by repeat (first | exact List.nil_sublist _ | exact List.Sublist.refl _ | refine List.Sublist.cons_cons _ ?_ | refine List.Sublist.cons _ ?_))) ?_
  rintro ⟨k, Hk, vd2, vs2⟩ ⟨hk, hle, hd2, hs2⟩ ih
  dsimp only at hk hle hd2 hs2 ih ⊢
  have ho1 := hd2.isSl.one1
  have ho2 := hs2.isSl.one1
  repeat (first | refine a1 ?_ | refine a4 ?_ | refine a6 ?_ | refine s_len ?_)
  by_cases c1 : (k : Int) < (l.length : Int)
  · rw [decide_eq_true c1]
    repeat (first | refine a1 ?_ | refine a5 ?_)
    by_cases c2 : (k : Int) < 14
    · rw [decide_eq_true c2]
      obtain ⟨x, hxk⟩ : ∃ x, l[k]? = some x := ⟨_, List.getElem?_eq_getElem (by omega)⟩
      obtain ⟨vx, hvx, hcx⟩ := hv.rq hxk
      have hox := hx x (List.mem_of_getElem? hxk)
      have hg := (madeP_good l k (by omega)).1
      repeat (first | refine a4 ?_ | refine a7 ?_)
      refine Runs.regionD _ _ [6] (fun x hx => List.mem_cons_of_mem _ hx) (List.Sublist.refl _) (by kernel_rfl) ?_
      refine t_loadBs 0 ?_
      refine d1 1 2 ?_
      refine t_index 3 ?_
      refine t_loadHs 4 ?_
      refine DW.call 5 rfl (by kernel_rfl) rfl (stepP_c (H := Hk) (x := x) hd2 hs2 (hvx.mono hle) hox hg (by have := madeP_len l k; omega)) rfl rfl ?_
      rintro _ H3 ⟨vd3, vs3, rfl, hd3, hs3⟩ hle3
      have ho3 := hd3.isSl.one1
      have ho4 := hs3.isSl.one1
      refine DW.storeB 6 rfl (by kernel_rfl) rfl rfl rfl rfl (by first | rfl | (simp [allOne, cellsL, one1]; done) | (simp [allOne, cellsL, one1]; first | assumption | (refine ⟨?_, ?_⟩ <;> assumption) | (refine ⟨?_, ?_, ?_⟩ <;> assumption))) rfl ?_
      refine DW.done (by kernel_rfl) ?_
      change SliceRep H3 DocL vd3 (stepP (madeP l k) x).ds at hd3
      change SliceRep H3 StepL vs3 (stepP (madeP l k) x).ss at hs3
      rw [← madeP_succ hxk] at hd3 hs3
      repeat (first | refine a1 ?_ | refine a4 ?_ | refine a5 ?_ | refine a6 ?_ | refine s_addI ?_)
      refine Runs.weak (ih (k + 1, H3, vd3, vs3) ⟨by dsimp only; omega, hle.trans hle3, hd3, hs3⟩ (by dsimp only; omega)) (by repeat (first | exact trivial | refine And.intro rfl ?_)) (fun x hx => List.mem_cons_of_mem _ (SubH.h x hx)) (by repeat (first | exact List.nil_sublist _ | exact List.Sublist.refl _ | refine List.Sublist.cons_cons _ ?_ | refine List.Sublist.cons _ ?_))
    · rw [decide_eq_false c2]
      have hk2 : k = min l.length 14 := by omega
      subst hk2
      repeat (first | refine a4 ?_ | refine a5 ?_ | refine a6 ?_ | refine s_loadBs ?_ | refine a8 ?_ | refine a9 ?_)
      refine Runs.retC Try.func11 Try.results11 rfl (fun w hm => hR _ w _ Hk _ (by simp) (hle) ?_ hm)
      exact ⟨_, _, rfl, hd2, hs2⟩
  · rw [decide_eq_false c1]
    have hk2 : k = min l.length 14 := by omega
    subst hk2
    repeat (first | refine a1 ?_ | refine a3 ?_ | refine a4 ?_ | refine a5 ?_ | refine a6 ?_ | refine s_loadBs ?_ | refine a8 ?_ | refine a9 ?_)
    refine Runs.retC Try.func11 Try.results11 rfl (fun w hm => hR _ w _ Hk _ (by simp) (hle) ?_ hm)
    exact ⟨_, _, rfl, hd2, hs2⟩
end Go.Proofs.Ytbiohkncdlhigaa

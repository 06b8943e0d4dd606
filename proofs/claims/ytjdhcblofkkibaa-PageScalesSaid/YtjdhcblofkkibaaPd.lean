/-
  Putting a way into the tree. Conditions: the tree is as it was made.
-/
import Derived.Test.YtjdhcblofkkibaaMPc
namespace Go.Proofs.Ytjdhcblofkkibaa
open Go Go.RowKit

/-- What remains to be done below t leads to the whole tree. -/
def PutI (B : Nat) (t0 t : AT) (C : List Own) (done : List Int) : Prop :=
  ∀ (r : List Int) (t' : AT), t'.ok (B + 1) → t'.head = t.head → Grow t t' r → ∃ W : AT, W.ok (B + 1) ∧ W.head = t0.head ∧ W.own.Perm (t'.own ++ C) ∧ Grow t0 W (done ++ r)
theorem PutI.start (B : Nat) (t : AT) : PutI B t t [] [] := fun r t' h1 h2 h3 => ⟨t', h1, h2, by simp, h3⟩
theorem PutI.down {B : Nat} {t0 : AT} {b T pre vl vb ls ks wh} {C : List Own} {done : List Int} {i : Int} {j : Nat} {kid : AT} (h : PutI B t0 (.mk b T pre vl vb ls ks wh) C done) (hk : AT.ok B (.mk b T pre vl vb ls ks wh)) (hix : ix ls i = some j) (hj : ks[j]? = some kid) :
    PutI B t0 kid (.blk b T (pre ++ [vl, vb, .bool wh]) :: .row 3 1 vl ls.length (encI ls) :: .row 96 1 vb ks.length (ks.map AT.ptr) :: (AT.owns (ks.eraseIdx j) ++ C)) (done ++ [i]) := by
  intro r t' h1 h2 h3
  have hl := (List.getElem?_eq_some_iff.1 hj).1
  obtain ⟨W, w1, w2, w3, w4⟩ := h (i :: r) (.mk b T pre vl vb ls (ks.set j t') wh) ⟨by rw [List.length_set]; exact hk.1, Nat.le_succ_of_le hk.2.1, AT.oks_set j (AT.oks_mono (Nat.le_succ B) _ hk.2.2) h1⟩ rfl (grow_set hix hj h3)
  refine ⟨W, w1, w2, w3.trans ?_, by simpa using w4⟩
  have e : (ks.set j t').map AT.ptr = ks.map AT.ptr := by
    rw [List.map_set, AT.ptr_head h2]
    exact set_same _ _ _ (by simp [hj])
  rw [AT.own, e, List.length_set]
  simp only [List.cons_append]
  refine (List.Perm.cons _ (List.Perm.cons _ (List.Perm.cons _ ((AT.owns_set hl).append_right C)))).trans ?_
  rw [List.append_assoc]
  refine (List.perm_append_comm (l₁ := [_, _, _]) (l₂ := t'.own ++ (AT.owns (ks.eraseIdx j) ++ C))).trans ?_
  rw [List.append_assoc]
  refine List.Perm.append_left _ ?_
  exact List.perm_append_comm (l₁ := AT.owns (ks.eraseIdx j) ++ C) (l₂ := [_, _, _])
theorem PutI.make {B : Nat} {t0 : AT} {b T pre vl vb ls ks wh vl' vb'} {C : List Own} {done : List Int} {i : Int} {n : AT} (h : PutI B t0 (.mk b T pre vl vb ls ks wh) C done) (hk : AT.ok B (.mk b T pre vl vb ls ks wh)) (hix : ix ls i = none) (hn : n.ls = [] ∧ n.wh = false) :
    PutI B t0 n (.blk b T (pre ++ [vl', vb', .bool wh]) :: .row 3 1 vl' (ls.length + 1) (encI ls ++ [.int .i64 i]) :: .row 96 1 vb' (ks.length + 1) (ks.map AT.ptr ++ [n.ptr]) :: (AT.owns ks ++ C)) (done ++ [i]) := by
  intro r t' h1 h2 h3
  obtain ⟨W, w1, w2, w3, w4⟩ := h (i :: r) (.mk b T pre vl' vb' (ls ++ [i]) (ks ++ [t']) wh) ⟨by simp [hk.1], by have := hk.2.1; simp; omega, AT.oks_snoc (AT.oks_mono (Nat.le_succ B) _ hk.2.2) h1⟩ rfl (grow_new hk.1 hix hn h3)
  refine ⟨W, w1, w2, w3.trans ?_, by simpa using w4⟩
  rw [AT.own, AT.owns_snoc]
  simp only [List.cons_append, List.length_append, List.length_cons, List.length_nil, List.map_append, List.map_cons, List.map_nil, encI, AT.ptr_head h2, Nat.zero_add]
  refine (List.Perm.cons _ (List.Perm.cons _ (List.Perm.cons _ (List.perm_append_comm.append_right C)))).trans ?_
  rw [List.append_assoc]
  refine (List.perm_append_comm (l₁ := [_, _, _]) (l₂ := t'.own ++ (AT.owns ks ++ C))).trans ?_
  rw [List.append_assoc]
  refine List.Perm.append_left _ ?_
  exact List.perm_append_comm (l₁ := AT.owns ks ++ C) (l₂ := [_, _, _])

set_option maxHeartbeats 4000000 in
theorem put_c {H : Snap} {t0 : AT} {vs : Value} {is : List Int} {B : Nat} (hs : SliceRep H I64 vs is) (hk0 : t0.ok B) (hB : B ≤ 1000000) :
    Ctr Try.prog 42 #[t0.ptr, vs] H t0.own (fun _ O' v => v = .tuple #[] ∧ ∃ W : AT, O' = W.own ∧ W.ok (B + 1) ∧ W.head = t0.head ∧ Grow t0 W is) := by
  have hb := hs.isSl.bound
  refine Ctr.intro Try.func42 rfl Try.ntmps42 rfl (fun E R hM hR => ?_)
  repeat (first | refine a1 ?_ | refine a3 ?_ | refine a4 ?_ | refine a5 ?_ | refine a6 ?_ | refine s_len ?_ | refine s_lenR ?_ | refine s_index ?_ | refine s_indexR ?_ | refine s_loadB ?_ | refine s_loadH ?_ | refine s_loadR ?_ | refine s_eqlP ?_ | refine s_build ?_ | refine s_fieldB ?_ | refine s_fieldV ?_ | refine s_addI ?_ | refine a7 ?_ | refine a8 ?_ | refine a9 ?_ | refine RW.storeR rfl rfl rfl rfl (by first | rfl | (simp [allOne, cellsL, one1]; done) | (simp [allOne, cellsL, one1]; first | assumption | (refine ⟨?_, ?_⟩ <;> assumption))) rfl ?_ | refine a10 ?_ | refine RW.storeR1 rfl rfl (by first | rfl | exact IsSl.one1 (by assumption) | exact IsSl.one1 (SliceRep.isSl (by assumption))) rfl rfl ?_)
  refine Runs.loop (fun (s : Nat × AT × List Own) => s.1 ≤ is.length ∧ s.2.1.ok B ∧ PutI B t0 s.2.1 s.2.2 (is.take s.1)) (fun s => is.length - s.1) (fun _ => [H]) (fun s => s.2.1.own ++ s.2.2)
    (fun s => [(0, s.2.1.ptr), (7, vs), (8, .int .i64 (is.length : Int)), (9, .int .i64 (s.1 : Int))]) (0, t0, []) ⟨Nat.zero_le _, hk0, PutI.start B t0⟩ (fun h => by
      dsimp only at h
      rw [List.append_nil] at h
      refine Runs.weak (h) (by repeat (first | exact trivial | refine And.intro rfl ?_)) (fun x hx => List.mem_cons_of_mem _ (SubH.h x hx)) (by repeat (first | exact List.nil_sublist _ | exact List.Sublist.refl _ | refine List.Sublist.cons_cons _ ?_ | refine List.Sublist.cons _ ?_))) ?_
  rintro ⟨k, t, C⟩ ⟨hk, htk, hI⟩ ih
  dsimp only at hk htk hI ⊢
  cases t with
  | mk b T pre vl vb ls ks wh =>
  rw [AT.own]
  simp only [List.cons_append]
  have c0 := pre_at0 pre vl vb (.bool wh)
  have c1 := pre_at1 pre vl vb (.bool wh)
  have hlk : ls.length = ks.length := htk.1
  have hlB : ls.length ≤ B := htk.2.1
  repeat (first | refine a1 ?_ | refine a3 ?_ | refine a4 ?_ | refine a5 ?_ | refine a6 ?_ | refine s_len ?_ | refine s_lenR ?_ | refine s_index ?_ | refine s_indexR ?_ | refine s_loadB ?_ | refine s_loadH ?_ | refine s_loadR ?_ | refine s_eqlP ?_ | refine s_build ?_ | refine s_fieldB ?_ | refine s_fieldV ?_ | refine s_addI ?_ | refine a7 ?_ | refine a8 ?_ | refine a9 ?_ | refine RW.storeR rfl rfl rfl rfl (by first | rfl | (simp [allOne, cellsL, one1]; done) | (simp [allOne, cellsL, one1]; first | assumption | (refine ⟨?_, ?_⟩ <;> assumption))) rfl ?_ | refine a10 ?_ | refine RW.storeR1 rfl rfl (by first | rfl | exact IsSl.one1 (by assumption) | exact IsSl.one1 (SliceRep.isSl (by assumption))) rfl rfl ?_)
  refine Runs.cond_d rfl (fun hlt => ?_) (fun hlt => ?_)
  · obtain ⟨i, hi⟩ : ∃ i, is[k]? = some i := ⟨_, List.getElem?_eq_getElem (by omega)⟩
    have hnext : is.take (k + 1) = is.take k ++ [i] := take_snoc_of hi
    repeat (first | refine a1 ?_ | refine a3 ?_ | refine a4 ?_ | refine a5 ?_ | refine a6 ?_ | refine s_len ?_ | refine s_lenR ?_ | refine s_index ?_ | refine s_indexR ?_ | refine s_loadB ?_ | refine s_loadH ?_ | refine s_loadR ?_ | refine s_eqlP ?_ | refine s_build ?_ | refine s_fieldB ?_ | refine s_fieldV ?_ | refine s_addI ?_ | refine a7 ?_ | refine a8 ?_ | refine a9 ?_ | refine RW.storeR rfl rfl rfl rfl (by first | rfl | (simp [allOne, cellsL, one1]; done) | (simp [allOne, cellsL, one1]; first | assumption | (refine ⟨?_, ?_⟩ <;> assumption))) rfl ?_ | refine a10 ?_ | refine RW.storeR1 rfl rfl (by first | rfl | exact IsSl.one1 (by assumption) | exact IsSl.one1 (SliceRep.isSl (by assumption))) rfl rfl ?_)
    refine RW.callL (cap := []) rfl rfl (at_c (H := H) (t := .mk b T pre vl vb ls ks wh) (i := i) (by rw [AT.own]; intro o ho; rw [← List.cons_append, ← List.cons_append, ← List.cons_append]; exact List.mem_append_left _ ho) htk) (List.Sublist.refl _) rfl rfl ?_
    rintro _ H1 rfl hle
    cases e : ix ls i with
    | some j =>
      have hj2 : j < ks.length := by have := (List.getElem?_eq_some_iff.1 (ix_get e)).1; omega
      have hkj : ks[j]? = some ks[j] := List.getElem?_eq_getElem hj2
      simp only [AT.at, e, hkj]
      generalize ks[j] = kid at hkj
      have hpt : kid.ptr = .pointer (some ⟨kid.head.1, kid.head.2.2.length, none⟩) := by cases kid; rfl
      rw [hpt]
      repeat (first | refine a1 ?_ | refine a3 ?_ | refine a4 ?_ | refine a5 ?_ | refine a6 ?_ | refine s_len ?_ | refine s_lenR ?_ | refine s_index ?_ | refine s_indexR ?_ | refine s_loadB ?_ | refine s_loadH ?_ | refine s_loadR ?_ | refine s_eqlP ?_ | refine s_build ?_ | refine s_fieldB ?_ | refine s_fieldV ?_ | refine s_addI ?_ | refine a7 ?_ | refine a8 ?_ | refine a9 ?_ | refine RW.storeR rfl rfl rfl rfl (by first | rfl | (simp [allOne, cellsL, one1]; done) | (simp [allOne, cellsL, one1]; first | assumption | (refine ⟨?_, ?_⟩ <;> assumption))) rfl ?_ | refine a10 ?_ | refine RW.storeR1 rfl rfl (by first | rfl | exact IsSl.one1 (by assumption) | exact IsSl.one1 (SliceRep.isSl (by assumption))) rfl rfl ?_)
      rw [← hpt]
      have h := ih (k + 1, kid, _) ⟨by dsimp only; omega, AT.oks_at htk.2.2 hkj, by dsimp only; rw [hnext]; exact hI.down htk e hkj⟩ (by dsimp only; omega)
      dsimp only at h
      refine Runs.perm (O' := kid.own ++ .blk b T (pre ++ [vl, vb, .bool wh]) :: .row 3 1 vl ls.length (encI ls) :: .row 96 1 vb ks.length (ks.map AT.ptr) :: (AT.owns (ks.eraseIdx j) ++ C)) ?_ (Runs.back h ⟨rfl, rfl, rfl, rfl, trivial⟩)
      refine (List.Perm.cons _ (List.Perm.cons _ (List.Perm.cons _ ((AT.owns_at hkj).append_right C)))).trans ?_
      rw [List.append_assoc]
      refine (List.perm_append_comm (l₁ := [_, _, _]) (l₂ := kid.own ++ (AT.owns (ks.eraseIdx j) ++ C))).trans ?_
      rw [List.append_assoc]
      refine List.Perm.append_left _ ?_
      exact List.perm_append_comm (l₁ := AT.owns (ks.eraseIdx j) ++ C) (l₂ := [_, _, _])
    | none =>
      simp only [AT.at, e, AT.ptr]
      generalize hD : AT.owns ks ++ C = D
      repeat (first | refine a1 ?_ | refine a3 ?_ | refine a4 ?_ | refine a5 ?_ | refine a6 ?_ | refine s_len ?_ | refine s_lenR ?_ | refine s_index ?_ | refine s_indexR ?_ | refine s_loadB ?_ | refine s_loadH ?_ | refine s_loadR ?_ | refine s_eqlP ?_ | refine s_build ?_ | refine s_fieldB ?_ | refine s_fieldV ?_ | refine s_addI ?_ | refine a7 ?_ | refine a8 ?_ | refine a9 ?_ | refine RW.storeR rfl rfl rfl rfl (by first | rfl | (simp [allOne, cellsL, one1]; done) | (simp [allOne, cellsL, one1]; first | assumption | (refine ⟨?_, ?_⟩ <;> assumption))) rfl ?_ | refine a10 ?_ | refine RW.storeR1 rfl rfl (by first | rfl | exact IsSl.one1 (by assumption) | exact IsSl.one1 (SliceRep.isSl (by assumption))) rfl rfl ?_)
      refine RW.box rfl rfl rfl rfl (fun b6 => ?_)
      dsimp only [cellsL]
      repeat (first | refine a1 ?_ | refine a3 ?_ | refine a4 ?_ | refine a5 ?_ | refine a6 ?_ | refine s_len ?_ | refine s_lenR ?_ | refine s_index ?_ | refine s_indexR ?_ | refine s_loadB ?_ | refine s_loadH ?_ | refine s_loadR ?_ | refine s_eqlP ?_ | refine s_build ?_ | refine s_fieldB ?_ | refine s_fieldV ?_ | refine s_addI ?_ | refine a7 ?_ | refine a8 ?_ | refine a9 ?_ | refine RW.storeR rfl rfl rfl rfl (by first | rfl | (simp [allOne, cellsL, one1]; done) | (simp [allOne, cellsL, one1]; first | assumption | (refine ⟨?_, ?_⟩ <;> assumption))) rfl ?_ | refine a10 ?_ | refine RW.storeR1 rfl rfl (by first | rfl | exact IsSl.one1 (by assumption) | exact IsSl.one1 (SliceRep.isSl (by assumption))) rfl rfl ?_)
      refine Runs.rowSl vl (fun hv1 _ => ?_)
      refine Runs.rowSl vb (fun hv2 _ => ?_)
      refine Runs.joinF (α := Value × Value) (fun _ => True) (fun _ => [H]) (fun s => .blk b6 82 [.slice none 0 0, .slice none 0 0, .bool false] :: .blk b T (pre ++ [s.1, s.2, .bool wh]) :: .row 3 1 s.1 (ls.length + 1) (encI ls ++ [.int .i64 i]) :: .row 96 1 s.2 (ks.length + 1) (ks.map AT.ptr ++ [.pointer (some ⟨b6, 0, none⟩)]) :: D) (fun s => [(6, .pointer (some ⟨b6, 0, none⟩)), (7, vs), (8, .int .i64 (is.length : Int)), (9, .int .i64 (k : Int))]) (fun hj => ?_) ?_
      · refine Runs.regionD _ ([.blk b6 82 [.slice none 0 0, .slice none 0 0, .bool false], .blk b T (pre ++ [vl, vb, .bool wh])]) [18, 21] (fun x hx => List.mem_cons_of_mem _ hx) SubO.h (by kernel_rfl) ?_
        refine d1 0 4 ?_
        (first | refine t_fieldB 4 ?_ | refine t_fieldV 4 ?_)
        (first | refine t_loadB 5 ?_ | refine t_loadH 5 ?_ | refine t_loadR 5 ?_)
        refine d2 6 ?_
        refine d1 9 2 ?_
        (first | refine t_fieldB 11 ?_ | refine t_fieldV 11 ?_)
        (first | refine t_loadB 12 ?_ | refine t_loadH 12 ?_ | refine t_loadR 12 ?_)
        refine d2 13 ?_
        refine DW.h2 7 14 rfl rfl (by kernel_rfl) (HV.buildSlice rfl rfl rfl rfl rfl) (HV.buildSlice rfl rfl rfl rfl rfl) rfl rfl rfl rfl rfl ?_ ?_
        · rintro vx _ _ ⟨rfl, rfl, hx⟩
          refine ⟨fun w hm => hm.sub (fun x hx => List.mem_cons_of_mem _ (SubH.h x hx)) SubO.h, ?_⟩
          refine DW.h2 8 14 rfl rfl (by kernel_rfl) (HV.appendRR rfl rfl (by assumption) rfl rfl rfl (by decide) (by omega) (by omega) (fun _ => inferInstance)) (HV.buildSlice rfl rfl rfl rfl rfl) rfl rfl rfl rfl rfl ?_ ?_
          · rintro vl' _ _ ⟨rfl, rfl, hl'⟩
            refine ⟨fun w hm => hm.sub (fun x hx => List.mem_cons_of_mem _ (SubH.h x hx)) SubO.h, ?_⟩
            refine DW.buildSlice 14 rfl (by kernel_rfl) rfl rfl rfl rfl rfl rfl rfl (fun vy hy => ?_)
            refine DW.appendR 15 rfl (by kernel_rfl) rfl rfl (by assumption) rfl rfl rfl (by decide) (by omega) (by omega) (fun _ => inferInstance) rfl rfl (fun _ => inferInstance) inferInstance (fun vb' hb' => ?_)
            refine d2 16 ?_
            (first | refine t_fieldB 17 ?_ | refine t_fieldV 17 ?_)
            refine DW.storeB1 18 rfl (by kernel_rfl) rfl rfl rfl (by first | rfl | exact IsSl.one1 (by assumption) | exact IsSl.one1 (SliceRep.isSl (by assumption))) (pre_set0 pre vl vb (.bool wh) _) rfl ?_
            refine d2 19 ?_
            (first | refine t_fieldB 20 ?_ | refine t_fieldV 20 ?_)
            refine DW.storeB1 21 rfl (by kernel_rfl) rfl rfl rfl (by first | rfl | exact IsSl.one1 (by assumption) | exact IsSl.one1 (SliceRep.isSl (by assumption))) (pre_set1 pre _ vb (.bool wh) _) rfl ?_
            refine DW.done (by kernel_rfl) ?_
            refine Runs.weak (hj (vl', vb') trivial) (by repeat (first | exact trivial | refine And.intro rfl ?_)) (fun x hx => List.mem_cons_of_mem _ (SubH.h x hx)) (by repeat (first | exact List.nil_sublist _ | exact List.Sublist.refl _ | refine List.Sublist.cons_cons _ ?_ | refine List.Sublist.cons _ ?_))
          · rintro vy _ _ ⟨rfl, rfl, hy⟩
            refine ⟨fun w hm => hm.sub (fun x hx => List.mem_cons_of_mem _ (SubH.h x hx)) SubO.h, ?_⟩
            refine DW.appendR 8 rfl (by kernel_rfl) rfl rfl (by assumption) rfl rfl rfl (by decide) (by omega) (by omega) (fun _ => inferInstance) rfl rfl (fun _ => inferInstance) inferInstance (fun vl' hl' => ?_)
            refine DW.appendR 15 rfl (by kernel_rfl) rfl rfl (by assumption) rfl rfl rfl (by decide) (by omega) (by omega) (fun _ => inferInstance) rfl rfl (fun _ => inferInstance) inferInstance (fun vb' hb' => ?_)
            refine d2 16 ?_
            (first | refine t_fieldB 17 ?_ | refine t_fieldV 17 ?_)
            refine DW.storeB1 18 rfl (by kernel_rfl) rfl rfl rfl (by first | rfl | exact IsSl.one1 (by assumption) | exact IsSl.one1 (SliceRep.isSl (by assumption))) (pre_set0 pre vl vb (.bool wh) _) rfl ?_
            refine d2 19 ?_
            (first | refine t_fieldB 20 ?_ | refine t_fieldV 20 ?_)
            refine DW.storeB1 21 rfl (by kernel_rfl) rfl rfl rfl (by first | rfl | exact IsSl.one1 (by assumption) | exact IsSl.one1 (SliceRep.isSl (by assumption))) (pre_set1 pre _ vb (.bool wh) _) rfl ?_
            refine DW.done (by kernel_rfl) ?_
            refine Runs.weak (hj (vl', vb') trivial) (by repeat (first | exact trivial | refine And.intro rfl ?_)) (fun x hx => List.mem_cons_of_mem _ (SubH.h x hx)) (by repeat (first | exact List.nil_sublist _ | exact List.Sublist.refl _ | refine List.Sublist.cons_cons _ ?_ | refine List.Sublist.cons _ ?_))
        · rintro vy _ _ ⟨rfl, rfl, hy⟩
          refine ⟨fun w hm => hm.sub (fun x hx => List.mem_cons_of_mem _ (SubH.h x hx)) SubO.h, ?_⟩
          refine DW.buildSlice 7 rfl (by kernel_rfl) rfl rfl rfl rfl rfl rfl rfl (fun vx hx => ?_)
          refine DW.appendR 8 rfl (by kernel_rfl) rfl rfl (by assumption) rfl rfl rfl (by decide) (by omega) (by omega) (fun _ => inferInstance) rfl rfl (fun _ => inferInstance) inferInstance (fun vl' hl' => ?_)
          refine DW.appendR 15 rfl (by kernel_rfl) rfl rfl (by assumption) rfl rfl rfl (by decide) (by omega) (by omega) (fun _ => inferInstance) rfl rfl (fun _ => inferInstance) inferInstance (fun vb' hb' => ?_)
          refine d2 16 ?_
          (first | refine t_fieldB 17 ?_ | refine t_fieldV 17 ?_)
          refine DW.storeB1 18 rfl (by kernel_rfl) rfl rfl rfl (by first | rfl | exact IsSl.one1 (by assumption) | exact IsSl.one1 (SliceRep.isSl (by assumption))) (pre_set0 pre vl vb (.bool wh) _) rfl ?_
          refine d2 19 ?_
          (first | refine t_fieldB 20 ?_ | refine t_fieldV 20 ?_)
          refine DW.storeB1 21 rfl (by kernel_rfl) rfl rfl rfl (by first | rfl | exact IsSl.one1 (by assumption) | exact IsSl.one1 (SliceRep.isSl (by assumption))) (pre_set1 pre _ vb (.bool wh) _) rfl ?_
          refine DW.done (by kernel_rfl) ?_
          refine Runs.weak (hj (vl', vb') trivial) (by repeat (first | exact trivial | refine And.intro rfl ?_)) (fun x hx => List.mem_cons_of_mem _ (SubH.h x hx)) (by repeat (first | exact List.nil_sublist _ | exact List.Sublist.refl _ | refine List.Sublist.cons_cons _ ?_ | refine List.Sublist.cons _ ?_))
      · rintro ⟨vl', vb'⟩ _
        dsimp only
        repeat (first | refine a1 ?_ | refine a3 ?_ | refine a4 ?_ | refine a5 ?_ | refine a6 ?_ | refine s_len ?_ | refine s_lenR ?_ | refine s_index ?_ | refine s_indexR ?_ | refine s_loadB ?_ | refine s_loadH ?_ | refine s_loadR ?_ | refine s_eqlP ?_ | refine s_build ?_ | refine s_fieldB ?_ | refine s_fieldV ?_ | refine s_addI ?_ | refine a7 ?_ | refine a8 ?_ | refine a9 ?_ | refine RW.storeR rfl rfl rfl rfl (by first | rfl | (simp [allOne, cellsL, one1]; done) | (simp [allOne, cellsL, one1]; first | assumption | (refine ⟨?_, ?_⟩ <;> assumption))) rfl ?_ | refine a10 ?_ | refine RW.storeR1 rfl rfl (by first | rfl | exact IsSl.one1 (by assumption) | exact IsSl.one1 (SliceRep.isSl (by assumption))) rfl rfl ?_)
        refine Runs.addNil 3 1 ?_
        refine Runs.addNil 96 1 ?_
        have h := ih (k + 1, .mk b6 82 [] (.slice none 0 0) (.slice none 0 0) [] [] false, _) ⟨by dsimp only; omega, ⟨rfl, Nat.zero_le _, trivial⟩, by dsimp only; rw [hnext]; exact hI.make htk e ⟨rfl, rfl⟩ (vl' := vl') (vb' := vb')⟩ (by dsimp only; omega)
        dsimp only at h
        rw [hD] at h
        refine Runs.perm (O' := _) ?_ (Runs.weak h ⟨rfl, rfl, rfl, rfl, trivial⟩ (fun x hx => List.mem_cons_of_mem _ (SubH.h x hx)) (List.Sublist.refl _))
        rw [AT.own]
        simp only [List.nil_append, AT.owns, List.cons_append, List.map_nil, encI, List.length_nil, AT.ptr]
        exact ((List.Perm.cons _ (List.Perm.swap ..)).trans (List.Perm.swap ..)).trans (List.Perm.cons _ (List.Perm.swap ..))
  · have hkl : k = is.length := by omega
    repeat (first | refine a1 ?_ | refine a3 ?_ | refine a4 ?_ | refine a5 ?_ | refine a6 ?_ | refine s_len ?_ | refine s_lenR ?_ | refine s_index ?_ | refine s_indexR ?_ | refine s_loadB ?_ | refine s_loadH ?_ | refine s_loadR ?_ | refine s_eqlP ?_ | refine s_build ?_ | refine s_fieldB ?_ | refine s_fieldV ?_ | refine s_addI ?_ | refine a7 ?_ | refine a8 ?_ | refine a9 ?_ | refine RW.storeR rfl rfl rfl rfl (by first | rfl | (simp [allOne, cellsL, one1]; done) | (simp [allOne, cellsL, one1]; first | assumption | (refine ⟨?_, ?_⟩ <;> assumption))) rfl ?_ | refine a10 ?_ | refine RW.storeR1 rfl rfl (by first | rfl | exact IsSl.one1 (by assumption) | exact IsSl.one1 (SliceRep.isSl (by assumption))) rfl rfl ?_)
    refine RW.storeB1 rfl rfl rfl (pre_set2 pre vl vb _ _) rfl ?_
    repeat (first | refine a1 ?_ | refine a3 ?_ | refine a4 ?_ | refine a5 ?_ | refine a6 ?_ | refine s_len ?_ | refine s_lenR ?_ | refine s_index ?_ | refine s_indexR ?_ | refine s_loadB ?_ | refine s_loadH ?_ | refine s_loadR ?_ | refine s_eqlP ?_ | refine s_build ?_ | refine s_fieldB ?_ | refine s_fieldV ?_ | refine s_addI ?_ | refine a7 ?_ | refine a8 ?_ | refine a9 ?_ | refine RW.storeR rfl rfl rfl rfl (by first | rfl | (simp [allOne, cellsL, one1]; done) | (simp [allOne, cellsL, one1]; first | assumption | (refine ⟨?_, ?_⟩ <;> assumption))) rfl ?_ | refine a10 ?_ | refine RW.storeR1 rfl rfl (by first | rfl | exact IsSl.one1 (by assumption) | exact IsSl.one1 (SliceRep.isSl (by assumption))) rfl rfl ?_)
    obtain ⟨W, w1, w2, w3, w4⟩ := hI [] (.mk b T pre vl vb ls ks true) ⟨htk.1, Nat.le_succ_of_le htk.2.1, AT.oks_mono (Nat.le_succ B) _ htk.2.2⟩ rfl grow_end
    rw [hkl, List.take_length, List.append_nil] at w4
    refine Runs.fin0 Try.func42 Try.results42 (fun w hm => hR _ w _ H W.own (by simp) (Snap.le.refl _) ⟨rfl, W, rfl, w1, w2, w4⟩ (hm.perm ?_))
    rw [AT.own, List.cons_append, List.cons_append, List.cons_append] at w3
    exact w3.symm
end Go.Proofs.Ytjdhcblofkkibaa

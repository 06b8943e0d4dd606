/-
  The way that numbers choose. Conditions: the graph is valid and has at most 11 nodes.
-/
import Derived.Test.YthlolpckgffebaaT12
namespace Go.Proofs.Ythlolpckgffebaa
open Go Go.RowKit

/-- The links and the node behind i steps; none if there is no link. -/
def chooseGo (N : Int) (gl : List Lnk) (l : List Int) : Nat → Nat → Int → List Int → Option (List Int × Int)
  | 0, _, at_, out => some (out, at_)
  | fu + 1, i, at_, out => if at_ = N - 1 then some (out, at_) else
    if (outOf gl at_).length = 0 then none else
      let x := tv (outOf gl at_) (tv l i % (outOf gl at_).length)
      chooseGo N gl l fu (i + 1) (lnk gl x).t (out ++ [x])
def chosenOf (N : Int) (gl : List Lnk) (l : List Int) : List Int × Bool :=
  match chooseGo N gl l 10 0 0 [] with
  | none => ([], false)
  | some (out, at_) => (out, decide (at_ = N - 1))

set_option maxHeartbeats 2000000 in
theorem chosen_c {H : Snap} {vl vc : Value} {N : Nat} {gl : List Lnk} {l : List Int} (hl : SliceRep H LinkL vl gl) (hc : SliceRep H U8 vc l) (hb : ∀ x ∈ l, isByte x) (hg : validG N gl) :
    Pure Try.prog 22 #[.agg #[.int .i64 (N : Int), vl], vc] H (fun H' r => ∃ vr, r = .tuple #[vr, .bool (chosenOf N gl l).2] ∧ SliceRep H' I64 vr (chosenOf N gl l).1) := by
  obtain ⟨hN1, hN2, hlen, hall⟩ := hg
  have hbc := hc.isSl.bound
  refine Pure.intro Try.func22 rfl Try.ntmps22 rfl (fun E R hM hR => ?_)
  repeat (first | refine a1 ?_ | refine a3 ?_ | refine a4 ?_ | refine a5 ?_ | refine a6 ?_ | refine s_fieldB ?_ | refine s_fieldV ?_ | refine s_loadB ?_ | refine s_loadH ?_ | refine s_loadR ?_ | refine s_subI ?_ | refine s_len ?_ | refine s_lenR ?_ | refine s_index ?_ | refine s_indexR ?_ | refine s_addI ?_ | refine s_convI ?_ | refine s_rem ?_ | refine a7 ?_ | refine a8 ?_)
  refine RW.box rfl rfl rfl rfl (fun b2 => ?_)
  repeat (first | refine a1 ?_ | refine a3 ?_ | refine a4 ?_ | refine a5 ?_ | refine a6 ?_ | refine s_fieldB ?_ | refine s_fieldV ?_ | refine s_loadB ?_ | refine s_loadH ?_ | refine s_loadR ?_ | refine s_subI ?_ | refine s_len ?_ | refine s_lenR ?_ | refine s_index ?_ | refine s_indexR ?_ | refine s_addI ?_ | refine s_convI ?_ | refine s_rem ?_ | refine a7 ?_ | refine a8 ?_)
  refine RW.buildSlice rfl rfl rfl rfl rfl rfl rfl (fun v7 hv7 => ?_)
  repeat (first | refine a1 ?_ | refine a3 ?_ | refine a4 ?_ | refine a5 ?_ | refine a6 ?_ | refine s_fieldB ?_ | refine s_fieldV ?_ | refine s_loadB ?_ | refine s_loadH ?_ | refine s_loadR ?_ | refine s_subI ?_ | refine s_len ?_ | refine s_lenR ?_ | refine s_index ?_ | refine s_indexR ?_ | refine s_addI ?_ | refine s_convI ?_ | refine s_rem ?_ | refine a7 ?_ | refine a8 ?_)
  refine Runs.loop (fun (s : Nat × Int × Value × List Int) => s.1 ≤ 10 ∧ s.2.2.2.length = s.1 ∧ 0 ≤ s.2.1 ∧ s.2.1 < N ∧ chooseGo N gl l 10 0 0 [] = chooseGo N gl l (10 - s.1) s.1 s.2.1 s.2.2.2) (fun s => 10 - s.1) (fun _ => [H])
    (fun s => [.row 3 1 s.2.2.1 s.1 (encI s.2.2.2), .blk b2 31 [.int .i64 (N : Int), vl]])
    (fun s => [(1, vc), (2, .pointer (some ⟨b2, 0, none⟩)), (6, .int .i64 s.2.1), (7, s.2.2.1), (8, .int .i64 (s.1 : Int))]) (0, 0, v7, []) ⟨by simp, rfl, by simp, by dsimp only; omega, rfl⟩ (fun h => by
      refine Runs.weak (h) (by repeat (first | exact trivial | refine And.intro rfl ?_)) (fun x hx => List.mem_cons_of_mem _ (SubH.h x hx)) (by repeat (first | exact List.nil_sublist _ | exact List.Sublist.refl _ | refine List.Sublist.cons_cons _ ?_ | refine List.Sublist.cons _ ?_))) ?_
  rintro ⟨i, at_, v7, out⟩ ⟨hi, hol, ha0, haN, hI⟩ ih
  dsimp only at hi hol ha0 haN hI ⊢
  obtain ⟨a, rfl⟩ : ∃ a : Nat, at_ = (a : Int) := ⟨at_.toNat, by omega⟩
  refine Runs.rowSl v7 (fun hv7 _ => ?_)
  repeat (first | refine a1 ?_ | refine a3 ?_ | refine a4 ?_ | refine a5 ?_ | refine a6 ?_ | refine s_fieldB ?_ | refine s_fieldV ?_ | refine s_loadB ?_ | refine s_loadH ?_ | refine s_loadR ?_ | refine s_subI ?_ | refine s_len ?_ | refine s_lenR ?_ | refine s_index ?_ | refine s_indexR ?_ | refine s_addI ?_ | refine s_convI ?_ | refine s_rem ?_ | refine a7 ?_ | refine a8 ?_)
  refine RW.dec 15 rfl (fun hi10 => ?_) (fun hi10 => ?_)
  · repeat (first | refine a1 ?_ | refine a3 ?_ | refine a4 ?_ | refine a5 ?_ | refine a6 ?_ | refine s_fieldB ?_ | refine s_fieldV ?_ | refine s_loadB ?_ | refine s_loadH ?_ | refine s_loadR ?_ | refine s_subI ?_ | refine s_len ?_ | refine s_lenR ?_ | refine s_index ?_ | refine s_indexR ?_ | refine s_addI ?_ | refine s_convI ?_ | refine s_rem ?_ | refine a7 ?_ | refine a8 ?_)
    refine Runs.cond_d rfl (fun hne => ?_) (fun hne => ?_)
    · obtain ⟨fu, hfu⟩ : ∃ fu, 10 - i = fu + 1 := ⟨9 - i, by omega⟩
      have hstep : chooseGo N gl l (fu + 1) i a out = if (outOf gl (a : Int)).length = 0 then none else chooseGo N gl l fu (i + 1) (lnk gl (tv (outOf gl (a : Int)) (tv l i % (outOf gl (a : Int)).length))).t (out ++ [tv (outOf gl (a : Int)) (tv l i % (outOf gl (a : Int)).length)]) := by
        rw [chooseGo, if_neg hne]
      rw [hfu, hstep] at hI
      repeat (first | refine a1 ?_ | refine a3 ?_ | refine a4 ?_ | refine a5 ?_ | refine a6 ?_ | refine s_fieldB ?_ | refine s_fieldV ?_ | refine s_loadB ?_ | refine s_loadH ?_ | refine s_loadR ?_ | refine s_subI ?_ | refine s_len ?_ | refine s_lenR ?_ | refine s_index ?_ | refine s_indexR ?_ | refine s_addI ?_ | refine s_convI ?_ | refine s_rem ?_ | refine a7 ?_ | refine a8 ?_)
      refine RW.buildSlice rfl rfl rfl rfl rfl rfl rfl (fun v9 hv9 => ?_)
      repeat (first | refine a1 ?_ | refine a3 ?_ | refine a4 ?_ | refine a5 ?_ | refine a6 ?_ | refine s_fieldB ?_ | refine s_fieldV ?_ | refine s_loadB ?_ | refine s_loadH ?_ | refine s_loadR ?_ | refine s_subI ?_ | refine s_len ?_ | refine s_lenR ?_ | refine s_index ?_ | refine s_indexR ?_ | refine s_addI ?_ | refine s_convI ?_ | refine s_rem ?_ | refine a7 ?_ | refine a8 ?_)
      refine Runs.loop (fun (s : Nat × Value) => s.1 ≤ gl.length) (fun s => gl.length - s.1) (fun _ => [H])
        (fun s => [.row 3 1 s.2 (outOf (gl.take s.1) (a : Int)).length (encI (outOf (gl.take s.1) (a : Int))), .row 3 1 v7 i (encI out), .blk b2 31 [.int .i64 (N : Int), vl]])
        (fun s => [(1, vc), (2, .pointer (some ⟨b2, 0, none⟩)), (6, .int .i64 (a : Int)), (7, v7), (8, .int .i64 (i : Int)), (9, s.2), (10, .int .i64 (s.1 : Int))]) (0, v9) (Nat.zero_le _) (fun h => by
          refine Runs.weak (h) (by repeat (first | exact trivial | refine And.intro rfl ?_)) (fun x hx => List.mem_cons_of_mem _ (SubH.h x hx)) (by repeat (first | exact List.nil_sublist _ | exact List.Sublist.refl _ | refine List.Sublist.cons_cons _ ?_ | refine List.Sublist.cons _ ?_))) ?_
      rintro ⟨k, v9⟩ hk ih2
      dsimp only at hk ⊢
      refine Runs.rowSl v9 (fun hv9 _ => ?_)
      have hol2 := outOf_length (gl.take k) (a : Int)
      have htk : (gl.take k).length = k := by simp; omega
      repeat (first | refine a1 ?_ | refine a3 ?_ | refine a4 ?_ | refine a5 ?_ | refine a6 ?_ | refine s_fieldB ?_ | refine s_fieldV ?_ | refine s_loadB ?_ | refine s_loadH ?_ | refine s_loadR ?_ | refine s_subI ?_ | refine s_len ?_ | refine s_lenR ?_ | refine s_index ?_ | refine s_indexR ?_ | refine s_addI ?_ | refine s_convI ?_ | refine s_rem ?_ | refine a7 ?_ | refine a8 ?_)
      refine Runs.cond_d rfl (fun hkl => ?_) (fun hkl => ?_)
      · obtain ⟨x, hx⟩ : ∃ x, gl[k]? = some x := ⟨_, List.getElem?_eq_getElem (by omega)⟩
        have hsn : outOf (gl.take (k + 1)) (a : Int) = outOf (gl.take k) (a : Int) ++ if x.f = (a : Int) then [(k : Int)] else [] := by
          rw [take_snoc_of hx, outOf_snoc, htk]
        repeat (first | refine a1 ?_ | refine a3 ?_ | refine a4 ?_ | refine a5 ?_ | refine a6 ?_ | refine s_fieldB ?_ | refine s_fieldV ?_ | refine s_loadB ?_ | refine s_loadH ?_ | refine s_loadR ?_ | refine s_subI ?_ | refine s_len ?_ | refine s_lenR ?_ | refine s_index ?_ | refine s_indexR ?_ | refine s_addI ?_ | refine s_convI ?_ | refine s_rem ?_ | refine a7 ?_ | refine a8 ?_)
        refine Runs.cond_d rfl (fun hxf => ?_) (fun hxf => ?_)
        · rw [if_pos hxf] at hsn
          repeat (first | refine a1 ?_ | refine a3 ?_ | refine a4 ?_ | refine a5 ?_ | refine a6 ?_ | refine s_fieldB ?_ | refine s_fieldV ?_ | refine s_loadB ?_ | refine s_loadH ?_ | refine s_loadR ?_ | refine s_subI ?_ | refine s_len ?_ | refine s_lenR ?_ | refine s_index ?_ | refine s_indexR ?_ | refine s_addI ?_ | refine s_convI ?_ | refine s_rem ?_ | refine a7 ?_ | refine a8 ?_)
          refine RW.buildSlice rfl rfl rfl rfl rfl rfl rfl (fun v42 hv42 => ?_)
          refine RW.appendR rfl rfl (by assumption) rfl rfl rfl (by decide) (by omega) (by omega) (fun _ => inferInstance) rfl rfl (fun v43 hv43 => ?_)
          repeat (first | refine a1 ?_ | refine a3 ?_ | refine a4 ?_ | refine a5 ?_ | refine a6 ?_ | refine s_fieldB ?_ | refine s_fieldV ?_ | refine s_loadB ?_ | refine s_loadH ?_ | refine s_loadR ?_ | refine s_subI ?_ | refine s_len ?_ | refine s_lenR ?_ | refine s_index ?_ | refine s_indexR ?_ | refine s_addI ?_ | refine s_convI ?_ | refine s_rem ?_ | refine a7 ?_ | refine a8 ?_)
          have h := ih2 (k + 1, v43) (by dsimp only; omega) (by dsimp only; omega)
          dsimp only at h
          rw [hsn, List.length_append, encI, List.map_append] at h
          refine Runs.weak (h) (by repeat (first | exact trivial | refine And.intro rfl ?_)) (fun x hx => List.mem_cons_of_mem _ (SubH.h x hx)) (by repeat (first | exact List.nil_sublist _ | exact List.Sublist.refl _ | refine List.Sublist.cons_cons _ ?_ | refine List.Sublist.cons _ ?_))
        · rw [if_neg hxf, List.append_nil] at hsn
          repeat (first | refine a1 ?_ | refine a3 ?_ | refine a4 ?_ | refine a5 ?_ | refine a6 ?_ | refine s_fieldB ?_ | refine s_fieldV ?_ | refine s_loadB ?_ | refine s_loadH ?_ | refine s_loadR ?_ | refine s_subI ?_ | refine s_len ?_ | refine s_lenR ?_ | refine s_index ?_ | refine s_indexR ?_ | refine s_addI ?_ | refine s_convI ?_ | refine s_rem ?_ | refine a7 ?_ | refine a8 ?_)
          have h := ih2 (k + 1, v9) (by dsimp only; omega) (by dsimp only; omega)
          dsimp only at h
          rw [hsn] at h
          refine Runs.weak (h) (by repeat (first | exact trivial | refine And.intro rfl ?_)) (fun x hx => List.mem_cons_of_mem _ (SubH.h x hx)) (by repeat (first | exact List.nil_sublist _ | exact List.Sublist.refl _ | refine List.Sublist.cons_cons _ ?_ | refine List.Sublist.cons _ ?_))
      · have hke : gl.take k = gl := List.take_of_length_le (by omega)
        rw [hke]
        rw [hke] at hv9
        have hol3 := outOf_length gl (a : Int)
        repeat (first | refine a1 ?_ | refine a3 ?_ | refine a4 ?_ | refine a5 ?_ | refine a6 ?_ | refine s_fieldB ?_ | refine s_fieldV ?_ | refine s_loadB ?_ | refine s_loadH ?_ | refine s_loadR ?_ | refine s_subI ?_ | refine s_len ?_ | refine s_lenR ?_ | refine s_index ?_ | refine s_indexR ?_ | refine s_addI ?_ | refine s_convI ?_ | refine s_rem ?_ | refine a7 ?_ | refine a8 ?_)
        refine Runs.cond_d rfl (fun hz => ?_) (fun hz => ?_)
        · have hz' : (outOf gl (a : Int)).length = 0 := by omega
          rw [if_pos hz'] at hI
          have hco : chosenOf N gl l = ([], false) := by unfold chosenOf; rw [hI]
          rw [hco] at hR
          repeat (first | refine a1 ?_ | refine a3 ?_ | refine a4 ?_ | refine a5 ?_ | refine a6 ?_ | refine s_fieldB ?_ | refine s_fieldV ?_ | refine s_loadB ?_ | refine s_loadH ?_ | refine s_loadR ?_ | refine s_subI ?_ | refine s_len ?_ | refine s_lenR ?_ | refine s_index ?_ | refine s_indexR ?_ | refine s_addI ?_ | refine s_convI ?_ | refine s_rem ?_ | refine a7 ?_ | refine a8 ?_)
          refine Runs.ret2 Try.func22 Try.results22 rfl rfl (fun w hm => hR _ w _ H _ (List.mem_cons_self ..) (Snap.le.refl _) ?_ hm)
          exact ⟨_, rfl, SliceRep.nil⟩
        · rw [if_neg (by omega)] at hI
          repeat (first | refine a1 ?_ | refine a3 ?_ | refine a4 ?_ | refine a5 ?_ | refine a6 ?_ | refine s_fieldB ?_ | refine s_fieldV ?_ | refine s_loadB ?_ | refine s_loadH ?_ | refine s_loadR ?_ | refine s_subI ?_ | refine s_len ?_ | refine s_lenR ?_ | refine s_index ?_ | refine s_indexR ?_ | refine s_addI ?_ | refine s_convI ?_ | refine s_rem ?_ | refine a7 ?_ | refine a8 ?_)
          have hcb : 0 ≤ tv l (i : Int) ∧ tv l (i : Int) ≤ 255 := by
            by_cases hil : i < l.length
            · exact hb _ (List.mem_of_getElem? (tv_at hil))
            · unfold tv
              rw [List.getElem?_eq_none (by simpa using hil)]; simp
          refine Runs.condJ (fun (_ : Unit) => True) (fun _ => [H]) (fun _ => [.row 3 1 v9 (outOf gl (a : Int)).length (encI (outOf gl (a : Int))), .row 3 1 v7 i (encI out), .blk b2 31 [.int .i64 (N : Int), vl]])
            (fun _ => [(1, vc), (2, .pointer (some ⟨b2, 0, none⟩)), (6, .int .i64 (a : Int)), (7, v7), (8, .int .i64 (i : Int)), (9, v9), (11, .int .i64 (tv l (i : Int)))]) rfl (fun hil hj => ?_) (fun hil hj => ?_) ?_
          · have hcl : H.cell (vat vc (i * 1)) = some (.int .u8 (tv l (i : Int))) := hc.flat1 (tv_at (by omega)) rfl
            refine Runs.regionT ?_
            repeat (first | refine RW.easyRun rfl ?_ | refine RW.q (QF.index rfl rfl hc.isSl rfl (by omega)).qv rfl rfl ?_ | refine RW.q (QV.loadH rfl hcl) rfl rfl ?_ | refine RW.q (QF.convI rfl (by unfold inI64; omega)).qv rfl rfl ?_ | refine RW.easy rfl rfl rfl ?_)
            refine RW.nil ?_
            refine Runs.weak (hj () trivial) (by repeat (first | exact trivial | refine And.intro rfl ?_)) (fun x hx => List.mem_cons_of_mem _ (SubH.h x hx)) (by repeat (first | exact List.nil_sublist _ | exact List.Sublist.refl _ | refine List.Sublist.cons_cons _ ?_ | refine List.Sublist.cons _ ?_))
          · have hc0 : tv l (i : Int) = 0 := by
              unfold tv
              rw [List.getElem?_eq_none (by simp; omega)]; rfl
            rw [hc0] at hj
            refine Runs.skip ?_
            refine Runs.weak (hj () trivial) (by repeat (first | exact trivial | refine And.intro rfl ?_)) (fun x hx => List.mem_cons_of_mem _ (SubH.h x hx)) (by repeat (first | exact List.nil_sublist _ | exact List.Sublist.refl _ | refine List.Sublist.cons_cons _ ?_ | refine List.Sublist.cons _ ?_))
          · rintro _ _
            generalize tv l (i : Int) = c at *
            obtain ⟨m, hm⟩ : ∃ m : Nat, c % ((outOf gl (a : Int)).length : Int) = (m : Int) := ⟨(c % ((outOf gl (a : Int)).length : Int)).toNat, by
              have := Int.emod_nonneg c (b := ((outOf gl (a : Int)).length : Int)) (by omega)
              omega⟩
            have hml : m < (outOf gl (a : Int)).length := by
              have := Int.emod_lt_of_pos c (b := ((outOf gl (a : Int)).length : Int)) (by omega)
              omega
            rw [hm] at hI
            obtain ⟨ki, x, hki, hx, hxf⟩ := outOf_at (tv_at hml)
            have hxo := hall x (List.mem_of_getElem? hx)
            unfold okL at hxo
            have hkl2 := (List.getElem?_eq_some_iff.1 hx).1
            have he := encI_at1 hml
            rw [hki] at hI he
            rw [lnk_at hx] at hI
            repeat (first | refine a1 ?_ | refine a3 ?_ | refine a4 ?_ | refine a5 ?_ | refine a6 ?_ | refine s_fieldB ?_ | refine s_fieldV ?_ | refine s_loadB ?_ | refine s_loadH ?_ | refine s_loadR ?_ | refine s_subI ?_ | refine s_len ?_ | refine s_lenR ?_ | refine s_index ?_ | refine s_indexR ?_ | refine s_addI ?_ | refine s_convI ?_ | refine s_rem ?_ | refine a7 ?_ | refine a8 ?_)
            rw [hm]
            repeat (first | refine a1 ?_ | refine a3 ?_ | refine a4 ?_ | refine a5 ?_ | refine a6 ?_ | refine s_fieldB ?_ | refine s_fieldV ?_ | refine s_loadB ?_ | refine s_loadH ?_ | refine s_loadR ?_ | refine s_subI ?_ | refine s_len ?_ | refine s_lenR ?_ | refine s_index ?_ | refine s_indexR ?_ | refine s_addI ?_ | refine s_convI ?_ | refine s_rem ?_ | refine a7 ?_ | refine a8 ?_)
            refine RW.buildSlice rfl rfl rfl rfl rfl rfl rfl (fun v64 hv64 => ?_)
            refine RW.appendR rfl rfl (by assumption) rfl rfl rfl (by decide) (by omega) (by omega) (fun _ => inferInstance) rfl rfl (fun v65 hv65 => ?_)
            repeat (first | refine a1 ?_ | refine a3 ?_ | refine a4 ?_ | refine a5 ?_ | refine a6 ?_ | refine s_fieldB ?_ | refine s_fieldV ?_ | refine s_loadB ?_ | refine s_loadH ?_ | refine s_loadR ?_ | refine s_subI ?_ | refine s_len ?_ | refine s_lenR ?_ | refine s_index ?_ | refine s_indexR ?_ | refine s_addI ?_ | refine s_convI ?_ | refine s_rem ?_ | refine a7 ?_ | refine a8 ?_)
            have hlast : (encI out ++ Value.int IntKind.i64 ↑ki :: [].append (repL 0 (cellsL (Value.int IntKind.i64 0))))[i * 1]? = some (.int .i64 (ki : Int)) := by
              have : (encI out).length = i := by simp [encI, hol]
              rw [Nat.mul_one, ← this, List.getElem?_append_right (Nat.le_refl _), Nat.sub_self]; rfl
            refine Runs.regionD _ _ [] (fun x hx => List.mem_cons_of_mem _ hx) (List.Sublist.refl _) (by kernel_rfl) ?_
            (first | refine t_fieldB 0 ?_ | refine t_fieldV 0 ?_)
            (first | refine t_loadB 1 ?_ | refine t_loadH 1 ?_ | refine t_loadR 1 ?_)
            refine d1 2 2 ?_
            (first | refine t_index 4 ?_ | refine t_indexR 4 ?_)
            (first | refine t_loadB 5 ?_ | refine t_loadH 5 ?_ | refine t_loadR 5 ?_)
            (first | refine t_index 6 ?_ | refine t_indexR 6 ?_)
            (first | refine t_fieldB 7 ?_ | refine t_fieldV 7 ?_)
            (first | refine t_loadB 8 ?_ | refine t_loadH 8 ?_ | refine t_loadR 8 ?_)
            refine d2 9 ?_
            refine DW.done (by kernel_rfl) ?_
            repeat (first | refine a1 ?_ | refine a3 ?_ | refine a4 ?_ | refine a5 ?_ | refine a6 ?_ | refine s_fieldB ?_ | refine s_fieldV ?_ | refine s_loadB ?_ | refine s_loadH ?_ | refine s_loadR ?_ | refine s_subI ?_ | refine s_len ?_ | refine s_lenR ?_ | refine s_index ?_ | refine s_indexR ?_ | refine s_addI ?_ | refine s_convI ?_ | refine s_rem ?_ | refine a7 ?_ | refine a8 ?_)
            have h := ih (i + 1, x.t, v65, out ++ [(ki : Int)]) ⟨by dsimp only; omega, by simp [hol], by dsimp only; omega, by dsimp only; omega, by dsimp only; rw [hI]; congr 1; omega⟩ (by dsimp only; omega)
            dsimp only at h
            rw [encI, List.map_append] at h
            refine Runs.weak (h) (by repeat (first | exact trivial | refine And.intro rfl ?_)) (fun x hx => List.mem_cons_of_mem _ (SubH.h x hx)) (by repeat (first | exact List.nil_sublist _ | exact List.Sublist.refl _ | refine List.Sublist.cons_cons _ ?_ | refine List.Sublist.cons _ ?_))
    · have hfin : chooseGo N gl l 10 0 0 [] = some (out, (a : Int)) := by
        obtain ⟨fu, hfu⟩ : ∃ fu, 10 - i = fu + 1 := ⟨9 - i, by omega⟩
        rw [hI, hfu, chooseGo, if_pos (by omega)]
      have hco : chosenOf N gl l = (out, decide ((a : Int) = N - 1)) := by unfold chosenOf; rw [hfin]
      rw [hco] at hR
      repeat (first | refine a1 ?_ | refine a3 ?_ | refine a4 ?_ | refine a5 ?_ | refine a6 ?_ | refine s_fieldB ?_ | refine s_fieldV ?_ | refine s_loadB ?_ | refine s_loadH ?_ | refine s_loadR ?_ | refine s_subI ?_ | refine s_len ?_ | refine s_lenR ?_ | refine s_index ?_ | refine s_indexR ?_ | refine s_addI ?_ | refine s_convI ?_ | refine s_rem ?_ | refine a7 ?_ | refine a8 ?_)
      refine Runs.freeze (H := H) v7 hM (fun H2 hle2 hs2 hc2 => ?_)
      refine Runs.regionD _ _ [] (fun x hx => List.mem_cons_of_mem _ hx) (List.Sublist.refl _) (by kernel_rfl) ?_
      refine d1 0 2 ?_
      (first | refine t_fieldB 2 ?_ | refine t_fieldV 2 ?_)
      (first | refine t_loadB 3 ?_ | refine t_loadH 3 ?_ | refine t_loadR 3 ?_)
      refine t_subI 4 ?_
      refine d1 5 3 ?_
      refine DW.done (by kernel_rfl) ?_
      repeat (first | refine a1 ?_ | refine a3 ?_ | refine a4 ?_ | refine a5 ?_ | refine a6 ?_ | refine s_fieldB ?_ | refine s_fieldV ?_ | refine s_loadB ?_ | refine s_loadH ?_ | refine s_loadR ?_ | refine s_subI ?_ | refine s_len ?_ | refine s_lenR ?_ | refine s_index ?_ | refine s_indexR ?_ | refine s_addI ?_ | refine s_convI ?_ | refine s_rem ?_ | refine a7 ?_ | refine a8 ?_)
      refine Runs.ret2 Try.func22 Try.results22 rfl rfl (fun w hm => hR _ w _ H2 _ (by simp) (hle2) ?_ hm)
      exact ⟨_, rfl, SliceRep.of_row hs2 hol.symm (ints_rep H2 out) (Snap.le.refl _) hc2⟩
  · have hfin : chooseGo N gl l 10 0 0 [] = some (out, (a : Int)) := by
      rw [hI, show 10 - i = 0 by omega, chooseGo]
    have hco : chosenOf N gl l = (out, decide ((a : Int) = N - 1)) := by unfold chosenOf; rw [hfin]
    rw [hco] at hR
    repeat (first | refine a1 ?_ | refine a3 ?_ | refine a4 ?_ | refine a5 ?_ | refine a6 ?_ | refine s_fieldB ?_ | refine s_fieldV ?_ | refine s_loadB ?_ | refine s_loadH ?_ | refine s_loadR ?_ | refine s_subI ?_ | refine s_len ?_ | refine s_lenR ?_ | refine s_index ?_ | refine s_indexR ?_ | refine s_addI ?_ | refine s_convI ?_ | refine s_rem ?_ | refine a7 ?_ | refine a8 ?_)
    refine Runs.freeze (H := H) v7 hM (fun H2 hle2 hs2 hc2 => ?_)
    refine Runs.regionD _ _ [] (fun x hx => List.mem_cons_of_mem _ hx) (List.Sublist.refl _) (by kernel_rfl) ?_
    refine d1 0 2 ?_
    (first | refine t_fieldB 2 ?_ | refine t_fieldV 2 ?_)
    (first | refine t_loadB 3 ?_ | refine t_loadH 3 ?_ | refine t_loadR 3 ?_)
    refine t_subI 4 ?_
    refine d1 5 3 ?_
    refine DW.done (by kernel_rfl) ?_
    repeat (first | refine a1 ?_ | refine a3 ?_ | refine a4 ?_ | refine a5 ?_ | refine a6 ?_ | refine s_fieldB ?_ | refine s_fieldV ?_ | refine s_loadB ?_ | refine s_loadH ?_ | refine s_loadR ?_ | refine s_subI ?_ | refine s_len ?_ | refine s_lenR ?_ | refine s_index ?_ | refine s_indexR ?_ | refine s_addI ?_ | refine s_convI ?_ | refine s_rem ?_ | refine a7 ?_ | refine a8 ?_)
    refine Runs.ret2 Try.func22 Try.results22 rfl rfl (fun w hm => hR _ w _ H2 _ (by simp) (hle2) ?_ hm)
    exact ⟨_, rfl, SliceRep.of_row hs2 hol.symm (ints_rep H2 out) (Snap.le.refl _) hc2⟩
end Go.Proofs.Ythlolpckgffebaa

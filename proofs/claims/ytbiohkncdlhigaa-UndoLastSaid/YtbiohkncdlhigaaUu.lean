/-
  Contracts: equal pasts and results; new pasts, chosen commits. Conditions: lists of at most 900 steps.
-/
import Derived.Test.YtbiohkncdlhigaaUt
namespace Go.Proofs.Ytbiohkncdlhigaa
open Go Go.RowKit

theorem run_eqEd {w : World} {a b : Ed} (d : Nat) : (Op.equalIn (d + 2) 31 (edV a) (edV b)).run Try.prog w = .ok (decide (a = b)) w := by
  have ht : Try.prog.underlying 31 = some (.struct (Try.prog.fieldsOf 31)) := by simp [Program.fieldsOf, Try.underlying31]
  have h1 := run_equalIn_agg (P := Try.prog) w (d + 1) 31 #[.int .i64 a.k, .int .i64 a.at_, .int .i64 a.len, .int .i64 a.to_, str a.tx] #[.int .i64 b.k, .int .i64 b.at_, .int .i64 b.len, .int .i64 b.to_, str b.tx] ht Try.stoodInHeld31
  simp only [Program.fieldsOf, Try.underlying31] at h1
  rw [h1]
  obtain ⟨k, f, t, v, x⟩ := a
  obtain ⟨k2, f2, t2, v2, x2⟩ := b
  simp [Op.eqFields, part, Try.sizeOf3, Try.sizeOf9, run_equalIn_int _ _ _ _ _ _ _ Try.underlying3, run_equalIn_string _ _ _ _ _ Try.underlying9]
  by_cases h1 : k = k2 <;> by_cases h2 : f = f2 <;> by_cases h3 : t = t2 <;> by_cases h4 : v = v2 <;> by_cases h5 : x = x2 <;> simp [h1, h2, h3, h4, h5]
theorem run_eqStp {w : World} {a b : Stp} (d : Nat) : (Op.equalIn (d + 3) 33 (stpV a) (stpV b)).run Try.prog w = .ok (decide (a = b)) w := by
  have ht : Try.prog.underlying 33 = some (.struct (Try.prog.fieldsOf 33)) := by simp [Program.fieldsOf, Try.underlying33]
  have h1 := run_equalIn_agg (P := Try.prog) w (d + 2) 33 (stpC a).toArray (stpC b).toArray ht Try.stoodInHeld33
  have hE := run_eqEd (w := w) (a := a.e) (b := b.e) d
  simp only [Program.fieldsOf, Try.underlying33] at h1
  obtain ⟨k, f, e, v⟩ := a
  obtain ⟨k2, f2, e2, v2⟩ := b
  dsimp only at hE h1
  change (Op.equalIn (d + 3) 33 (.agg (stpC ⟨k, f, e, v⟩).toArray) (.agg (stpC ⟨k2, f2, e2, v2⟩).toArray)).run Try.prog w = _
  rw [h1]
  simp [Op.eqFields, part, Try.sizeOf3, Try.sizeOf4, Try.sizeOf31, run_equalIn_int _ _ _ _ _ _ _ Try.underlying3, run_equalIn_bool' _ _ _ _ _ Try.underlying4, hE]
  by_cases h1 : k = k2 <;> by_cases h2 : f = f2 <;> by_cases h3 : e = e2 <;> by_cases h4 : v = v2 <;> simp [h1, h2, h3, h4]
theorem QF.neqStp {l : Env} {T' : TypeId} {x y : Operand} {a b : Stp} (hx : opv l x = some (stpV a)) (hy : opv l y = some (stpV b)) : QF Try.prog l (.binOp .neq 33 x y T') (.bool (decide (a ≠ b))) := by
  intro o ho ρ hρ w
  have h2 := run_eqStp (w := w) (a := a) (b := b) 9997
  simp only [execOp, ho, hρ _ _ hx, hρ _ _ hy, Sem.run_bind, run_eqGuard_agg w _ _ _ _ _ _ Try.eqGuardType33, Result.andThen_ok, run_neq_struct, h2]
  simp
theorem QF.neqEd {l : Env} {T' : TypeId} {x y : Operand} {a b : Ed} (hx : opv l x = some (edV a)) (hy : opv l y = some (edV b)) : QF Try.prog l (.binOp .neq 31 x y T') (.bool (decide (a ≠ b))) := by
  intro o ho ρ hρ w
  have h2 := run_eqEd (w := w) (a := a) (b := b) 9998
  simp only [execOp, ho, hρ _ _ hx, hρ _ _ hy, Sem.run_bind, run_eqGuard_agg w _ _ _ _ _ _ Try.eqGuardType31, Result.andThen_ok, run_neq_struct, h2]
  simp
set_option maxHeartbeats 1000000 in
theorem sameP_c {H : Snap} {vda vsa vdb vsb : Value} {da db : List Dc} {sa sb : List Stp} (hda : SliceRep H DocL vda da) (hsa : SliceRep H StepL vsa sa) (hdb : SliceRep H DocL vdb db) (hsb : SliceRep H StepL vsb sb) :
    Pure Try.prog 26 #[.agg #[vda, vsa], .agg #[vdb, vsb]] H (fun _ r => r = .bool (decide ((⟨da, sa⟩ : Pst) = ⟨db, sb⟩))) := by
  have b1 := hda.isSl.bound
  have b2 := hsa.isSl.bound
  have i1 := hda.isSl
  have i2 := hsa.isSl
  have i3 := hdb.isSl
  have i4 := hsb.isSl
  have o1 := i1.one1
  have o2 := i2.one1
  have o3 := i3.one1
  have o4 := i4.one1
  refine Pure.intro Try.func26 rfl Try.ntmps26 rfl (fun E R hM hR => ?_)
  repeat (first | refine a4 ?_ | refine a6 ?_)
  refine RW.box rfl rfl rfl rfl (fun b2 => ?_)
  refine RW.box rfl rfl rfl rfl (fun b3 => ?_)
  repeat (first | refine a1 ?_ | refine a4 ?_ | refine a5 ?_ | refine a6 ?_ | refine s_fieldB ?_ | refine s_loadB ?_ | refine s_len ?_)
  by_cases h1 : da.length = db.length
  · rw [decide_eq_false (show ¬ ((da.length : Int) ≠ (db.length : Int)) by omega)]
    repeat (first | refine a1 ?_ | refine a5 ?_ | refine s_fieldB ?_ | refine s_loadB ?_ | refine s_len ?_)
    by_cases h2 : sa.length = sb.length
    · rw [decide_eq_false (show ¬ ((sa.length : Int) ≠ (sb.length : Int)) by omega)]
      repeat (first | refine a1 ?_ | refine a4 ?_ | refine a5 ?_ | refine a6 ?_ | refine a8 ?_)
      refine Runs.loop (fun k : Nat => k ≤ da.length ∧ ∀ j, j < k → da[j]? = db[j]?) (fun k => da.length - k) (fun _ => [H]) (fun _ => [.blk b3 27 [vdb, vsb], .blk b2 27 [vda, vsa]]) (fun k => [(2, .pointer (some ⟨b2, 0, none⟩)), (3, .pointer (some ⟨b3, 0, none⟩)), (5, .int .i64 (k : Int))]) 0 ⟨Nat.zero_le _, by simp⟩
        (fun h => by refine Runs.weak (h) (by repeat (first | exact trivial | refine And.intro rfl ?_)) (fun x hx => List.mem_cons_of_mem _ (SubH.h x hx)) (by repeat (first | exact List.nil_sublist _ | exact List.Sublist.refl _ | refine List.Sublist.cons_cons _ ?_ | refine List.Sublist.cons _ ?_))) ?_
      rintro k ⟨hk, hI⟩ ih
      repeat (first | refine a1 ?_ | refine a4 ?_ | refine a5 ?_ | refine a6 ?_ | refine s_fieldB ?_ | refine s_loadB ?_ | refine s_len ?_)
      refine Runs.cond_d rfl (fun hlt => ?_) (fun hlt => ?_)
      · obtain ⟨x, hx⟩ : ∃ x, da[k]? = some x := ⟨_, List.getElem?_eq_getElem (by omega)⟩
        obtain ⟨y, hy⟩ : ∃ y, db[k]? = some y := ⟨_, List.getElem?_eq_getElem (by omega)⟩
        obtain ⟨vx, hvx, hcx⟩ := hda.dc hx
        obtain ⟨vy, hvy, hcy⟩ := hdb.dc hy
        repeat (refine a4 ?_)
        refine Runs.regionD _ _ [] (fun x hx => List.mem_cons_of_mem _ hx) (List.Sublist.refl _) (by kernel_rfl) ?_
        refine t_fieldB 0 ?_
        refine t_loadB 1 ?_
        refine d2 2 ?_
        refine t_index 3 ?_
        refine t_loadHs 4 ?_
        refine t_fieldB 5 ?_
        refine t_loadB 6 ?_
        refine d2 7 ?_
        refine t_index 8 ?_
        refine t_loadHs 9 ?_
        refine DW.callV 10 rfl (by kernel_rfl) rfl (same_c (H := H) (a := x) (b := y) ⟨vx, rfl, hvx⟩ ⟨vy, rfl, hvy⟩) rfl rfl ?_
        rintro _ _ rfl
        refine d2 11 ?_
        refine DW.done (by kernel_rfl) ?_
        skip
        by_cases hxy : x = y
        · rw [decide_eq_true hxy]
          have hI2 : ∀ j, j < k + 1 → da[j]? = db[j]? := fun j hj => by
            by_cases e : j = k
            · subst e; rw [hx, hy, hxy]
            · exact hI j (by omega)
          repeat (first | refine a1 ?_ | refine a4 ?_ | refine a5 ?_ | refine a6 ?_ | refine s_addI ?_ | refine a8 ?_)
          refine Runs.weak (ih (k + 1) ⟨by omega, hI2⟩ (by omega)) (by repeat (first | exact trivial | refine And.intro rfl ?_)) (fun x hx => List.mem_cons_of_mem _ (SubH.h x hx)) (by repeat (first | exact List.nil_sublist _ | exact List.Sublist.refl _ | refine List.Sublist.cons_cons _ ?_ | refine List.Sublist.cons _ ?_))
        · rw [decide_eq_false hxy]
          have hne : ¬ ((⟨da, sa⟩ : Pst) = ⟨db, sb⟩) := fun h => by
            injection h with h _
            rw [h, hy] at hx
            exact hxy (Option.some.inj hx).symm
          repeat (first | refine a1 ?_ | refine a4 ?_ | refine a5 ?_ | refine a6 ?_ | refine a7 ?_)
          refine Runs.ret1 Try.func26 Try.results26 rfl (fun w hm => hR _ w _ H _ (List.mem_cons_self ..) (Snap.le.refl _) ?_ hm)
          rw [decide_eq_false hne]
      · have hdd : da = db := List.ext_getElem? fun j => by
          by_cases hj : j < k
          · exact hI j hj
          · rw [List.getElem?_eq_none (by omega), List.getElem?_eq_none (by omega)]
        repeat (first | refine a1 ?_ | refine a4 ?_ | refine a5 ?_ | refine a6 ?_)
        refine Runs.loop (fun k : Nat => k ≤ sa.length ∧ ∀ j, j < k → sa[j]? = sb[j]?) (fun k => sa.length - k) (fun _ => [H]) (fun _ => [.blk b3 27 [vdb, vsb], .blk b2 27 [vda, vsa]]) (fun k => [(2, .pointer (some ⟨b2, 0, none⟩)), (3, .pointer (some ⟨b3, 0, none⟩)), (6, .int .i64 (k : Int))]) 0 ⟨Nat.zero_le _, by simp⟩
          (fun h => by refine Runs.weak (h) (by repeat (first | exact trivial | refine And.intro rfl ?_)) (fun x hx => List.mem_cons_of_mem _ (SubH.h x hx)) (by repeat (first | exact List.nil_sublist _ | exact List.Sublist.refl _ | refine List.Sublist.cons_cons _ ?_ | refine List.Sublist.cons _ ?_))) ?_
        rintro k2 ⟨hk2, hI2⟩ ih2
        repeat (first | refine a1 ?_ | refine a4 ?_ | refine a5 ?_ | refine a6 ?_ | refine s_fieldB ?_ | refine s_loadB ?_ | refine s_len ?_)
        refine Runs.cond_d rfl (fun hlt2 => ?_) (fun hlt2 => ?_)
        · obtain ⟨x, hx⟩ : ∃ x, sa[k2]? = some x := ⟨_, List.getElem?_eq_getElem (by omega)⟩
          obtain ⟨y, hy⟩ : ∃ y, sb[k2]? = some y := ⟨_, List.getElem?_eq_getElem (by omega)⟩
          have hx8 := hsa.st hx
          have hy8 := hsb.st hy
          repeat (refine a4 ?_)
          refine Runs.regionD _ _ [] (fun x hx => List.mem_cons_of_mem _ hx) (List.Sublist.refl _) (by kernel_rfl) ?_
          refine t_fieldB 0 ?_
          refine t_loadB 1 ?_
          refine d2 2 ?_
          refine t_index 3 ?_
          refine t_loadHs 4 ?_
          refine t_fieldB 5 ?_
          refine t_loadB 6 ?_
          refine d2 7 ?_
          refine t_index 8 ?_
          refine t_loadHs 9 ?_
          refine DW.qF 10 rfl (by kernel_rfl) (QF.neqStp (a := x) (b := y) rfl rfl) rfl rfl ?_
          refine DW.done (by kernel_rfl) ?_
          skip
          by_cases hxy : x = y
          · rw [decide_eq_false (show ¬ (x ≠ y) by simpa using hxy)]
            have hI3 : ∀ j, j < k2 + 1 → sa[j]? = sb[j]? := fun j hj => by
              by_cases e : j = k2
              · subst e; rw [hx, hy, hxy]
              · exact hI2 j (by omega)
            repeat (first | refine a1 ?_ | refine a4 ?_ | refine a5 ?_ | refine a6 ?_ | refine s_addI ?_ | refine a8 ?_)
            refine Runs.weak (ih2 (k2 + 1) ⟨by omega, hI3⟩ (by omega)) (by repeat (first | exact trivial | refine And.intro rfl ?_)) (fun x hx => List.mem_cons_of_mem _ (SubH.h x hx)) (by repeat (first | exact List.nil_sublist _ | exact List.Sublist.refl _ | refine List.Sublist.cons_cons _ ?_ | refine List.Sublist.cons _ ?_))
          · rw [decide_eq_true (show x ≠ y from hxy)]
            have hne : ¬ ((⟨da, sa⟩ : Pst) = ⟨db, sb⟩) := fun h => by
              injection h with _ h
              rw [h, hy] at hx
              exact hxy (Option.some.inj hx).symm
            repeat (first | refine a1 ?_ | refine a4 ?_ | refine a5 ?_ | refine a6 ?_ | refine a7 ?_)
            refine Runs.ret1 Try.func26 Try.results26 rfl (fun w hm => hR _ w _ H _ (List.mem_cons_self ..) (Snap.le.refl _) ?_ hm)
            rw [decide_eq_false hne]
        · have hss : sa = sb := List.ext_getElem? fun j => by
            by_cases hj : j < k2
            · exact hI2 j hj
            · rw [List.getElem?_eq_none (by omega), List.getElem?_eq_none (by omega)]
          repeat (first | refine a1 ?_ | refine a4 ?_ | refine a5 ?_ | refine a6 ?_)
          refine Runs.ret1 Try.func26 Try.results26 rfl (fun w hm => hR _ w _ H _ (List.mem_cons_self ..) (Snap.le.refl _) ?_ hm)
          rw [hdd, hss, decide_eq_true rfl]
    · rw [decide_eq_true (show ((sa.length : Int) ≠ (sb.length : Int)) by omega)]
      have hne : ¬ ((⟨da, sa⟩ : Pst) = ⟨db, sb⟩) := fun h => by
        injection h with _ h
        exact h2 (by rw [h])
      repeat (first | refine a1 ?_ | refine a4 ?_ | refine a5 ?_ | refine a6 ?_ | refine a7 ?_)
      refine Runs.ret1 Try.func26 Try.results26 rfl (fun w hm => hR _ w _ H _ (List.mem_cons_self ..) (Snap.le.refl _) ?_ hm)
      rw [decide_eq_false hne]
  · rw [decide_eq_true (show ((da.length : Int) ≠ (db.length : Int)) by omega)]
    have hne : ¬ ((⟨da, sa⟩ : Pst) = ⟨db, sb⟩) := fun h => by
      injection h with h _
      exact h1 (by rw [h])
    repeat (first | refine a1 ?_ | refine a3 ?_ | refine a4 ?_ | refine a5 ?_ | refine a6 ?_ | refine a7 ?_)
    refine Runs.ret1 Try.func26 Try.results26 rfl (fun w hm => hR _ w _ H _ (List.mem_cons_self ..) (Snap.le.refl _) ?_ hm)
    rw [decide_eq_false hne]
theorem past4 {a b c d : Value} : ∀ (j : Nat) (u : Value), [a, b][j]? = some u → [a, b, c, d][0 + j]? = some u
  | 0, _, h => h
  | 1, _, h => h
  | _ + 2, _, h => by simp at h
set_option maxHeartbeats 1000000 in
theorem usame_c {H : Snap} {va vb : Value} {a b : Pst × List Int × Int} (ha : UndR H va a) (hb : UndR H vb b) : Pure Try.prog 22 #[va, vb] H (fun _ r => r = .bool (decide (a = b))) := by
  obtain ⟨vd, vs, vl, rfl, h1, h2, h3⟩ := ha
  obtain ⟨vd2, vs2, vl2, rfl, g1, g2, g3⟩ := hb
  obtain ⟨⟨da, sa⟩, la, ea⟩ := a
  obtain ⟨⟨db, sb⟩, lb, eb⟩ := b
  dsimp only at *
  have o1 := h1.isSl.one1
  have o2 := h2.isSl.one1
  have o3 := h3.isSl.one1
  have o4 := g1.isSl.one1
  have o5 := g2.isSl.one1
  have o6 := g3.isSl.one1
  refine Pure.intro Try.func22 rfl Try.ntmps22 rfl (fun E R hM hR => ?_)
  repeat (first | refine a4 ?_ | refine a6 ?_)
  refine RW.box rfl rfl rfl rfl (fun b2 => ?_)
  refine RW.box rfl rfl rfl rfl (fun b3 => ?_)
  repeat (first | refine a1 ?_ | refine a4 ?_ | refine a5 ?_ | refine a6 ?_ | refine s_fieldB ?_)
  refine RW.q (QV.loadBp (c := [vd, vs]) rfl past4) rfl rfl ?_
  repeat (refine s_fieldB ?_)
  refine RW.q (QV.loadBp (c := [vd2, vs2]) rfl past4) rfl rfl ?_
  skip
  refine RW.callV rfl (sameP_c (H := H) h1 h2 g1 g2) rfl rfl ?_
  rintro _ _ rfl
  repeat (refine a1 ?_)
  by_cases c1 : (⟨da, sa⟩ : Pst) = ⟨db, sb⟩
  · rw [decide_eq_true c1]
    repeat (first | refine s_fieldB ?_ | refine s_loadB ?_)
    refine RW.callV rfl (ints_c (H := H) h3 g3) rfl rfl ?_
    rintro _ _ rfl
    repeat (refine a1 ?_)
    by_cases c2 : la = lb
    · rw [decide_eq_true c2]
      repeat (first | refine a1 ?_ | refine a5 ?_ | refine s_fieldB ?_ | refine s_loadB ?_)
      refine Runs.ret1 Try.func22 Try.results22 rfl (fun w hm => hR _ w _ H _ (List.mem_cons_self ..) (Snap.le.refl _) ?_ hm)
      rw [c1, c2]
      by_cases c3 : ea = eb
      · rw [decide_eq_true c3, c3, decide_eq_true rfl]
      · rw [decide_eq_false c3, decide_eq_false (fun h => c3 (by injection h with _ h; injection h))]
    · rw [decide_eq_false c2]
      repeat (first | refine a1 ?_ | refine a3 ?_ | refine a5 ?_)
      refine Runs.ret1 Try.func22 Try.results22 rfl (fun w hm => hR _ w _ H _ (List.mem_cons_self ..) (Snap.le.refl _) ?_ hm)
      rw [decide_eq_false (fun h => c2 (by injection h with _ h; injection h))]
  · rw [decide_eq_false c1]
    repeat (first | refine a1 ?_ | refine a3 ?_ | refine a5 ?_)
    refine Runs.ret1 Try.func22 Try.results22 rfl (fun w hm => hR _ w _ H _ (List.mem_cons_self ..) (Snap.le.refl _) ?_ hm)
    rw [decide_eq_false (fun h => c1 (by injection h))]
theorem commit_c {H : Snap} {i a : Int} {t : List UInt8} : Pure Try.prog 31 #[.int .i64 i, .int .i64 a, str t] H (fun _ r => r = stpV ⟨0, i, ⟨1, a, 0, 0, t⟩, false⟩) := by
  refine Pure.intro Try.func31 rfl Try.ntmps31 rfl (fun E R hM hR => ?_)
  repeat (first | refine a4 ?_ | refine a6 ?_)
  refine RW.alloc rfl rfl rfl (fun b6 => ?_)
  repeat (first | refine a1 ?_ | refine a4 ?_ | refine a5 ?_ | refine a6 ?_ | refine s_build ?_ | refine a9 ?_)
  refine Runs.retC Try.func31 Try.results31 rfl (fun w hm => hR _ w _ H _ (List.mem_cons_self ..) (Snap.le.refl _) ?_ hm)
  rfl

/-! ### New pasts, chosen commits -/
def newP (n : Nat) : Pst := ⟨List.replicate n nilD, []⟩
theorem nil_rep (H : Snap) : ∀ n, CellsRep H DocL (List.replicate n nilD) (repL n [str [], .slice none 0 0])
  | 0 => rfl
  | n + 1 => ⟨[str [], .slice none 0 0], repL n [str [], .slice none 0 0], rfl, ⟨.slice none 0 0, rfl, SliceRep.nil⟩, nil_rep H n⟩
theorem QF.buildPast1 {l : Env} {x : Operand} {vx : Value} (hx : opv l x = some vx) (h1 : one1 vx = true) : QF Try.prog l (.build 27 #[(0, x)]) (.agg #[vx, .slice none 0 0]) :=
  QF.build (L := [(0, x)]) (vs := [(0, vx)]) (cs := [vx, .slice none 0 0]) (by simp only [opvs, hx]) (by
    have e1 := cellsL_one h1
    simp only [fillL, e1]
    rfl)
theorem new_c {H : Snap} {n : Nat} (hn : n ≤ 100) : Pure Try.prog 29 #[.int .i64 (n : Int)] H (fun H' r => PastR H' r (newP n)) := by
  refine Pure.intro Try.func29 rfl Try.ntmps29 rfl (fun E R hM hR => ?_)
  repeat (first | refine a4 ?_ | refine a6 ?_)
  refine RW.alloc rfl rfl rfl (fun b2 => ?_)
  repeat (first | refine a1 ?_ | refine a4 ?_ | refine a5 ?_ | refine a6 ?_)
  refine RW.make rfl rfl rfl (by decide) (by omega) (by omega) rfl rfl (fun v4 h4 => ?_)
  have ho4 := h4.one1
  refine RW.q (QF.buildPast1 rfl ho4).qv rfl rfl ?_
  repeat (first | refine a5 ?_ | refine a9 ?_)
  refine Runs.freeze (H := H) v4 hM (fun H3 hle3 hs3 hc3 => ?_)
  refine Runs.retC Try.func29 Try.results29 rfl (fun w hm => hR _ w _ H3 _ (by simp) (hle3) ?_ hm)
  exact ⟨v4, _, rfl, SliceRep.of_row (H := H3) hs3 (by simp [newP]) (nil_rep H3 n) (Snap.le.refl _) hc3, SliceRep.nil⟩
theorem rnew_c {H : Snap} {n : Nat} (hn : n ≤ 100) : Pure Try.prog 30 #[.int .i64 (n : Int)] H (fun H' r => PastR H' r (newP n)) := by
  refine Pure.intro Try.func30 rfl Try.ntmps30 rfl (fun E R hM hR => ?_)
  repeat (first | refine a4 ?_ | refine a6 ?_)
  refine RW.alloc rfl rfl rfl (fun b2 => ?_)
  repeat (first | refine a1 ?_ | refine a4 ?_ | refine a5 ?_ | refine a6 ?_)
  refine RW.make rfl rfl rfl (by decide) (by omega) (by omega) rfl rfl (fun v4 h4 => ?_)
  have ho4 := h4.one1
  refine RW.q (QF.buildPast1 rfl ho4).qv rfl rfl ?_
  repeat (first | refine a5 ?_ | refine a9 ?_)
  refine Runs.freeze (H := H) v4 hM (fun H3 hle3 hs3 hc3 => ?_)
  refine Runs.retC Try.func30 Try.results30 rfl (fun w hm => hR _ w _ H3 _ (by simp) (hle3) ?_ hm)
  exact ⟨v4, _, rfl, SliceRep.of_row (H := H3) hs3 (by simp [newP]) (nil_rep H3 n) (Snap.le.refl _) hc3, SliceRep.nil⟩
/-- The indices of the commits among the first k steps. -/
def comL (ss : List Stp) (k : Nat) : List Int := ((List.range k).filter (fun i : Nat => comB ss (i : Int))).map (fun i : Nat => (i : Int))
theorem comL_succ (ss : List Stp) (k : Nat) : comL ss (k + 1) = comL ss k ++ (if comB ss (k : Int) = true then [(k : Int)] else []) := by
  unfold comL
  rw [List.range_succ, List.filter_append, List.map_append]
  congr 1
  cases h : comB ss (k : Int) <;> simp [h]
theorem comL_len (ss : List Stp) (k : Nat) : (comL ss k).length ≤ k := by
  unfold comL
  rw [List.length_map]
  have := List.length_filter_le (fun i : Nat => comB ss (i : Int)) (List.range k)
  simpa using this
def chosenP (ss : List Stp) (n : Int) : Int := if comL ss ss.length = [] then -1 else tv (comL ss ss.length) (n % ((comL ss ss.length).length : Int))
theorem comL_mem {ss : List Stp} {k : Nat} {i : Int} (h : i ∈ comL ss k) : comB ss i = true := by
  unfold comL at h
  obtain ⟨j, hj, rfl⟩ := List.mem_map.1 h
  exact (List.mem_filter.1 hj).2
theorem chosen_ok {ss : List Stp} {n : Int} : chosenP ss n = -1 ∨ comB ss (chosenP ss n) = true := by
  unfold chosenP
  by_cases h : comL ss ss.length = []
  · rw [if_pos h]; exact .inl rfl
  · rw [if_neg h]
    have hl := List.length_pos_iff.2 h
    have z1 := Int.emod_nonneg n (by omega : ((comL ss ss.length).length : Int) ≠ 0)
    have z2 := Int.emod_lt_of_pos n (by omega : 0 < ((comL ss ss.length).length : Int))
    refine .inr (comL_mem (k := ss.length) ?_)
    unfold tv
    obtain ⟨j, hj⟩ : ∃ j : Nat, n % ((comL ss ss.length).length : Int) = (j : Int) := ⟨(n % ((comL ss ss.length).length : Int)).toNat, by omega⟩
    rw [hj]
    have hj2 : j < (comL ss ss.length).length := by omega
    simp [hj2]
set_option maxHeartbeats 1000000 in
theorem chosen_c {H : Snap} {vd vs : Value} {ds : List Dc} {ss : List Stp} {n : Int} (hd : SliceRep H DocL vd ds) (hv : SliceRep H StepL vs ss) (hsl : ss.length ≤ 900) (hn : isByte n) : Pure Try.prog 12 #[.agg #[vd, vs], .int .u8 n] H (fun _ r => r = .int .i64 (chosenP ss n)) := by
  have ho1 := hd.isSl.one1
  have ho2 := hv.isSl.one1
  have hiss := hv.isSl
  unfold isByte at hn
  refine Pure.intro Try.func12 rfl Try.ntmps12 rfl (fun E R hM hR => ?_)
  repeat (first | refine a4 ?_ | refine a6 ?_)
  refine RW.box rfl rfl rfl rfl (fun b2 => ?_)
  repeat (first | refine a1 ?_ | refine a4 ?_ | refine a5 ?_ | refine a6 ?_)
  refine RW.buildSlice rfl rfl rfl rfl rfl rfl rfl (fun v7 h7 => ?_)
  repeat (first | refine a1 ?_ | refine a4 ?_ | refine a5 ?_ | refine a6 ?_)
  refine Runs.loop (fun s : Nat × Value => s.1 ≤ ss.length ∧ IsSl s.2 (comL ss s.1).length) (fun s => ss.length - s.1) (fun _ => [H]) (fun s => [.row 3 1 s.2 (comL ss s.1).length (encI (comL ss s.1)), .blk b2 27 [vd, vs]]) (fun s => [(1, .int .u8 n), (2, .pointer (some ⟨b2, 0, none⟩)), (5, s.2), (6, .int .i64 (s.1 : Int))]) (0, v7) ⟨Nat.zero_le _, h7⟩
    (fun h => by refine Runs.weak (h) (by repeat (first | exact trivial | refine And.intro rfl ?_)) (fun x hx => List.mem_cons_of_mem _ (SubH.h x hx)) (by repeat (first | exact List.nil_sublist _ | exact List.Sublist.refl _ | refine List.Sublist.cons_cons _ ?_ | refine List.Sublist.cons _ ?_))) ?_
  rintro ⟨k, vk⟩ ⟨hk, hsk⟩ ih
  dsimp only at hk hsk ih ⊢
  have hcl := comL_len ss k
  have hsu := comL_succ ss k
  repeat (first | refine a1 ?_ | refine a4 ?_ | refine a5 ?_ | refine a6 ?_ | refine s_fieldB ?_ | refine s_loadB ?_ | refine s_len ?_)
  refine Runs.cond_d rfl (fun hlt => ?_) (fun hlt => ?_)
  · repeat (first | refine a1 ?_ | refine a4 ?_ | refine a6 ?_ | refine s_loadBs ?_)
    refine RW.callV rfl (rcommit_c (H := H) (i := (k : Int)) hd hv) rfl rfl ?_
    rintro _ _ rfl
    repeat (refine a5 ?_)
    cases hcb : comB ss (k : Int) with
    | true =>
      rw [hcb, if_pos rfl] at hsu
      repeat (first | refine a1 ?_ | refine a6 ?_ | refine a7 ?_)
      refine RW.buildSlice rfl rfl rfl rfl rfl rfl rfl (fun v20 h20 => ?_)
      skip
      refine RW.appendR rfl rfl (by assumption) rfl rfl rfl (by decide) (by omega) (by omega) (fun _ => inferInstance) rfl rfl (fun v21 h21 => ?_)
      have ih2 := ih (k + 1, v21) ⟨by dsimp only; omega, by dsimp only; rw [hsu, List.length_append]; exact h21⟩ (by dsimp only; omega)
      dsimp only at ih2
      rw [hsu, encI_snoc, List.length_append] at ih2
      repeat (first | refine a1 ?_ | refine a4 ?_ | refine a5 ?_ | refine a6 ?_ | refine s_addI ?_)
      refine Runs.weak (ih2) (by repeat (first | exact trivial | refine And.intro rfl ?_)) (fun x hx => List.mem_cons_of_mem _ (SubH.h x hx)) (by repeat (first | exact List.nil_sublist _ | exact List.Sublist.refl _ | refine List.Sublist.cons_cons _ ?_ | refine List.Sublist.cons _ ?_))
    | false =>
      rw [hcb, if_neg (by simp), List.append_nil] at hsu
      have ih2 := ih (k + 1, vk) ⟨by dsimp only; omega, by dsimp only; rw [hsu]; exact hsk⟩ (by dsimp only; omega)
      dsimp only at ih2
      rw [hsu] at ih2
      repeat (first | refine a1 ?_ | refine a4 ?_ | refine a5 ?_ | refine a6 ?_ | refine s_addI ?_ | refine a8 ?_)
      refine Runs.weak (ih2) (by repeat (first | exact trivial | refine And.intro rfl ?_)) (fun x hx => List.mem_cons_of_mem _ (SubH.h x hx)) (by repeat (first | exact List.nil_sublist _ | exact List.Sublist.refl _ | refine List.Sublist.cons_cons _ ?_ | refine List.Sublist.cons _ ?_))
  · have hk2 : k = ss.length := by omega
    subst hk2
    repeat (first | refine a1 ?_ | refine a4 ?_ | refine a5 ?_ | refine a6 ?_ | refine s_len ?_)
    refine Runs.cond_d rfl (fun h0 => ?_) (fun h0 => ?_)
    · have hnil : comL ss ss.length = [] := List.eq_nil_of_length_eq_zero (by omega)
      repeat (first | refine a1 ?_ | refine a4 ?_ | refine a5 ?_ | refine a6 ?_)
      refine Runs.ret1 Try.func12 Try.results12 rfl (fun w hm => hR _ w _ H _ (List.mem_cons_self ..) (Snap.le.refl _) ?_ hm)
      unfold chosenP
      rw [if_pos hnil]
    · have hnn : comL ss ss.length ≠ [] := fun h => h0 (by rw [h]; rfl)
      have hl := List.length_pos_iff.2 hnn
      have z1 := Int.emod_nonneg n (by omega : ((comL ss ss.length).length : Int) ≠ 0)
      have z2 := Int.emod_lt_of_pos n (by omega : 0 < ((comL ss ss.length).length : Int))
      obtain ⟨j, hj⟩ : ∃ j : Nat, n % ((comL ss ss.length).length : Int) = (j : Int) := ⟨(n % ((comL ss ss.length).length : Int)).toNat, by omega⟩
      have hj2 : j < (comL ss ss.length).length := by omega
      repeat (first | refine a1 ?_ | refine a4 ?_ | refine a6 ?_ | refine s_len ?_ | refine s_convI ?_ | refine s_rem ?_)
      repeat refine RW.q (QF.move rfl).qv rfl rfl ?_
      skip
      rw [hj]
      repeat (refine s_index ?_)
      refine RW.q (QV.loadR rfl (encI_at1 hj2)) rfl rfl ?_
      repeat (first | refine a1 ?_ | refine a5 ?_)
      refine Runs.ret1 Try.func12 Try.results12 rfl (fun w hm => hR _ w _ H _ (List.mem_cons_self ..) (Snap.le.refl _) ?_ hm)
      unfold chosenP
      rw [if_neg hnn, hj]
end Go.Proofs.Ytbiohkncdlhigaa

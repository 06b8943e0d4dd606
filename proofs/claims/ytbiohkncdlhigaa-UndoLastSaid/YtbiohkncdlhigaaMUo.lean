/-
  Contracts: what follows a commit, for any function that is handed; the steps that a commit depends on, of both sides. Conditions: the chain of the commit's mark is of possible edits.
  Contracts: the steps that a commit depends on, of both sides. Conditions: the chain of the commit's mark is of possible edits.
-/
import Derived.Test.YtbiohkncdlhigaaUm
namespace Go.Proofs.Ytbiohkncdlhigaa
open Go Go.RowKit

section
variable {P : Program} {f : FuncId} {n : Nat} {E : Ent} {R : Value → World → Prop} {k : List Item} {Hs : List Snap} {O : List Own} {l : Env}
variable {L : List Oper} {d : Nat} {ty : TypeId} {pos : String} {aft : Array Edge} {os : List Oper} {g : Option (Nat × Bool)}
/-- A call that is handed the last part of what is owned. -/
theorem RW.callM {fx : Operand} {La : List Operand} {ts : Array TypeId} {fid : FuncId} {cap vals : List Value} {H : Snap} {F O1 : List Own} {post : Snap → List Own → Value → Prop} (hf : opv l fx = some (.func (.func fid) #[] cap.toArray)) (ha : opvL l La = some vals) [c : TCall P fid] (hc : Ctr P fid (vals ++ cap).toArray H O1 post) [hH : InH Hs H] (hO : O = F ++ O1) (hg : guardIs L l g = some true) (hd : Nat.blt d n = true)
    (h : ∀ v H' O2, post H' O2 v → H.le H' → RW P f n E R L.toArray os k (H' :: Hs) (F ++ O2) ((d, v) :: l)) : RW P f n E R L.toArray (⟨some d, .call ⟨.value fx, La.toArray, ts⟩, ty, pos, aft, g⟩ :: os) k Hs O l := by
  subst hO
  refine RW.h (HV.callF (cap := cap) hf ha hc List.perm_append_comm) hg hd ?_
  rintro v Hs' O' ⟨H', O2, h1, h2, rfl, rfl⟩
  intro w hm
  exact h v H' O2 h1 h2 w (hm.perm List.perm_append_comm)
end
theorem drop_at {ss : List Stp} {k : Nat} {s : Stp} (hs : ss[k]? = some s) : ss.drop k = s :: ss.drop (k + 1) := by
  obtain ⟨h1, rfl⟩ := List.getElem?_eq_some_iff.1 hs
  rw [List.getElem_cons_drop h1]
theorem fol_skip {a : Int} {k : Nat} {m : Mk} {s : Stp} {B : List Stp} (h : skipS a s) : folL a k m (s :: B) = folL a (k + 1) m B := by rw [folL, if_pos h]
theorem fol_ok {a : Int} {k : Nat} {m : Mk} {s : Stp} {B : List Stp} (h : ¬ skipS a s) (h2 : (carryM m s.e).2 = true) : folL a k m (s :: B) = (k, m, (carryM m s.e).1) :: folL a (k + 1) (wM (carryM m s.e).1) B := by rw [folL, if_neg h, if_pos h2]
theorem fol_no {a : Int} {k : Nat} {m : Mk} {s : Stp} {B : List Stp} (h : ¬ skipS a s) (h2 : (carryM m s.e).2 = false) : folL a k m (s :: B) = [(k, m, (carryM m s.e).1)] := by rw [folL, if_neg h, if_neg (by rw [h2]; simp)]
set_option maxHeartbeats 4000000 in
theorem follow_c {σ : Type} {H : Snap} {vd vs : Value} {ds : List Dc} {ss : List Stp} {i : Nat} {s : Stp} {yf : FuncId} {ycap : List Value} [ty : TCall Try.prog yf] {Y : σ → List Own} {Inv : List Evt → σ → Prop}
    (hd : SliceRep H DocL vd ds) (hv : SliceRep H StepL vs ss) (hs : ss[i]? = some s) (hch : chOK s.app (markS s) (ss.drop (i + 1))) (hsm : smallI s.e.at_) (ht : s.e.tx.length ≤ 100000)
    (hy : ∀ (H' : Snap) (pre : List Evt) (ev : Evt) (st : σ), H.le H' → (∃ post, folL s.app (i + 1) (markS s) (ss.drop (i + 1)) = pre ++ ev :: post) → Inv pre st → Ctr Try.prog yf ([Value.int .i64 (ev.1 : Int), mkV ev.2.1, mkV ev.2.2] ++ ycap).toArray H' (Y st) (fun _ O' r => ∃ st', r = .tuple #[] ∧ Inv (pre ++ [ev]) st' ∧ O' = Y st'))
    (s0 : σ) (h0 : Inv [] s0) :
    Ctr Try.prog 38 #[.agg #[vd, vs], .int .i64 (i : Int), .func (.func yf) #[] ycap.toArray] H (Y s0) (fun _ O' r => ∃ st', r = .tuple #[] ∧ Inv (folL s.app (i + 1) (markS s) (ss.drop (i + 1))) st' ∧ O' = Y st') := by
  have hbd := hv.isSl.bound
  have ho1 := hd.isSl.one1
  have ho2 := hv.isSl.one1
  have hisd := hd.isSl
  have hiss := hv.isSl
  have hi := (List.getElem?_eq_some_iff.1 hs).1
  have hs8 := hv.st hs
  refine Ctr.intro Try.func38 rfl Try.ntmps38 rfl (fun E R hM hR => ?_)
  repeat (first | refine a4 ?_ | refine a6 ?_)
  refine RW.box rfl rfl rfl rfl (fun b3 => ?_)
  repeat (first | refine a1 ?_ | refine a4 ?_ | refine a5 ?_ | refine a6 ?_ | refine s_fieldB ?_ | refine s_loadB ?_ | refine s_index ?_ | refine s_loadHs ?_)
  refine RW.callV rfl (mark_c (H := H) hsm ht) rfl rfl ?_
  rintro _ _ rfl
  refine RW.alloc rfl rfl rfl (fun b6 => ?_)
  repeat (first | refine a1 ?_ | refine a4 ?_ | refine a5 ?_ | refine a6 ?_ | refine s_addI ?_ | refine a9 ?_)
  refine Runs.loop (fun u : Nat × Mk × List Evt × σ => i + 1 ≤ u.1 ∧ u.1 ≤ ss.length ∧ Inv u.2.2.1 u.2.2.2 ∧ folL s.app (i + 1) (markS s) (ss.drop (i + 1)) = u.2.2.1 ++ folL s.app u.1 u.2.1 (ss.drop u.1) ∧ chOK s.app u.2.1 (ss.drop u.1)) (fun u => ss.length - u.1) (fun _ => [H]) (fun u => .blk b6 44 (mkC u.2.1) :: .blk b3 27 [vd, vs] :: Y u.2.2.2) (fun u => [(1, .int .i64 (i : Int)), (2, .func (.func yf) #[] ycap.toArray), (3, .pointer (some ⟨b3, 0, none⟩)), (6, .pointer (some ⟨b6, 0, none⟩)), (7, .int .i64 (u.1 : Int))]) (i + 1, markS s, [], s0) ⟨Nat.le_refl _, by dsimp only; omega, h0, rfl, hch⟩
    (fun h => by refine Runs.weak (h) (by repeat (first | exact trivial | refine And.intro rfl ?_)) (fun x hx => List.mem_cons_of_mem _ (SubH.h x hx)) (by repeat (first | exact List.nil_sublist _ | exact List.Sublist.refl _ | refine List.Sublist.cons_cons _ ?_ | refine List.Sublist.cons _ ?_))) ?_
  rintro ⟨k, m, pre, st⟩ ⟨hk1, hk2, hinv, hfol, hck⟩ ih
  dsimp only at hk1 hk2 hinv hfol hck ih ⊢
  repeat (first | refine a1 ?_ | refine a4 ?_ | refine a5 ?_ | refine a6 ?_ | refine s_fieldB ?_ | refine s_loadB ?_ | refine s_len ?_)
  by_cases hlt : (k : Int) < (ss.length : Int)
  · rw [decide_eq_true hlt]
    obtain ⟨t, htk⟩ : ∃ t, ss[k]? = some t := ⟨_, List.getElem?_eq_getElem (by omega)⟩
    have ht8 := hv.st htk
    rw [drop_at htk] at hfol hck
    repeat (first | refine a1 ?_ | refine a4 ?_ | refine a6 ?_ | refine s_fieldB ?_ | refine s_loadB ?_ | refine s_index ?_ | refine s_loadHs ?_ | refine a7 ?_)
    refine RW.alloc rfl rfl rfl (fun b8 => ?_)
    repeat (first | refine a4 ?_ | refine a5 ?_ | refine a9 ?_)
    refine Runs.regionD _ _ [] (fun x hx => List.mem_cons_of_mem _ hx) (List.Sublist.refl _) (by kernel_rfl) ?_
    refine t_fieldB 0 ?_
    refine t_loadB 1 ?_
    refine t_fieldB 2 ?_
    refine t_loadB 3 ?_
    refine d2 4 ?_
    refine t_index 5 ?_
    refine t_fieldV 6 ?_
    refine t_loadH 7 ?_
    refine d1 8 2 ?_
    by_cases c1 : t.app = s.app
    · rw [decide_eq_false (show ¬ t.app ≠ s.app by simpa using c1)]
      refine t_fieldB 10 ?_
      refine t_loadB 11 ?_
      refine d2 12 ?_
      refine DW.done (by kernel_rfl) ?_
      cases hun : t.un with
      | true =>
        have hsk : skipS s.app t := .inr hun
        repeat (first | refine a1 ?_ | refine a4 ?_ | refine a5 ?_ | refine a6 ?_ | refine s_addI ?_ | refine a7 ?_)
        rw [fol_skip hsk] at hfol
        rw [chOK, if_pos hsk] at hck
        skip
        refine Runs.weak (ih (k + 1, m, pre, st) ⟨by dsimp only; omega, by dsimp only; omega, hinv, hfol, hck⟩ (by dsimp only; omega)) (by repeat (first | exact trivial | refine And.intro rfl ?_)) (fun x hx => List.mem_cons_of_mem _ (SubH.h x hx)) (by repeat (first | exact List.nil_sublist _ | exact List.Sublist.refl _ | refine List.Sublist.cons_cons _ ?_ | refine List.Sublist.cons _ ?_))
      | false =>
        have hnsk : ¬ skipS s.app t := by
          rintro (h | h)
          · exact h c1
          · rw [hun] at h; cases h
        rw [chOK, if_neg hnsk] at hck
        obtain ⟨⟨n, hn1, hn2, hmk, hpo⟩, hck⟩ := hck
        repeat (first | refine a4 ?_ | refine a6 ?_ | refine s_fieldB ?_ | refine s_loadBs ?_ | refine a8 ?_)
        refine RW.q (QV.loadBp (c := edC t.e) rfl (by intro j u hu; rw [← hun]; exact stp_ed j u hu)) rfl rfl ?_
        skip
        refine RW.callV rfl (carry_c (H := H) (m := m) (e := t.e) hmk hpo (by omega)) rfl rfl ?_
        rintro _ _ rfl
        repeat (refine a1 ?_)
        refine RW.alloc rfl rfl rfl (fun b9 => ?_)
        repeat (first | refine a1 ?_ | refine a4 ?_ | refine a5 ?_ | refine a6 ?_ | refine s_loadBs ?_ | refine a9 ?_)
        have hpost : ∃ post, folL s.app (i + 1) (markS s) (ss.drop (i + 1)) = pre ++ (k, m, (carryM m t.e).1) :: post := by
          cases hok : (carryM m t.e).2 with
          | true => exact ⟨_, by rw [hfol, fol_ok hnsk hok]⟩
          | false => exact ⟨_, by rw [hfol, fol_no hnsk hok]⟩
        refine RW.callM (F := [.blk b9 44 (mkC (carryM m t.e).1), .blk b8 33 [.int .i64 t.app, .int .i64 t.id, .int .i64 t.e.k, .int .i64 t.e.at_, .int .i64 t.e.len, .int .i64 t.e.to_, str t.e.tx, .bool false], .blk b6 44 (mkC m), .blk b3 27 [vd, vs]]) rfl rfl (hy H pre (k, m, (carryM m t.e).1) st (Snap.le.refl _) hpost hinv) rfl rfl rfl ?_
        rintro _ H2 _ ⟨st', rfl, hinv', rfl⟩ hle2
        dsimp only [List.cons_append, List.nil_append]
        repeat (first | refine a1 ?_ | refine a4 ?_ | refine a5 ?_ | refine a6 ?_)
        cases hok : (carryM m t.e).2 with
        | true =>
          rw [fol_ok hnsk hok] at hfol
          have hck := hck hok
          repeat (first | refine a1 ?_ | refine a4 ?_ | refine a5 ?_ | refine a6 ?_ | refine s_fieldB ?_ | refine s_loadBs ?_ | refine s_addI ?_ | refine a8 ?_ | refine a9 ?_)
          refine Runs.weak (ih (k + 1, wM (carryM m t.e).1, pre ++ [(k, m, (carryM m t.e).1)], st') ⟨by dsimp only; omega, by dsimp only; omega, hinv', by dsimp only; rw [hfol, List.append_assoc]; rfl, hck⟩ (by dsimp only; omega)) (by repeat (first | exact trivial | refine And.intro rfl ?_)) (fun x hx => List.mem_cons_of_mem _ (SubH.h x hx)) (by repeat (first | exact List.nil_sublist _ | exact List.Sublist.refl _ | refine List.Sublist.cons_cons _ ?_ | refine List.Sublist.cons _ ?_))
        | false =>
          rw [fol_no hnsk hok] at hfol
          repeat (refine a7 ?_)
          refine Runs.weak (Hs' := [H]) (O' := Y st') (l' := []) ?_ trivial (fun x hx => List.mem_cons_of_mem _ (SubH.h x hx)) (by repeat (first | exact List.nil_sublist _ | exact List.Sublist.refl _ | refine List.Sublist.cons_cons _ ?_ | refine List.Sublist.cons _ ?_))
          refine Runs.ret0 Try.func38 Try.results38 (fun w hm => hR _ w _ H _ (List.mem_cons_self ..) (Snap.le.refl _) ?_ hm)
          exact ⟨st', rfl, by rw [hfol]; exact hinv', rfl⟩
    · rw [decide_eq_true (show t.app ≠ s.app from c1)]
      refine d3 10 ?_
      refine d3 11 ?_
      refine d2 12 ?_
      refine DW.done (by kernel_rfl) ?_
      have hsk : skipS s.app t := .inl c1
      repeat (first | refine a1 ?_ | refine a4 ?_ | refine a5 ?_ | refine a6 ?_ | refine s_addI ?_ | refine a7 ?_)
      rw [fol_skip hsk] at hfol
      rw [chOK, if_pos hsk] at hck
      skip
      refine Runs.weak (ih (k + 1, m, pre, st) ⟨by dsimp only; omega, by dsimp only; omega, hinv, hfol, hck⟩ (by dsimp only; omega)) (by repeat (first | exact trivial | refine And.intro rfl ?_)) (fun x hx => List.mem_cons_of_mem _ (SubH.h x hx)) (by repeat (first | exact List.nil_sublist _ | exact List.Sublist.refl _ | refine List.Sublist.cons_cons _ ?_ | refine List.Sublist.cons _ ?_))
  · rw [decide_eq_false hlt]
    have hk3 : ss.drop k = [] := List.drop_eq_nil_of_le (by omega)
    rw [hk3] at hfol
    repeat (first | refine a4 ?_ | refine a8 ?_)
    refine Runs.weak (Hs' := [H]) (O' := Y st) (l' := []) ?_ trivial (fun x hx => List.mem_cons_of_mem _ (SubH.h x hx)) (by repeat (first | exact List.nil_sublist _ | exact List.Sublist.refl _ | refine List.Sublist.cons_cons _ ?_ | refine List.Sublist.cons _ ?_))
    refine Runs.fin0 Try.func38 Try.results38 (fun w hm => hR _ w _ H _ (List.mem_cons_self ..) (Snap.le.refl _) ?_ hm)
    exact ⟨st, rfl, by rw [hfol, folL, List.append_nil]; exact hinv, rfl⟩
end Go.Proofs.Ytbiohkncdlhigaa
namespace Go.Proofs.Ytbiohkncdlhigaa
open Go Go.RowKit

theorem Ctr.mono {P : Program} {f : FuncId} {args : Array Value} {H : Snap} {O : List Own} {post post' : Snap → List Own → Value → Prop} (hc : Ctr P f args H O post) (h : ∀ H' O2 v, H.le H' → post H' O2 v → post' H' O2 v) : Ctr P f args H O post' := fun w hm => (hc w hm).mono (by
  rintro e w' ⟨v, H', O2, rfl, h1, h2, h3⟩
  exact ⟨v, H', O2, rfl, h _ _ _ h2 h1, h2, h3⟩)
theorem encI_snoc (l : List Int) (x : Int) : encI (l ++ [x]) = encI l ++ [.int .i64 x] := by simp [encI]
theorem encI_rep (H : Snap) : ∀ l : List Int, CellsRep H I64 l (encI l)
  | [] => rfl
  | x :: l => ⟨[.int .i64 x], encI l, by simp [encI], rfl, encI_rep H l⟩
theorem encI_of {H : Snap} : ∀ {l : List Int} {cs : List Value}, CellsRep H I64 l cs → cs = encI l
  | [], _, h => h
  | x :: l, cs, ⟨c, r, h1, h2, h3⟩ => by
    have : c = [.int .i64 x] := h2
    rw [h1, this, encI_of h3]
    simp [encI]
theorem dep1_c {H : Snap} {k : Nat} {a b : Mk} {b6 : Nat} {v : Value} {l : List Int} (hl : l.length ≤ 1000) : Ctr Try.prog 39 ([Value.int .i64 (k : Int), mkV b, mkV a] ++ [Value.pointer (some ⟨b6, 0, none⟩)]).toArray H [.blk b6 37 [v], .row 3 1 v l.length (encI l)]
    (fun _ O' r => r = .tuple #[] ∧ ∃ v', O' = [.blk b6 37 [v'], .row 3 1 v' (l ++ badL [(k, b, a)]).length (encI (l ++ badL [(k, b, a)]))]) := by
  show Ctr Try.prog 39 #[.int .i64 (k : Int), mkV b, mkV a, .pointer (some ⟨b6, 0, none⟩)] H [.blk b6 37 [v], .row 3 1 v l.length (encI l)] _
  have hb : badL [(k, b, a)] = if a.wh = true then [] else [(k : Int)] := by rw [badL_cons]; rfl
  rw [hb]
  refine Ctr.intro Try.func39 rfl Try.ntmps39 rfl (fun E R hM hR => ?_)
  refine Runs.rowSl v (fun hsv hov => ?_)
  repeat (first | refine a4 ?_ | refine a6 ?_)
  refine RW.box rfl rfl rfl rfl (fun b9 => ?_)
  refine RW.box rfl rfl rfl rfl (fun b10 => ?_)
  repeat (first | refine a1 ?_ | refine a4 ?_ | refine a5 ?_ | refine a6 ?_ | refine s_fieldB ?_ | refine s_loadB ?_)
  cases hw : a.wh with
  | true =>
    repeat (first | refine a4 ?_ | refine a8 ?_)
    refine Runs.weak (Hs' := [H]) (O' := [.blk b6 37 [v], .row 3 1 v l.length (encI l)]) (l' := []) ?_ trivial (fun x hx => List.mem_cons_of_mem _ (SubH.h x hx)) (by repeat (first | exact List.nil_sublist _ | exact List.Sublist.refl _ | refine List.Sublist.cons_cons _ ?_ | refine List.Sublist.cons _ ?_))
    refine Runs.fin0 Try.func39 Try.results39 (fun w hm => hR _ w _ H _ (List.mem_cons_self ..) (Snap.le.refl _) ?_ hm)
    exact ⟨rfl, v, by rw [hw]; simp⟩
  | false =>
    repeat (first | refine a1 ?_ | refine a6 ?_ | refine s_loadB ?_ | refine a7 ?_)
    refine RW.buildSlice rfl rfl rfl rfl rfl rfl rfl (fun v12 h12 => ?_)
    skip
    refine RW.appendR rfl rfl (by assumption) rfl rfl rfl (by decide) (by omega) (by omega) (fun _ => inferInstance) rfl rfl (fun v13 h13 => ?_)
    have ho13 := h13.one1
    repeat (first | refine a5 ?_ | refine a10 ?_)
    refine Runs.weak (Hs' := [H]) (O' := [.blk b6 37 [v13], .row 3 1 v13 (l.length + 1) (encI l ++ [.int .i64 (k : Int)])]) (l' := []) ?_ trivial (fun x hx => List.mem_cons_of_mem _ (SubH.h x hx)) (by repeat (first | exact List.nil_sublist _ | exact List.Sublist.refl _ | refine List.Sublist.cons_cons _ ?_ | refine List.Sublist.cons _ ?_))
    refine Runs.fin0 Try.func39 Try.results39 (fun w hm => hR _ w _ H _ (List.mem_cons_self ..) (Snap.le.refl _) ?_ hm)
    refine ⟨rfl, v13, ?_⟩
    rw [hw, if_neg (by simp), encI_snoc, List.length_append]
    rfl
/-- What a list of steps depends on; -1 and an error where there is no commit. -/
def depP (ss : List Stp) (i : Int) : List Int × Int :=
  if comB ss i = true then (match ss[i.toNat]? with | some s => depL s.app (i.toNat + 1) (markS s) (ss.drop (i.toNat + 1)) | none => [], 0) else ([], 1)
/-- The chains of all commits are of possible edits. -/
def chP (ss : List Stp) : Prop := ∀ (i : Nat) s, ss[i]? = some s → 0 ≤ s.id → s.un = false → chOK s.app (markS s) (ss.drop (i + 1)) ∧ smallI s.e.at_
theorem comB_some {ss : List Stp} {i : Int} (h : comB ss i = true) : ∃ (k : Nat) (s : Stp), i = (k : Int) ∧ ss[k]? = some s ∧ 0 ≤ s.id ∧ s.un = false := by
  by_cases h0 : 0 ≤ i
  · obtain ⟨k, rfl⟩ : ∃ k : Nat, i = (k : Int) := ⟨i.toNat, by omega⟩
    cases e : ss[k]? with
    | none => rw [comB_big (List.getElem?_eq_none_iff.1 e)] at h; cases h
    | some s =>
      rw [comB_iff e] at h
      simp only [Bool.and_eq_true, decide_eq_true_eq, Bool.not_eq_true'] at h
      exact ⟨k, s, rfl, e, h.1, h.2⟩
  · rw [comB_neg h0] at h; cases h
theorem badL_len : ∀ l : List Evt, (badL l).length ≤ l.length := fun l => by unfold badL; exact List.length_filterMap_le _ _
theorem fol_len {a : Int} : ∀ {B : List Stp} {k : Nat} {m : Mk}, (folL a k m B).length ≤ B.length
  | [], _, _ => Nat.le_refl _
  | s :: B, k, m => by
    rw [folL]
    split
    · have := fol_len (a := a) (B := B) (k := k + 1) (m := m); simp only [List.length_cons]; omega
    · split
      · have := fol_len (a := a) (B := B) (k := k + 1) (m := wM (carryM m s.e).1); simp only [List.length_cons]; omega
      · simp
set_option maxHeartbeats 1000000 in
theorem depends_c {H : Snap} {vd vs : Value} {ds : List Dc} {ss : List Stp} {i : Int} (hd : SliceRep H DocL vd ds) (hv : SliceRep H StepL vs ss) (hsl : ss.length ≤ 900) (hch : chP ss) (ht : ∀ s ∈ ss, s.e.tx.length ≤ 100000) :
    Pure Try.prog 18 #[.agg #[vd, vs], .int .i64 i] H (fun H' r => ∃ v, r = .tuple #[v, .int .i64 (depP ss i).2] ∧ SliceRep H' I64 v (depP ss i).1) := by
  have ho1 := hd.isSl.one1
  have ho2 := hv.isSl.one1
  have hdp : depP ss i = depP ss i := rfl
  conv at hdp => rhs; unfold depP
  refine Pure.intro Try.func18 rfl Try.ntmps18 rfl (fun E R hM hR => ?_)
  repeat (first | refine a4 ?_ | refine a6 ?_)
  refine RW.box rfl rfl rfl rfl (fun b2 => ?_)
  repeat (first | refine a1 ?_ | refine a4 ?_ | refine a5 ?_ | refine a6 ?_ | refine s_loadBs ?_)
  refine RW.callV rfl (undoable_c (H := H) (i := i) hd hv) rfl rfl ?_
  rintro _ _ rfl
  repeat (first | refine a1 ?_ | refine a5 ?_)
  cases hcb : comB ss i with
  | false =>
    rw [hcb, if_neg (by simp)] at hdp
    rw [hdp] at hR
    repeat (first | refine a1 ?_ | refine a4 ?_ | refine a5 ?_ | refine a6 ?_ | refine a7 ?_)
    refine Runs.ret2 Try.func18 Try.results18 rfl rfl (fun w hm => hR _ w _ H _ (List.mem_cons_self ..) (Snap.le.refl _) ?_ hm)
    exact ⟨_, rfl, SliceRep.nil⟩
  | true =>
    rw [hcb, if_pos rfl] at hdp
    obtain ⟨k, s, rfl, hs, hs0, hsu⟩ := comB_some hcb
    rw [Int.toNat_natCast, hs] at hdp
    dsimp only at hdp
    rw [hdp] at hR
    obtain ⟨hc1, hc2⟩ := hch k s hs hs0 hsu
    have hts := ht s (List.mem_of_getElem? hs)
    have hfl := fol_len (a := s.app) (B := ss.drop (k + 1)) (k := k + 1) (m := markS s)
    rw [List.length_drop] at hfl
    repeat (first | refine a4 ?_ | refine a6 ?_ | refine a8 ?_)
    refine RW.alloc rfl rfl rfl (fun b6 => ?_)
    refine RW.nil ?_
    refine Runs.addNil 3 1 ?_
    refine Runs.perm (O' := [.blk b2 27 [vd, vs], .blk b6 37 [.slice none 0 0], .row 3 1 (.slice none 0 0) 0 []]) (List.reverse_perm [Own.blk b2 27 [vd, vs], .blk b6 37 [.slice none 0 0], .row 3 1 (.slice none 0 0) 0 []]) ?_
    repeat (first | refine a1 ?_ | refine a4 ?_ | refine a6 ?_ | refine s_loadBs ?_ | refine s_makeFunc ?_)
    refine RW.callM (cap := []) (F := [.blk b2 27 [vd, vs]]) (O1 := [.blk b6 37 [.slice none 0 0], .row 3 1 (.slice none 0 0) 0 []]) rfl rfl (follow_c (σ := Value × List Int) (Y := fun u => [.blk b6 37 [u.1], .row 3 1 u.1 u.2.length (encI u.2)]) (Inv := fun pre u => u.2 = badL pre) (ycap := [.pointer (some ⟨b6, 0, none⟩)]) hd hv hs hc1 hc2 hts (fun H' pre ev st _ hpost hinv => ?_) (.slice none 0 0, []) rfl) rfl rfl rfl ?_
    · obtain ⟨post, hpost⟩ := hpost
      have hpl : pre.length ≤ 900 := by rw [hpost, List.length_append] at hfl; omega
      have hbl := badL_len pre
      refine Ctr.mono (dep1_c (k := ev.1) (a := ev.2.2) (b := ev.2.1) (b6 := b6) (v := st.1) (l := st.2) (by rw [hinv]; omega)) ?_
      rintro H2 O2 r _ ⟨rfl, v', rfl⟩
      exact ⟨(v', st.2 ++ badL [ev]), rfl, by rw [badL_app, hinv], rfl⟩
    rintro _ H2 _ ⟨⟨v6, l6⟩, rfl, hinv, rfl⟩ hle2
    dsimp only at hinv
    subst hinv
    dsimp only [List.cons_append, List.nil_append]
    refine RW.nil ?_
    refine Runs.rowSl v6 (fun hs6 ho6 => ?_)
    repeat (first | refine a1 ?_ | refine a4 ?_ | refine a5 ?_ | refine a6 ?_ | refine s_loadB ?_)
    refine Runs.freeze (H := H2) v6 hM (fun H3 hle3 hs3 hc3 => ?_)
    refine Runs.ret2 Try.func18 Try.results18 rfl rfl (fun w hm => hR _ w _ H3 _ (by simp) ((hle2.trans hle3)) ?_ hm)
    exact ⟨_, rfl, SliceRep.of_row (H := H3) hs3 rfl (encI_rep H3 _) (Snap.le.refl _) hc3⟩
end Go.Proofs.Ytbiohkncdlhigaa

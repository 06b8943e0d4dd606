/-
  Layouts of steps and pasts; contracts: whether a step can be undone, its mark, places without a piece. Conditions: as each names them.
-/
import Derived.Test.YtbiohkncdlhigaaUd
import Derived.Test.YtbiohkncdlhigaaUk
namespace Go.Proofs.Ytbiohkncdlhigaa
open Go Go.RowKit

abbrev stpC (s : Stp) : List Value := [.int .i64 s.app, .int .i64 s.id, .int .i64 s.e.k, .int .i64 s.e.at_, .int .i64 s.e.len, .int .i64 s.e.to_, str s.e.tx, .bool s.un]
abbrev stpV (s : Stp) : Value := .agg #[.int .i64 s.app, .int .i64 s.id, .int .i64 s.e.k, .int .i64 s.e.at_, .int .i64 s.e.len, .int .i64 s.e.to_, str s.e.tx, .bool s.un]
abbrev StepL : Lay Stp := Lay.flat 8 stpC (fun _ => rfl) (by simp [one1])
def DocL : Lay Dc where
  sz := 2
  rep H d c := ∃ vm, c = [str d.tx, vm] ∧ SliceRep H MarkL vm d.ms
  mono := by rintro H H' x c hle ⟨v, h1, h2⟩; exact ⟨v, h1, h2.mono hle⟩
  len := by rintro H x c ⟨v, rfl, _⟩; rfl
  one := by
    rintro H x c ⟨v, rfl, ⟨⟨A, cap, rfl, _⟩, _⟩⟩ u hu
    simp at hu
    rcases hu with rfl | rfl <;> rfl
def PastR (H : Snap) (v : Value) (p : Pst) : Prop := ∃ vd vs, v = .agg #[vd, vs] ∧ SliceRep H DocL vd p.ds ∧ SliceRep H StepL vs p.ss
theorem PastR.mono {H H' : Snap} {v : Value} {p : Pst} (h : PastR H v p) (hle : H.le H') : PastR H' v p := by
  obtain ⟨vd, vs, h1, h2, h3⟩ := h
  exact ⟨vd, vs, h1, h2.mono hle, h3.mono hle⟩
theorem SliceRep.dc {H : Snap} {v : Value} {ds : List Dc} (h : SliceRep H DocL v ds) {k : Nat} {x : Dc} (hx : ds[k]? = some x) : ∃ vm, SliceRep H MarkL vm x.ms ∧ ∀ j u, [str x.tx, vm][j]? = some u → H.cell (vat v (k * 2 + j)) = some u := by
  obtain ⟨c, ⟨vm, rfl, h1⟩, h2⟩ := h.at hx
  exact ⟨vm, h1, h2⟩
theorem SliceRep.st {H : Snap} {v : Value} {ss : List Stp} (h : SliceRep H StepL v ss) {k : Nat} {x : Stp} (hx : ss[k]? = some x) : ∀ j u, (stpC x)[j]? = some u → H.cell (vat v (k * 8 + j)) = some u := fun j u hu => h.flat hx hu
abbrev edC (e : Ed) : List Value := [.int .i64 e.k, .int .i64 e.at_, .int .i64 e.len, .int .i64 e.to_, str e.tx]
theorem stp_ed {s : Stp} : ∀ (j : Nat) (u : Value), (edC s.e)[j]? = some u → (stpC s)[2 + j]? = some u
  | 0, _, h => h
  | 1, _, h => h
  | 2, _, h => h
  | 3, _, h => h
  | 4, _, h => h
  | _ + 5, _, h => by simp at h
theorem SliceRep.stE {H : Snap} {v : Value} {ss : List Stp} (h : SliceRep H StepL v ss) {k : Nat} {x : Stp} (hx : ss[k]? = some x) : ∀ j u, (edC x.e)[j]? = some u → H.cell (vat v (k * 8 + 2 + j)) = some u := fun j u hu => by
  rw [Nat.add_assoc]
  exact h.flat hx (stp_ed j u hu)
theorem QV.loadBp {P : Program} {E : Ent} {Hs : List Snap} {O : List Own} {l : Env} {T T' : TypeId} {x : Operand} {b o : Nat} {cs c : List Value} [i : TAgg P T true] [s : TSz P T c.length] (hx : opv l x = some (.pointer (some ⟨b, o, none⟩))) [g : GetBlk O b T' cs] (hc : ∀ j u, c[j]? = some u → cs[o + j]? = some u) : QV P E Hs O l (.load T x) (.agg c.toArray) := by
  intro o' ho ρ hρ w hm
  have h1 : (loadVar T ⟨b, o, none⟩).run P w = .ok (.agg c.toArray) w := run_loadVar_agg (fun j u hj => by
    have h2 := hm.cellB (i := g) (hc j u hj)
    rwa [Addr.add_lit])
  simp [execOp, ho, hρ _ _ hx, Instr.loadAt, Instr.sureAddr, h1]
/-- The edit of a step that lies in a block. -/
theorem QV.loadEd {E : Ent} {Hs : List Snap} {O : List Own} {l : Env} {T T' : TypeId} {x : Operand} {b : Nat} {s : Stp} [i : TAgg Try.prog T true] [z : TSz Try.prog T 5] (hx : opv l x = some (.pointer (some ⟨b, 2, none⟩))) [g : GetBlk O b T' (stpC s)] : QV Try.prog E Hs O l (.load T x) (edV s.e) :=
  QV.loadBp (c := edC s.e) (s := z) hx stp_ed
def comB (ss : List Stp) (i : Int) : Bool := decide (0 ≤ i) && (match ss[i.toNat]? with | some s => decide (0 ≤ s.id) && !s.un | none => false)
theorem comB_iff {ss : List Stp} {k : Nat} {s : Stp} (h : ss[k]? = some s) : comB ss (k : Int) = (decide (0 ≤ s.id) && !s.un) := by
  unfold comB
  rw [Int.toNat_natCast, h]
  simp
theorem comB_neg {ss : List Stp} {i : Int} (h : ¬ 0 ≤ i) : comB ss i = false := by unfold comB; rw [decide_eq_false h]; rfl
theorem comB_big {ss : List Stp} {k : Nat} (h : ss.length ≤ k) : comB ss (k : Int) = false := by
  unfold comB
  rw [Int.toNat_natCast, List.getElem?_eq_none h]
  simp
theorem undoable_c {H : Snap} {vd vs : Value} {ds : List Dc} {ss : List Stp} {i : Int} (hd : SliceRep H DocL vd ds) (hv : SliceRep H StepL vs ss) : Pure Try.prog 37 #[.agg #[vd, vs], .int .i64 i] H (fun _ r => r = .bool (comB ss i)) := by
  have hbd := hv.isSl.bound
  have ho1 := hd.isSl.one1
  have ho2 := hv.isSl.one1
  refine Pure.intro Try.func37 rfl Try.ntmps37 rfl (fun E R hM hR => ?_)
  repeat (first | refine a4 ?_ | refine a6 ?_)
  refine RW.box rfl rfl rfl rfl (fun b2 => ?_)
  by_cases h0 : 0 ≤ i
  · obtain ⟨k, rfl⟩ : ∃ k : Nat, i = (k : Int) := ⟨i.toNat, by omega⟩
    by_cases hk : k < ss.length
    · obtain ⟨s, hs⟩ : ∃ s, ss[k]? = some s := ⟨_, List.getElem?_eq_getElem hk⟩
      rw [comB_iff hs] at hR
      repeat (first | refine a1 ?_ | refine a4 ?_ | refine a5 ?_ | refine a6 ?_ | refine s_fieldB ?_ | refine s_loadB ?_ | refine s_len ?_)
      rw [decide_eq_true h0]
      skip
      rw [decide_eq_true (show (k : Int) < ss.length by omega)]
      repeat (first | refine a1 ?_ | refine s_fieldB ?_ | refine s_fieldV ?_ | refine s_loadB ?_ | refine s_loadH ?_ | refine s_index ?_)
      refine RW.dec 23 rfl (fun h1 => ?_) (fun h1 => ?_)
      · rw [decide_eq_true h1] at hR
        repeat (first | refine a1 ?_ | refine a5 ?_ | refine s_fieldB ?_ | refine s_fieldV ?_ | refine s_loadB ?_ | refine s_loadH ?_ | refine s_index ?_)
        refine Runs.ret1 Try.func37 Try.results37 rfl (fun w hm => hR _ w _ H _ (List.mem_cons_self ..) (Snap.le.refl _) ?_ hm)
        simp
      · rw [decide_eq_false h1] at hR
        repeat (first | refine a1 ?_ | refine a3 ?_ | refine a5 ?_)
        refine Runs.ret1 Try.func37 Try.results37 rfl (fun w hm => hR _ w _ H _ (List.mem_cons_self ..) (Snap.le.refl _) ?_ hm)
        simp
    · rw [comB_big (by omega)] at hR
      repeat (first | refine a1 ?_ | refine a4 ?_ | refine a5 ?_ | refine a6 ?_ | refine s_fieldB ?_ | refine s_loadB ?_ | refine s_len ?_)
      rw [decide_eq_true h0]
      skip
      rw [decide_eq_false (show ¬ (k : Int) < ss.length by omega)]
      repeat (first | refine a1 ?_ | refine a3 ?_ | refine a5 ?_)
      refine Runs.ret1 Try.func37 Try.results37 rfl (fun w hm => hR _ w _ H _ (List.mem_cons_self ..) (Snap.le.refl _) ?_ hm)
      rfl
  · rw [comB_neg h0] at hR
    repeat (first | refine a1 ?_ | refine a4 ?_ | refine a5 ?_ | refine a6 ?_)
    rw [decide_eq_false h0]
    repeat (first | refine a1 ?_ | refine a3 ?_ | refine a5 ?_)
    refine Runs.ret1 Try.func37 Try.results37 rfl (fun w hm => hR _ w _ H _ (List.mem_cons_self ..) (Snap.le.refl _) ?_ hm)
    rfl
theorem rcommit_c {H : Snap} {vd vs : Value} {ds : List Dc} {ss : List Stp} {i : Int} (hd : SliceRep H DocL vd ds) (hv : SliceRep H StepL vs ss) : Pure Try.prog 33 #[.agg #[vd, vs], .int .i64 i] H (fun _ r => r = .bool (comB ss i)) := by
  have hbd := hv.isSl.bound
  have ho1 := hd.isSl.one1
  have ho2 := hv.isSl.one1
  refine Pure.intro Try.func33 rfl Try.ntmps33 rfl (fun E R hM hR => ?_)
  repeat (first | refine a4 ?_ | refine a6 ?_)
  refine RW.box rfl rfl rfl rfl (fun b2 => ?_)
  by_cases h0 : 0 ≤ i
  · obtain ⟨k, rfl⟩ : ∃ k : Nat, i = (k : Int) := ⟨i.toNat, by omega⟩
    by_cases hk : k < ss.length
    · obtain ⟨s, hs⟩ : ∃ s, ss[k]? = some s := ⟨_, List.getElem?_eq_getElem hk⟩
      rw [comB_iff hs] at hR
      repeat (first | refine a1 ?_ | refine a4 ?_ | refine a5 ?_ | refine a6 ?_ | refine s_fieldB ?_ | refine s_loadB ?_ | refine s_len ?_)
      rw [decide_eq_true h0]
      skip
      rw [decide_eq_true (show (k : Int) < ss.length by omega)]
      repeat (first | refine a1 ?_ | refine s_fieldB ?_ | refine s_fieldV ?_ | refine s_loadB ?_ | refine s_loadH ?_ | refine s_index ?_)
      refine RW.dec 23 rfl (fun h1 => ?_) (fun h1 => ?_)
      · rw [decide_eq_true h1] at hR
        repeat (first | refine a1 ?_ | refine a5 ?_ | refine s_fieldB ?_ | refine s_fieldV ?_ | refine s_loadB ?_ | refine s_loadH ?_ | refine s_index ?_)
        refine Runs.ret1 Try.func33 Try.results33 rfl (fun w hm => hR _ w _ H _ (List.mem_cons_self ..) (Snap.le.refl _) ?_ hm)
        simp
      · rw [decide_eq_false h1] at hR
        repeat (first | refine a1 ?_ | refine a3 ?_ | refine a5 ?_)
        refine Runs.ret1 Try.func33 Try.results33 rfl (fun w hm => hR _ w _ H _ (List.mem_cons_self ..) (Snap.le.refl _) ?_ hm)
        simp
    · rw [comB_big (by omega)] at hR
      repeat (first | refine a1 ?_ | refine a4 ?_ | refine a5 ?_ | refine a6 ?_ | refine s_fieldB ?_ | refine s_loadB ?_ | refine s_len ?_)
      rw [decide_eq_true h0]
      skip
      rw [decide_eq_false (show ¬ (k : Int) < ss.length by omega)]
      repeat (first | refine a1 ?_ | refine a3 ?_ | refine a5 ?_)
      refine Runs.ret1 Try.func33 Try.results33 rfl (fun w hm => hR _ w _ H _ (List.mem_cons_self ..) (Snap.le.refl _) ?_ hm)
      rfl
  · rw [comB_neg h0] at hR
    repeat (first | refine a1 ?_ | refine a4 ?_ | refine a5 ?_ | refine a6 ?_)
    rw [decide_eq_false h0]
    repeat (first | refine a1 ?_ | refine a3 ?_ | refine a5 ?_)
    refine Runs.ret1 Try.func33 Try.results33 rfl (fun w hm => hR _ w _ H _ (List.mem_cons_self ..) (Snap.le.refl _) ?_ hm)
    rfl
theorem mark_c {H : Snap} {s : Stp} (h : smallI s.e.at_) (ht : s.e.tx.length ≤ 100000) : Pure Try.prog 55 #[stpV s] H (fun _ r => r = mkV (markS s)) := by
  unfold smallI at h
  refine Pure.intro Try.func55 rfl Try.ntmps55 rfl (fun E R hM hR => ?_)
  repeat (first | refine a4 ?_ | refine a6 ?_)
  refine RW.box rfl rfl rfl rfl (fun b1 => ?_)
  refine RW.alloc rfl rfl rfl (fun b2 => ?_)
  repeat (first | refine a4 ?_ | refine a5 ?_ | refine a6 ?_ | refine s_fieldB ?_ | refine s_loadB ?_ | refine s_lenS ?_ | refine s_addI ?_ | refine s_build ?_ | refine a9 ?_)
  refine Runs.retC Try.func55 Try.results55 rfl (fun w hm => hR _ w _ H _ (List.mem_cons_self ..) (Snap.le.refl _) ?_ hm)
  rfl
theorem place_c {H : Snap} {m : Mk} {q : Int} (h1 : smallI m.fr) (h2 : smallI m.to_) (h3 : smallI q) (hm : m.fr ≤ m.to_) : Pure Try.prog 62 #[.int .i64 q, mkV m] H (fun _ r => r = .int .i64 (atP m q)) := by
  unfold smallI at *
  refine Pure.intro Try.func62 rfl Try.ntmps62 rfl (fun E R hM hR => ?_)
  repeat (first | refine a4 ?_ | refine a6 ?_)
  refine RW.box rfl rfl rfl rfl (fun b3 => ?_)
  repeat (first | refine a1 ?_ | refine a4 ?_ | refine a5 ?_ | refine a6 ?_ | refine s_fieldB ?_ | refine s_loadB ?_)
  refine Runs.cond_d rfl (fun h => ?_) (fun h => ?_)
  · repeat (first | refine a1 ?_ | refine a4 ?_ | refine a5 ?_ | refine a6 ?_)
    refine Runs.ret1 Try.func62 Try.results62 rfl (fun w hm => hR _ w _ H _ (List.mem_cons_self ..) (Snap.le.refl _) ?_ hm)
    rw [atP_lo h]
  · repeat (first | refine a1 ?_ | refine a4 ?_ | refine a5 ?_ | refine a6 ?_ | refine s_fieldB ?_ | refine s_loadB ?_ | refine s_subI ?_ | refine s_max ?_)
    refine Runs.ret1 Try.func62 Try.results62 rfl (fun w hm => hR _ w _ H _ (List.mem_cons_self ..) (Snap.le.refl _) ?_ hm)
    unfold atP shutP
    split <;> (try split) <;> (try split) <;> first | rfl | omega | (congr 1; omega)
theorem around1_c {H : Snap} {m : Mk} {q : Int} {b : Nat} (h1 : smallI m.fr) (h2 : smallI m.to_) (h3 : smallI q) (hm : m.fr ≤ m.to_) (hb : ∀ j u, (mkC m)[j]? = some u → H.cell ⟨b, j, none⟩ = some u) :
    Pure Try.prog 69 #[.int .i64 q, .pointer (some ⟨b, 0, none⟩)] H (fun _ r => r = .int .i64 (atP m q)) := by
  unfold smallI at *
  have hb1 : H.cell ⟨b, 0 + 1, none⟩ = some (.int .i64 m.fr) := hb 1 _ rfl
  have hb2 : H.cell ⟨b, 0 + 2, none⟩ = some (.int .i64 m.to_) := hb 2 _ rfl
  refine Pure.intro Try.func69 rfl Try.ntmps69 rfl (fun E R hM hR => ?_)
  repeat (first | refine a1 ?_ | refine a4 ?_ | refine a5 ?_ | refine a6 ?_ | refine s_fieldB ?_ | refine s_loadH ?_ | refine s_min ?_ | refine s_subI ?_ | refine s_max ?_)
  refine Runs.ret1 Try.func69 Try.results69 rfl (fun w hm => hR _ w _ H _ (List.mem_cons_self ..) (Snap.le.refl _) ?_ hm)
  unfold atP shutP
  repeat' split
  all_goals first
    | rfl
    | omega
    | (congr 1; omega)
theorem around_c {H : Snap} {m : Mk} : Pure Try.prog 63 #[mkV m] H (fun H' r => ∃ b, r = .func (.func 69) #[] #[.pointer (some ⟨b, 0, none⟩)] ∧ ∀ j u, (mkC m)[j]? = some u → H'.cell ⟨b, j, none⟩ = some u) := by
  refine Pure.intro Try.func63 rfl Try.ntmps63 rfl (fun E R hM hR => ?_)
  repeat (first | refine a4 ?_ | refine a6 ?_)
  refine RW.box rfl rfl rfl rfl (fun b1 => ?_)
  repeat (first | refine a1 ?_ | refine a4 ?_ | refine a5 ?_ | refine a6 ?_ | refine s_makeFunc ?_)
  refine Runs.freezeBlk (H := H) b1 hM (fun H2 hle2 hb2 => ?_)
  refine Runs.ret1 Try.func63 Try.results63 rfl (fun w hm => hR _ w _ H2 _ (by simp) (hle2) ?_ hm)
  exact ⟨b1, rfl, hb2⟩
end Go.Proofs.Ytbiohkncdlhigaa

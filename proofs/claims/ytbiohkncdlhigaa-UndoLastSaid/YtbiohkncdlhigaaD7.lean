/-
  Contracts: Text and Valid of both sides. Conditions: as each names them.
-/
import Derived.Test.YtbiohkncdlhigaaD6
namespace Go.Proofs.Ytbiohkncdlhigaa
open Go Go.RowKit

def sub (s : List UInt8) (a b : Int) : List UInt8 := (s.take b.toNat).drop a.toNat
/-- What Text answers. -/
def textD (d : Dc) (i : Int) : List UInt8 × Int :=
  match d.ms.find? (fun m => decide (m.id = i)) with
  | some m => (sub d.tx m.fr m.to_, 0)
  | none => ([], 330)
theorem find_at {ms : List Mk} (hs : ms.Pairwise (fun a b => a.id < b.id)) {k : Nat} {m : Mk} (hm : ms[k]? = some m) : ms.find? (fun x => decide (x.id = m.id)) = some m := by
  have : ∃ y, ms.find? (fun x => decide (x.id = m.id)) = some y := by
    cases h : ms.find? (fun x => decide (x.id = m.id)) with
    | none => exact absurd (decide_eq_true rfl) (List.find?_eq_none.1 h m (List.mem_of_getElem? hm))
    | some y => exact ⟨y, rfl⟩
  obtain ⟨y, hy⟩ := this
  rw [hy]
  have hyi : y.id = m.id := by simpa using List.find?_some (p := fun x : Mk => decide (x.id = m.id)) hy
  obtain ⟨j, hj⟩ := List.getElem?_of_mem (List.mem_of_find?_eq_some hy)
  rcases Nat.lt_trichotomy j k with h | h | h
  · have := sorted_at hs hj hm h; omega
  · subst h; rw [hm] at hj; exact hj.symm
  · have := sorted_at hs hm hj h; omega
theorem find_no {ms : List Mk} {i : Int} (h : ¬ hasId ms i) : ms.find? (fun x => decide (x.id = i)) = none := by
  rw [List.find?_eq_none]
  intro x hx he
  exact h ⟨x, hx, of_decide_eq_true he⟩
theorem textD_at {s : List UInt8} {ms : List Mk} (hs : ms.Pairwise (fun a b => a.id < b.id)) {k : Nat} {m : Mk} (hm : ms[k]? = some m) : textD ⟨s, ms⟩ m.id = (sub s m.fr m.to_, 0) := by
  unfold textD
  rw [find_at hs hm]
theorem textD_no {s : List UInt8} {ms : List Mk} {i : Int} (h : ¬ hasId ms i) : textD ⟨s, ms⟩ i = ([], 330) := by
  unfold textD
  rw [find_no h]
theorem cntLt_at {ms : List Mk} (hs : ms.Pairwise (fun a b => a.id < b.id)) {i : Int} (h : hasId ms i) : ∃ m, ms[cntLt ms i]? = some m ∧ m.id = i := by
  obtain ⟨m, hm, hi⟩ := h
  obtain ⟨k, hk⟩ := List.getElem?_of_mem hm
  have hkl := (List.getElem?_eq_some_iff.1 hk).1
  have := (cntLt_eq (ms := ms) (i := i) (k := k) (by omega) (fun j x hj hx => by have := sorted_at hs hx hk hj; omega) (fun x hx => by rw [hk] at hx; rw [← Option.some.inj hx]; omega)).1
  rw [this]
  exact ⟨m, hk, hi⟩

instance (d : Dc) : Decidable (validD d) := inferInstanceAs (Decidable (_ ∧ _ ∧ _ ∧ (∀ m ∈ d.ms, _) ∧ _))
/-- What Valid looks at, mark by mark. -/
def chk (n : Int) : Int → List Mk → Prop
  | _, [] => True
  | lo, m :: L => (lo ≤ m.id ∧ 0 ≤ m.fr ∧ m.fr < m.to_ ∧ m.to_ ≤ n) ∧ chk n (m.id + 1) L
theorem chk_iff {n : Int} : ∀ {ms : List Mk} {lo : Int}, 0 ≤ lo → (chk n lo ms ↔ (∀ m ∈ ms, okM n m ∧ lo ≤ m.id) ∧ ms.Pairwise (fun a b => a.id < b.id))
  | [], lo, _ => by simp [chk]
  | m :: L, lo, h => by
    unfold chk
    constructor
    · rintro ⟨h1, h2⟩
      have h3 := (chk_iff (ms := L) (lo := m.id + 1) (by omega)).1 h2
      refine ⟨fun x hx => ?_, List.pairwise_cons.2 ⟨fun x hx => ?_, h3.2⟩⟩
      · rcases List.mem_cons.1 hx with rfl | hx
        · exact ⟨⟨by omega, h1.2.1, h1.2.2⟩, h1.1⟩
        · have := h3.1 x hx
          exact ⟨this.1, by omega⟩
      · have := (h3.1 x hx).2
        omega
    · rintro ⟨h1, h2⟩
      have h3 := h1 m (List.mem_cons_self ..)
      unfold okM at h3
      refine ⟨⟨h3.2, h3.1.2⟩, (chk_iff (by omega)).2 ⟨fun x hx => ⟨(h1 x (List.mem_cons_of_mem _ hx)).1, ?_⟩, (List.pairwise_cons.1 h2).2⟩⟩
      have := (List.pairwise_cons.1 h2).1 x hx
      omega
theorem validD_iff (d : Dc) : validD d ↔ plainP d.tx ∧ d.tx.length ≤ 400 ∧ d.ms.length ≤ 100 ∧ chk d.tx.length 0 d.ms := by
  rw [chk_iff (Int.le_refl _)]
  unfold validD
  constructor
  · rintro ⟨h1, h2, h3, h4, h5⟩
    exact ⟨h1, h2, h3, fun m hm => ⟨h4 m hm, (h4 m hm).1⟩, h5⟩
  · rintro ⟨h1, h2, h3, h4, h5⟩
    exact ⟨h1, h2, h3, fun m hm => (h4 m hm).1, h5⟩
theorem chk_at {n lo : Int} {ms : List Mk} {k : Nat} {m : Mk} (h : ms[k]? = some m) : chk n lo (ms.drop k) ↔ (lo ≤ m.id ∧ 0 ≤ m.fr ∧ m.fr < m.to_ ∧ m.to_ ≤ n) ∧ chk n (m.id + 1) (ms.drop (k + 1)) := by
  obtain ⟨h1, h2⟩ := List.getElem?_eq_some_iff.1 h
  rw [List.drop_eq_getElem_cons h1, h2]
  rfl

set_option maxHeartbeats 1000000 in
theorem rvalid_c {H : Snap} {s : List UInt8} {vm : Value} {ms : List Mk} (hv : SliceRep H MarkL vm ms) (hl : s.length ≤ 100000) (hml : ms.length ≤ 100000) :
    Pure Try.prog 15 #[.agg #[str s, vm]] H (fun _ r => r = .bool (decide (validD ⟨s, ms⟩))) := by
  have hvs := hv.isSl
  have hba := hv.isSl.bound
  refine Pure.intro Try.func15 rfl Try.ntmps15 rfl (fun E R hM hR => ?_)
  repeat (first | refine a4 ?_ | refine a6 ?_)
  refine RW.box rfl rfl rfl rfl (fun b1 => ?_)
  repeat (first | refine a1 ?_ | refine a4 ?_ | refine a5 ?_ | refine a6 ?_ | refine s_fieldB ?_ | refine s_loadB ?_)
  refine RW.callV rfl (rplain_c (H := H) (lo := 0) (hi := 400) hl) rfl rfl ?_
  rintro _ _ rfl
  repeat (refine a1 ?_)
  by_cases hp : plainP s ∧ 0 ≤ (s.length : Int) ∧ (s.length : Int) ≤ 400
  · rw [decide_eq_true hp]
    repeat (first | refine a1 ?_ | refine a5 ?_ | refine s_fieldB ?_ | refine s_loadB ?_ | refine s_len ?_)
    refine Runs.cond_d rfl (fun h2 => ?_) (fun h2 => ?_)
    · repeat (first | refine a1 ?_ | refine a4 ?_ | refine a5 ?_ | refine a6 ?_)
      refine Runs.ret1 Try.func15 Try.results15 rfl (fun w hm => hR _ w _ H _ (List.mem_cons_self ..) (Snap.le.refl _) ?_ hm)
      rw [decide_eq_false (fun h => by have := h.2.2.1; dsimp only at this; omega)]
    repeat (first | refine a1 ?_ | refine a4 ?_ | refine a5 ?_ | refine a6 ?_)
    refine Runs.loop (fun k : Nat => k ≤ ms.length ∧ ∃ lo, 0 ≤ lo ∧ (k = 0 → lo = 0) ∧ (∀ x, k ≠ 0 → ms[k-1]? = some x → lo = x.id + 1) ∧ (chk s.length 0 ms ↔ chk s.length lo (ms.drop k))) (fun k => ms.length - k) (fun _ => [H]) (fun _ => [.blk b1 36 [str s, vm]])
      (fun k => [(1, .pointer (some ⟨b1, 0, none⟩)), (3, .int .i64 (k : Int))]) 0 ⟨Nat.zero_le _, 0, Int.le_refl _, fun _ => rfl, fun x h => absurd rfl h, by simp⟩ (fun h => by
        refine Runs.weak (h) (by repeat (first | exact trivial | refine And.intro rfl ?_)) (fun x hx => List.mem_cons_of_mem _ (SubH.h x hx)) (by repeat (first | exact List.nil_sublist _ | exact List.Sublist.refl _ | refine List.Sublist.cons_cons _ ?_ | refine List.Sublist.cons _ ?_))) ?_
    rintro k ⟨hk, lo, hlo, hlo2, hlo3, hI⟩ ih
    repeat (first | refine a1 ?_ | refine a4 ?_ | refine a5 ?_ | refine a6 ?_ | refine s_fieldB ?_ | refine s_loadB ?_ | refine s_len ?_)
    refine Runs.cond_d rfl (fun hlt => ?_) (fun hlt => ?_)
    · obtain ⟨m, hmk⟩ : ∃ m, ms[k]? = some m := ⟨_, List.getElem?_eq_getElem (by omega)⟩
      have hm2 := hv.mk hmk
      have hgo : (lo ≤ m.id ∧ 0 ≤ m.fr ∧ m.fr < m.to_ ∧ m.to_ ≤ (s.length : Int)) → k + 1 ≤ ms.length ∧ ∃ lo, 0 ≤ lo ∧ (k + 1 = 0 → lo = 0) ∧ (∀ x, k + 1 ≠ 0 → ms[k + 1 - 1]? = some x → lo = x.id + 1) ∧ (chk s.length 0 ms ↔ chk s.length lo (ms.drop (k + 1))) := fun h => by
        refine ⟨by omega, m.id + 1, by omega, by omega, fun x _ hx => ?_, ?_⟩
        · rw [Nat.add_sub_cancel, hmk] at hx
          rw [← Option.some.inj hx]
        · rw [hI, chk_at hmk]
          exact ⟨fun h => h.2, fun h2 => ⟨h, h2⟩⟩
      repeat (first | refine a1 ?_ | refine a4 ?_ | refine a6 ?_ | refine s_fieldB ?_ | refine s_loadB ?_ | refine s_index ?_ | refine s_loadHs ?_)
      refine RW.alloc rfl rfl rfl (fun b4 => ?_)
      repeat (first | refine a4 ?_ | refine a5 ?_ | refine a9 ?_)
      refine Runs.regionD _ _ [] (fun x hx => List.mem_cons_of_mem _ hx) (List.Sublist.refl _) (by kernel_rfl) ?_
      refine t_fieldB 0 ?_
      refine t_loadB 1 ?_
      refine d1 2 2 ?_
      refine DW.dec 30 rfl (fun q1 => ?_) (fun q1 => ?_)
      · refine d3 4 ?_
        refine d3 5 ?_
        refine d3 6 ?_
        refine d3 7 ?_
        refine d3 8 ?_
        refine d3 9 ?_
        refine d3 10 ?_
        refine d3 11 ?_
        refine d3 12 ?_
        refine d3 13 ?_
        refine d3 14 ?_
        refine d3 15 ?_
        refine d3 16 ?_
        refine d3 17 ?_
        refine d2 18 ?_
        refine d2 19 ?_
        refine d3 20 ?_
        refine d3 21 ?_
        refine d3 22 ?_
        refine d2 23 ?_
        refine d2 24 ?_
        refine d3 25 ?_
        refine d3 26 ?_
        refine d3 27 ?_
        refine d3 28 ?_
        refine d3 29 ?_
        refine d2 30 ?_
        refine d2 31 ?_
        refine d3 32 ?_
        refine d3 33 ?_
        refine d3 34 ?_
        refine d3 35 ?_
        refine d3 36 ?_
        refine d3 37 ?_
        refine d2 38 ?_
        refine DW.done (by kernel_rfl) ?_
        repeat (first | refine a1 ?_ | refine a4 ?_ | refine a5 ?_ | refine a6 ?_ | refine a7 ?_)
        refine Runs.ret1 Try.func15 Try.results15 rfl (fun w hm => hR _ w _ H _ (List.mem_cons_self ..) (Snap.le.refl _) ?_ hm)
        rw [decide_eq_false]
        intro h9
        have h9 := (validD_iff _).1 h9
        dsimp only at h9
        have h8 := (chk_at hmk).1 ((hI).1 h9.2.2.2)
        omega
      refine d1 4 3 ?_
      refine DW.dec 33 rfl (fun b1 => ?_) (fun b1 => ?_)
      · obtain ⟨x, hx⟩ : ∃ x, ms[k-1]? = some x := ⟨_, List.getElem?_eq_getElem (by omega)⟩
        have hx2 := hv.mk hx
        have hlx := hlo3 x (by omega) hx
        have hk1 : (k : Int) - 1 = ((k - 1 : Nat) : Int) := by omega
        refine t_fieldB 7 ?_
        refine t_loadB 8 ?_
        refine t_fieldB 9 ?_
        refine t_loadB 10 ?_
        refine d2 11 ?_
        refine t_subI 12 ?_
        rw [hk1]
        refine t_index 13 ?_
        refine t_fieldV 14 ?_
        refine t_loadH 15 ?_
        refine d2 16 ?_
        refine d1 17 3 ?_
        refine DW.dec 46 rfl (fun b2 => ?_) (fun b2 => ?_)
        · refine d3 20 ?_
          refine d3 21 ?_
          refine d3 22 ?_
          refine d2 23 ?_
          refine d2 24 ?_
          refine d3 25 ?_
          refine d3 26 ?_
          refine d3 27 ?_
          refine d3 28 ?_
          refine d3 29 ?_
          refine d2 30 ?_
          refine d2 31 ?_
          refine d3 32 ?_
          refine d3 33 ?_
          refine d3 34 ?_
          refine d3 35 ?_
          refine d3 36 ?_
          refine d3 37 ?_
          refine d2 38 ?_
          refine DW.done (by kernel_rfl) ?_
          repeat (first | refine a1 ?_ | refine a4 ?_ | refine a5 ?_ | refine a6 ?_ | refine a7 ?_)
          refine Runs.ret1 Try.func15 Try.results15 rfl (fun w hm => hR _ w _ H _ (List.mem_cons_self ..) (Snap.le.refl _) ?_ hm)
          rw [decide_eq_false]
          intro h9
          have h9 := (validD_iff _).1 h9
          dsimp only at h9
          have h8 := (chk_at hmk).1 ((hI).1 h9.2.2.2)
          omega
        refine t_fieldB 20 ?_
        refine t_loadB 21 ?_
        refine d1 22 3 ?_
        refine DW.dec 51 rfl (fun q2 => ?_) (fun q2 => ?_)
        · refine d3 25 ?_
          refine d3 26 ?_
          refine d3 27 ?_
          refine d3 28 ?_
          refine d3 29 ?_
          refine d2 30 ?_
          refine d2 31 ?_
          refine d3 32 ?_
          refine d3 33 ?_
          refine d3 34 ?_
          refine d3 35 ?_
          refine d3 36 ?_
          refine d3 37 ?_
          refine d2 38 ?_
          refine DW.done (by kernel_rfl) ?_
          repeat (first | refine a1 ?_ | refine a4 ?_ | refine a5 ?_ | refine a6 ?_ | refine a7 ?_)
          refine Runs.ret1 Try.func15 Try.results15 rfl (fun w hm => hR _ w _ H _ (List.mem_cons_self ..) (Snap.le.refl _) ?_ hm)
          rw [decide_eq_false]
          intro h9
          have h9 := (validD_iff _).1 h9
          dsimp only at h9
          have h8 := (chk_at hmk).1 ((hI).1 h9.2.2.2)
          omega
        refine t_fieldB 25 ?_
        refine t_loadB 26 ?_
        refine t_fieldB 27 ?_
        refine t_loadB 28 ?_
        refine d1 29 3 ?_
        refine DW.dec 58 rfl (fun q3 => ?_) (fun q3 => ?_)
        · refine d3 32 ?_
          refine d3 33 ?_
          refine d3 34 ?_
          refine d3 35 ?_
          refine d3 36 ?_
          refine d3 37 ?_
          refine d2 38 ?_
          refine DW.done (by kernel_rfl) ?_
          repeat (first | refine a1 ?_ | refine a4 ?_ | refine a5 ?_ | refine a6 ?_ | refine a7 ?_)
          refine Runs.ret1 Try.func15 Try.results15 rfl (fun w hm => hR _ w _ H _ (List.mem_cons_self ..) (Snap.le.refl _) ?_ hm)
          rw [decide_eq_false]
          intro h9
          have h9 := (validD_iff _).1 h9
          dsimp only at h9
          have h8 := (chk_at hmk).1 ((hI).1 h9.2.2.2)
          omega
        refine t_fieldB 32 ?_
        refine t_loadB 33 ?_
        refine t_fieldB 34 ?_
        refine t_loadB 35 ?_
        refine t_lenS 36 ?_
        refine d1 37 2 ?_
        refine DW.done (by kernel_rfl) ?_
        skip
        refine Runs.cond_d rfl (fun q4 => ?_) (fun q4 => ?_)
        · repeat (first | refine a1 ?_ | refine a4 ?_ | refine a5 ?_ | refine a6 ?_)
          refine Runs.ret1 Try.func15 Try.results15 rfl (fun w hm => hR _ w _ H _ (List.mem_cons_self ..) (Snap.le.refl _) ?_ hm)
          rw [decide_eq_false]
          intro h9
          have h9 := (validD_iff _).1 h9
          dsimp only at h9
          have h8 := (chk_at hmk).1 ((hI).1 h9.2.2.2)
          omega
        · repeat (first | refine a1 ?_ | refine a4 ?_ | refine a5 ?_ | refine a6 ?_ | refine s_addI ?_)
          refine Runs.weak (ih (k + 1) (hgo (by omega)) (by omega)) (by repeat (first | exact trivial | refine And.intro rfl ?_)) (fun x hx => List.mem_cons_of_mem _ (SubH.h x hx)) (by repeat (first | exact List.nil_sublist _ | exact List.Sublist.refl _ | refine List.Sublist.cons_cons _ ?_ | refine List.Sublist.cons _ ?_))
      · have hl0 := hlo2 (by omega)
        refine d3 7 ?_
        refine d3 8 ?_
        refine d3 9 ?_
        refine d3 10 ?_
        refine d3 11 ?_
        refine d3 12 ?_
        refine d3 13 ?_
        refine d3 14 ?_
        refine d3 15 ?_
        refine d3 16 ?_
        refine d1 17 3 ?_
        refine t_fieldB 20 ?_
        refine t_loadB 21 ?_
        refine d1 22 3 ?_
        refine DW.dec 51 rfl (fun q2 => ?_) (fun q2 => ?_)
        · refine d3 25 ?_
          refine d3 26 ?_
          refine d3 27 ?_
          refine d3 28 ?_
          refine d3 29 ?_
          refine d2 30 ?_
          refine d2 31 ?_
          refine d3 32 ?_
          refine d3 33 ?_
          refine d3 34 ?_
          refine d3 35 ?_
          refine d3 36 ?_
          refine d3 37 ?_
          refine d2 38 ?_
          refine DW.done (by kernel_rfl) ?_
          repeat (first | refine a1 ?_ | refine a4 ?_ | refine a5 ?_ | refine a6 ?_ | refine a7 ?_)
          refine Runs.ret1 Try.func15 Try.results15 rfl (fun w hm => hR _ w _ H _ (List.mem_cons_self ..) (Snap.le.refl _) ?_ hm)
          rw [decide_eq_false]
          intro h9
          have h9 := (validD_iff _).1 h9
          dsimp only at h9
          have h8 := (chk_at hmk).1 ((hI).1 h9.2.2.2)
          omega
        refine t_fieldB 25 ?_
        refine t_loadB 26 ?_
        refine t_fieldB 27 ?_
        refine t_loadB 28 ?_
        refine d1 29 3 ?_
        refine DW.dec 58 rfl (fun q3 => ?_) (fun q3 => ?_)
        · refine d3 32 ?_
          refine d3 33 ?_
          refine d3 34 ?_
          refine d3 35 ?_
          refine d3 36 ?_
          refine d3 37 ?_
          refine d2 38 ?_
          refine DW.done (by kernel_rfl) ?_
          repeat (first | refine a1 ?_ | refine a4 ?_ | refine a5 ?_ | refine a6 ?_ | refine a7 ?_)
          refine Runs.ret1 Try.func15 Try.results15 rfl (fun w hm => hR _ w _ H _ (List.mem_cons_self ..) (Snap.le.refl _) ?_ hm)
          rw [decide_eq_false]
          intro h9
          have h9 := (validD_iff _).1 h9
          dsimp only at h9
          have h8 := (chk_at hmk).1 ((hI).1 h9.2.2.2)
          omega
        refine t_fieldB 32 ?_
        refine t_loadB 33 ?_
        refine t_fieldB 34 ?_
        refine t_loadB 35 ?_
        refine t_lenS 36 ?_
        refine d1 37 2 ?_
        refine DW.done (by kernel_rfl) ?_
        skip
        refine Runs.cond_d rfl (fun q4 => ?_) (fun q4 => ?_)
        · repeat (first | refine a1 ?_ | refine a4 ?_ | refine a5 ?_ | refine a6 ?_)
          refine Runs.ret1 Try.func15 Try.results15 rfl (fun w hm => hR _ w _ H _ (List.mem_cons_self ..) (Snap.le.refl _) ?_ hm)
          rw [decide_eq_false]
          intro h9
          have h9 := (validD_iff _).1 h9
          dsimp only at h9
          have h8 := (chk_at hmk).1 ((hI).1 h9.2.2.2)
          omega
        · repeat (first | refine a1 ?_ | refine a4 ?_ | refine a5 ?_ | refine a6 ?_ | refine s_addI ?_)
          refine Runs.weak (ih (k + 1) (hgo (by omega)) (by omega)) (by repeat (first | exact trivial | refine And.intro rfl ?_)) (fun x hx => List.mem_cons_of_mem _ (SubH.h x hx)) (by repeat (first | exact List.nil_sublist _ | exact List.Sublist.refl _ | refine List.Sublist.cons_cons _ ?_ | refine List.Sublist.cons _ ?_))
    · repeat (first | refine a1 ?_ | refine a4 ?_ | refine a5 ?_ | refine a6 ?_)
      refine Runs.ret1 Try.func15 Try.results15 rfl (fun w hm => hR _ w _ H _ (List.mem_cons_self ..) (Snap.le.refl _) ?_ hm)
      rw [decide_eq_true]
      refine (validD_iff _).2 ⟨hp.1, by dsimp only; omega, by dsimp only; omega, ?_⟩
      dsimp only
      rw [hI, List.drop_eq_nil_of_le (by omega)]
      trivial
  · rw [decide_eq_false hp]
    repeat (first | refine a1 ?_ | refine a3 ?_ | refine a4 ?_ | refine a5 ?_ | refine a6 ?_ | refine a7 ?_)
    refine Runs.ret1 Try.func15 Try.results15 rfl (fun w hm => hR _ w _ H _ (List.mem_cons_self ..) (Snap.le.refl _) ?_ hm)
    rw [decide_eq_false (fun h => hp ⟨h.1, by omega, by have := h.2.1; dsimp only at this; omega⟩)]
end Go.Proofs.Ytbiohkncdlhigaa

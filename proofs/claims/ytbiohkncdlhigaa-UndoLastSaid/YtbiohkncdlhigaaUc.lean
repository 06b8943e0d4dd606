/-
  The plain side of the layer of undoing: runs of steps, chains of a mark, runs without a commit. Conditions: none.
-/
import Derived.Test.YtbiohkncdlhigaaMDr
namespace Go.Proofs.Ytbiohkncdlhigaa
open Go Go.RowKit

def skipS (a : Int) (s : Stp) : Prop := s.app ≠ a ∨ s.un = true
instance (a : Int) (s : Stp) : Decidable (skipS a s) := inferInstanceAs (Decidable (_ ∨ _))
theorem ins_e {d : Dc} {s : Stp} (h : s.e.k = 1) : applyT d.tx ⟨1, s.e.at_, 0, 0, s.e.tx⟩ = applyT d.tx s.e ∧ carryL d.ms ⟨1, s.e.at_, 0, 0, s.e.tx⟩ = carryL d.ms s.e := by
  refine ⟨by rw [applyT_ins rfl, applyT_ins h], ?_⟩
  unfold carryL
  congr 1
  funext m
  rw [carryM_ins rfl, carryM_ins h]
theorem stD_ok {d : Dc} {s : Stp} (h : (stD d s).2 = 0) : possE s.e d.tx.length ∧ (applyT d.tx s.e).length ≤ 400 ∧ (stD d s).1.tx = applyT d.tx s.e ∧ ((s.id < 0 ∧ (stD d s).1.ms = carryL d.ms s.e) ∨ (0 ≤ s.id ∧ s.e.k = 1 ∧ ¬ hasId d.ms s.id ∧ d.ms.length < 100 ∧ (stD d s).1.ms = insM (markS s) (carryL d.ms s.e))) := by
  unfold stD at *
  by_cases h1 : s.id < 0
  · rw [if_pos h1] at *
    obtain ⟨g1, g2, g3⟩ := doD_ok h
    rw [g3]
    exact ⟨g1, g2, rfl, .inl ⟨h1, rfl⟩⟩
  · rw [if_neg h1] at *
    by_cases h2 : s.e.k ≠ 1
    · rw [if_pos h2] at h; simp at h
    · rw [if_neg h2] at *
      have h2 : s.e.k = 1 := by omega
      obtain ⟨g1, g2, g3, g4, g5, g6⟩ := putD_ok h
      obtain ⟨g7, g8, g9⟩ := doD_ok g4
      obtain ⟨q1, q2⟩ := ins_e (d := d) h2
      rw [g6, g9]
      rw [q1] at g8
      refine ⟨?_, g8, q1, .inr ⟨by omega, h2, g3, g5, by dsimp only; rw [q2]; rfl⟩⟩
      obtain ⟨a1, a2, a3⟩ := g1
      refine ⟨a1, a2, ?_⟩
      rcases a3 with a3 | a3 | a3
      · exact .inl ⟨h2, a3.2⟩
      · simp at a3
      · simp at a3
theorem stD_do {d : Dc} {s : Stp} (h1 : possE s.e d.tx.length) (h2 : (applyT d.tx s.e).length ≤ 400) (h3 : s.id < 0 ∨ (s.e.k = 1 ∧ ¬ hasId d.ms s.id ∧ d.ms.length < 100)) : (stD d s).2 = 0 := by
  unfold stD
  by_cases c : s.id < 0
  · rw [if_pos c]
    unfold doD
    rw [if_pos h1, if_neg (by omega)]
  · obtain ⟨k1, k2, k3⟩ := h3.resolve_left c
    rw [if_neg c, if_neg (by omega)]
    have hp : possE ⟨1, s.e.at_, 0, 0, s.e.tx⟩ d.tx.length := h1.ins k1 h1.1 h1.2.1
    obtain ⟨q1, q2⟩ := ins_e (d := d) k1
    unfold putD
    rw [if_neg (by rintro (h | h | h) <;> first | exact h hp | omega | exact k2 h)]
    have hd : (doD d ⟨1, s.e.at_, 0, 0, s.e.tx⟩).2 = 0 := by
      unfold doD
      rw [if_pos hp, if_neg (by rw [q1]; omega)]
    rw [if_neg (by omega)]
theorem stD_valid {d : Dc} {s : Stp} (hv : validD d) (h : (stD d s).2 = 0) : validD (stD d s).1 := by
  unfold stD at *
  by_cases h1 : s.id < 0
  · rw [if_pos h1] at *; exact doD_valid hv h
  · rw [if_neg h1] at *
    by_cases h2 : s.e.k ≠ 1
    · rw [if_pos h2] at h; simp at h
    · rw [if_neg h2] at *; exact (putD_valid hv h).1
theorem openM_id (m : Mk) (a k : Int) : (openM m a k).id = m.id := by
  unfold openM
  split
  · rfl
  · split <;> rfl
theorem carryM_id {m : Mk} {e : Ed} (h : (carryM m e).2 = true) : (carryM m e).1.id = m.id := by
  unfold carryM at *
  split
  · exact openM_id ..
  · rename_i h1
    rw [if_neg h1] at h
    split
    · rfl
    · rename_i h2
      rw [if_neg h2] at h
      split
      · rfl
      · rename_i h3
        rw [if_neg h3] at h
        split
        · rename_i h4; rw [if_pos h4] at h; cases h
        · split
          · exact openM_id ..
          · rfl
theorem openM_wh {m : Mk} {a k : Int} (h : (openM m a k).wh = true) : m.wh = true := by
  unfold openM at h
  split at h
  · exact h
  · split at h
    · cases h
    · exact h
theorem withoutM_wh {m : Mk} {a k : Int} (h : (withoutM m a k).wh = true) : m.wh = true := by
  unfold withoutM at h
  simp only [Bool.and_eq_true] at h
  exact h.1
theorem carryM_wh {m : Mk} {e : Ed} (h : (carryM m e).1.wh = true) : m.wh = true ∧ (carryM m e).2 = true := by
  unfold carryM at *
  split
  · rename_i h1; rw [if_pos h1] at h; exact ⟨openM_wh h, rfl⟩
  · rename_i h1
    rw [if_neg h1] at h
    split
    · rename_i h2; rw [if_pos h2] at h; exact ⟨h, rfl⟩
    · rename_i h2
      rw [if_neg h2] at h
      split
      · rename_i h3; rw [if_pos h3] at h; exact ⟨h, rfl⟩
      · rename_i h3
        rw [if_neg h3] at h
        split
        · rename_i h4; rw [if_pos h4] at h; cases h
        · rename_i h4
          rw [if_neg h4] at h
          split
          · rename_i h5; rw [if_pos h5] at h; exact ⟨withoutM_wh (openM_wh h), rfl⟩
          · rename_i h5; rw [if_neg h5] at h; exact ⟨withoutM_wh h, rfl⟩
theorem carryL_elem {ms : List Mk} {e : Ed} {x : Mk} (h : x ∈ carryL ms e) : ∃ z ∈ ms, (carryM z e).2 = true ∧ x = (carryM z e).1 ∧ x.id = z.id := by
  obtain ⟨z, hz, he⟩ := List.mem_filterMap.1 h
  split at he
  · rename_i hc
    injection he with he
    exact ⟨z, hz, hc, he.symm, by rw [← he, carryM_id hc]⟩
  · cases he
theorem stD_elem {d : Dc} {s : Stp} (h : (stD d s).2 = 0) {x : Mk} (hx : x ∈ (stD d s).1.ms) : (0 ≤ s.id ∧ x = markS s) ∨ ∃ z ∈ d.ms, (carryM z s.e).2 = true ∧ x = (carryM z s.e).1 ∧ x.id = z.id := by
  obtain ⟨_, _, _, g | g⟩ := stD_ok h
  · rw [g.2] at hx; exact .inr (carryL_elem hx)
  · rw [g.2.2.2.2] at hx
    rcases insM_mem hx with rfl | hx
    · exact .inl ⟨g.1, rfl⟩
    · exact .inr (carryL_elem hx)
theorem insM_self (x : Mk) (ms : List Mk) : x ∈ insM x ms := by unfold insM; simp
theorem insM_old {x y : Mk} {ms : List Mk} (h : y ∈ ms) : y ∈ insM x ms := by
  unfold insM
  rw [← List.takeWhile_append_dropWhile (p := fun m => decide (m.id < x.id)) (l := ms)] at h
  rcases List.mem_append.1 h with h | h
  · exact List.mem_append_left _ h
  · exact List.mem_append_right _ (List.mem_cons_of_mem _ h)
theorem stD_keep {d : Dc} {s : Stp} (h : (stD d s).2 = 0) {m : Mk} (hm : m ∈ d.ms) (hc : (carryM m s.e).2 = true) : (carryM m s.e).1 ∈ (stD d s).1.ms := by
  obtain ⟨_, _, _, g | g⟩ := stD_ok h
  · rw [g.2]; exact carryL_mem hm hc
  · rw [g.2.2.2.2]; exact insM_old (carryL_mem hm hc)
theorem stD_new {d : Dc} {s : Stp} (h : (stD d s).2 = 0) (h0 : 0 ≤ s.id) : markS s ∈ (stD d s).1.ms := by
  obtain ⟨_, _, _, g | g⟩ := stD_ok h
  · omega
  · rw [g.2.2.2.2]; exact insM_self ..
theorem stD_len {d : Dc} {s : Stp} (h : (stD d s).2 = 0) : (stD d s).1.ms.length ≤ d.ms.length + 1 := by
  have := carryL_length d.ms s.e
  obtain ⟨_, _, _, g | g⟩ := stD_ok h
  · rw [g.2]; omega
  · rw [g.2.2.2.2, insM_length]; omega

theorem sorted_uniq {ms : List Mk} (hs : ms.Pairwise (fun a b => a.id < b.id)) {i j : Nat} {a b : Mk} (hi : ms[i]? = some a) (hj : ms[j]? = some b) (h : a.id = b.id) : a = b := by
  have key : ∀ {i j : Nat} {a b : Mk}, ms[i]? = some a → ms[j]? = some b → i < j → a.id < b.id := fun {i j a b} hi hj hlt => by
    obtain ⟨h1, rfl⟩ := List.getElem?_eq_some_iff.1 hi
    obtain ⟨h2, rfl⟩ := List.getElem?_eq_some_iff.1 hj
    exact List.pairwise_iff_getElem.1 hs i j h1 h2 hlt
  rcases Nat.lt_trichotomy i j with c | c | c
  · have := key hi hj c; omega
  · subst c; rw [hi] at hj; exact Option.some.inj hj
  · have := key hj hi c; omega

/-! ### Runs -/
def runS (a : Int) : Dc → List Stp → Option Dc
  | d, [] => some d
  | d, s :: ss => if skipS a s then runS a d ss else if (stD d s).2 = 0 then runS a (stD d s).1 ss else none
theorem runS_skip {a : Int} {d : Dc} {s : Stp} {ss : List Stp} (h : skipS a s) : runS a d (s :: ss) = runS a d ss := by rw [runS, if_pos h]
theorem runS_step {a : Int} {d D : Dc} {s : Stp} {ss : List Stp} (h : ¬ skipS a s) (hr : runS a d (s :: ss) = some D) : (stD d s).2 = 0 ∧ runS a (stD d s).1 ss = some D := by
  rw [runS, if_neg h] at hr
  split at hr
  · rename_i h2; exact ⟨h2, hr⟩
  · cases hr
theorem runS_do {a : Int} {d : Dc} {s : Stp} {ss : List Stp} (h : ¬ skipS a s) (h2 : (stD d s).2 = 0) : runS a d (s :: ss) = runS a (stD d s).1 ss := by rw [runS, if_neg h, if_pos h2]
theorem runS_app {a : Int} : ∀ {x y : List Stp} {d : Dc}, runS a d (x ++ y) = (runS a d x).bind fun d' => runS a d' y
  | [], _, _ => rfl
  | s :: x, y, d => by
    rw [List.cons_append, runS, runS]
    split
    · exact runS_app
    · split
      · exact runS_app
      · rfl
theorem runS_split {a : Int} {x y : List Stp} {d D : Dc} (h : runS a d (x ++ y) = some D) : ∃ d', runS a d x = some d' ∧ runS a d' y = some D := by
  rw [runS_app] at h
  cases e : runS a d x with
  | none => rw [e] at h; cases h
  | some d' => rw [e] at h; exact ⟨d', rfl, h⟩
theorem runS_valid {a : Int} : ∀ {x : List Stp} {d D : Dc}, validD d → runS a d x = some D → validD D
  | [], _, _, hv, h => by rw [runS, Option.some.injEq] at h; rw [← h]; exact hv
  | s :: x, d, D, hv, h => by
    by_cases c : skipS a s
    · rw [runS_skip c] at h; exact runS_valid hv h
    · obtain ⟨h1, h2⟩ := runS_step c h
      exact runS_valid (stD_valid hv h1) h2
theorem runS_len {a : Int} : ∀ {x : List Stp} {d D : Dc}, runS a d x = some D → D.ms.length ≤ d.ms.length + x.length
  | [], _, _, h => by rw [runS, Option.some.injEq] at h; rw [← h]; simp
  | s :: x, d, D, h => by
    by_cases c : skipS a s
    · rw [runS_skip c] at h
      have := runS_len h
      simp only [List.length_cons]; omega
    · obtain ⟨h1, h2⟩ := runS_step c h
      have := runS_len h2
      have := stD_len h1
      simp only [List.length_cons]; omega
/-- The ids of a document are those of its commits. -/
theorem runS_ids {a : Int} : ∀ {x : List Stp} {d D : Dc}, runS a d x = some D → ∀ m ∈ D.ms, hasId d.ms m.id ∨ ∃ s ∈ x, 0 ≤ s.id ∧ s.id = m.id ∧ ¬ skipS a s
  | [], _, _, h, m, hm => by rw [runS, Option.some.injEq] at h; rw [← h] at hm; exact .inl ⟨m, hm, rfl⟩
  | s :: x, d, D, h, m, hm => by
    by_cases c : skipS a s
    · rw [runS_skip c] at h
      rcases runS_ids h m hm with g | ⟨t, ht, g⟩
      · exact .inl g
      · exact .inr ⟨t, List.mem_cons_of_mem _ ht, g⟩
    · obtain ⟨h1, h2⟩ := runS_step c h
      rcases runS_ids h2 m hm with ⟨z, hz, hzi⟩ | ⟨t, ht, g⟩
      · rcases stD_elem h1 hz with ⟨g1, g2⟩ | ⟨y, hy, _, _, g⟩
        · exact .inr ⟨s, List.mem_cons_self .., g1, by rw [← hzi, g2]; rfl, c⟩
        · exact .inl ⟨y, hy, by rw [← g, hzi]⟩
      · exact .inr ⟨t, List.mem_cons_of_mem _ ht, g⟩

/-! ### Chains -/
def endM (a : Int) : Mk → List Stp → Mk
  | m, [] => m
  | m, s :: ss => if skipS a s then endM a m ss else endM a (carryM m s.e).1 ss
def allW (a : Int) : Mk → List Stp → Prop
  | _, [] => True
  | m, s :: ss => if skipS a s then allW a m ss else (carryM m s.e).1.wh = true ∧ allW a (carryM m s.e).1 ss
def movL (a : Int) : Mk → List Stp → List Stp
  | _, [] => []
  | m, s :: ss => if skipS a s then s :: movL a m ss else ⟨s.app, s.id, movE s.e m, s.un⟩ :: movL a (carryM m s.e).1 ss
def idsP (B : List Stp) : Prop := B.Pairwise (fun a b => 0 ≤ a.id → a.id ≠ b.id)
theorem cutT_length {s : List UInt8} {m : Mk} (h : okM s.length m) : ((cutT s m).length : Int) = s.length - (m.to_ - m.fr) := by
  unfold okM at h
  unfold cutT
  rw [delT_length (by omega)]
  omega
theorem movL_length (a : Int) : ∀ (B : List Stp) (m : Mk), (movL a m B).length = B.length
  | [], _ => rfl
  | s :: B, m => by
    rw [movL]
    split
    · rw [List.length_cons, List.length_cons, movL_length]
    · rw [List.length_cons, List.length_cons, movL_length]
/-- The moved steps do what the steps do, but for the piece of the mark. -/
theorem run_moved {a : Int} : ∀ {B : List Stp} {d d0 D : Dc} {m : Mk}, okM d.tx.length m → d.tx.length ≤ 400 → d0.tx = cutT d.tx m → (∀ x ∈ d0.ms, ∀ s ∈ B, 0 ≤ s.id → x.id ≠ s.id) → d0.ms.length + B.length ≤ 100 → idsP B → allW a m B → runS a d B = some D →
    ∃ D0, runS a d0 (movL a m B) = some D0 ∧ D0.tx = cutT D.tx (endM a m B) ∧ okM D.tx.length (endM a m B)
  | [], d, d0, D, m, hm, _, h0, _, _, _, _, h => by
    rw [runS, Option.some.injEq] at h
    subst h
    exact ⟨d0, rfl, h0, hm⟩
  | s :: B, d, d0, D, m, hm, hd, h0, hi, hl, hu, hw, h => by
    have hu' : idsP B := (List.pairwise_cons.1 hu).2
    simp only [List.length_cons] at hl
    by_cases c : skipS a s
    · rw [runS_skip c] at h
      rw [allW, if_pos c] at hw
      rw [movL, if_pos c, runS_skip c, endM, if_pos c]
      exact run_moved hm hd h0 (fun x hx t ht => hi x hx t (List.mem_cons_of_mem _ ht)) (by omega) hu' hw h
    · obtain ⟨h1, h2⟩ := runS_step c h
      rw [allW, if_neg c] at hw
      obtain ⟨hw1, hw2⟩ := hw
      obtain ⟨p1, p2, p3, p4⟩ := stD_ok h1
      obtain ⟨_, hc⟩ := carryM_wh hw1
      have hcl := cls hm p1 hc hw1
      obtain ⟨q1, q2⟩ := cut_apply hm p1 hcl
      have hm' : okM (stD d s).1.tx.length (carryM m s.e).1 := by rw [p3]; exact (carryM_ok hm p1 hc).1
      have hct := cutT_length (s := applyT d.tx s.e) (m := (carryM m s.e).1) (by rw [← p3]; exact hm')
      have hs0 : (stD d0 ⟨s.app, s.id, movE s.e m, s.un⟩).2 = 0 := by
        refine stD_do (by rw [h0]; exact q1) (by dsimp only; rw [h0, q2]; unfold okM at hm'; omega) ?_
        rcases p4 with p4 | p4
        · exact .inl p4.1
        · refine .inr ⟨by dsimp only; rw [movE_k]; exact p4.2.1, ?_, by omega⟩
          rintro ⟨x, hx, hxi⟩
          exact hi x hx s (List.mem_cons_self ..) p4.1 hxi
      have c' : ¬ skipS a ⟨s.app, s.id, movE s.e m, s.un⟩ := c
      have hk := stD_len hs0
      rw [movL, if_neg c, runS_do c' hs0, endM, if_neg c]
      refine run_moved (d := (stD d s).1) hm' (by rw [p3]; exact p2) ?_ ?_ (by omega) hu' hw2 h2
      · rw [(stD_ok hs0).2.2.1, p3]
        dsimp only
        rw [h0, q2]
      · intro x hx t ht h9
        rcases stD_elem hs0 hx with ⟨g1, g2⟩ | ⟨z, hz, _, _, g⟩
        · rw [g2]
          exact (List.pairwise_cons.1 hu).1 t ht g1
        · rw [g]; exact hi z hz t (List.mem_cons_of_mem _ ht) h9
/-- A mark goes along. -/
theorem run_mark {a : Int} : ∀ {B : List Stp} {d D : Dc} {m : Mk}, m ∈ d.ms → allW a m B → runS a d B = some D → endM a m B ∈ D.ms
  | [], d, D, m, hm, _, h => by rw [runS, Option.some.injEq] at h; rw [← h]; exact hm
  | s :: B, d, D, m, hm, hw, h => by
    by_cases c : skipS a s
    · rw [runS_skip c] at h
      rw [allW, if_pos c] at hw
      rw [endM, if_pos c]
      exact run_mark hm hw h
    · obtain ⟨h1, h2⟩ := runS_step c h
      rw [allW, if_neg c] at hw
      rw [endM, if_neg c]
      exact run_mark (stD_keep h1 hm (carryM_wh hw.1).2) hw.2 h2
theorem endM_id {a : Int} : ∀ {B : List Stp} {m : Mk}, allW a m B → (endM a m B).id = m.id ∧ ((endM a m B).wh = m.wh)
  | [], _, _ => ⟨rfl, rfl⟩
  | s :: B, m, hw => by
    by_cases c : skipS a s
    · rw [allW, if_pos c] at hw; rw [endM, if_pos c]; exact endM_id hw
    · rw [allW, if_neg c] at hw
      rw [endM, if_neg c]
      have h1 := carryM_wh hw.1
      have h2 := endM_id hw.2
      exact ⟨h2.1.trans (carryM_id h1.2), by rw [h2.2, hw.1, h1.1]⟩
/-- What is not whole stays so. -/
def NW (d : Dc) (i : Int) : Prop := ∀ x ∈ d.ms, x.id = i → x.wh = false
theorem run_nw {a i : Int} : ∀ {B : List Stp} {d D : Dc}, NW d i → (∀ s ∈ B, 0 ≤ s.id → s.id ≠ i) → runS a d B = some D → NW D i
  | [], d, D, hn, _, h => by rw [runS, Option.some.injEq] at h; rw [← h]; exact hn
  | s :: B, d, D, hn, hi, h => by
    by_cases c : skipS a s
    · rw [runS_skip c] at h
      exact run_nw hn (fun t ht => hi t (List.mem_cons_of_mem _ ht)) h
    · obtain ⟨h1, h2⟩ := runS_step c h
      refine run_nw (fun x hx hxi => ?_) (fun t ht => hi t (List.mem_cons_of_mem _ ht)) h2
      rcases stD_elem h1 hx with ⟨g1, g2⟩ | ⟨z, hz, _, g1, g⟩
      · rw [g2] at hxi
        exact absurd hxi (hi s (List.mem_cons_self ..) g1)
      · have := hn z hz (by rw [← g, hxi])
        cases e : x.wh with
        | false => rfl
        | true => rw [g1] at e; rw [(carryM_wh e).1] at this; cases this
theorem step_nw {d : Dc} {s : Stp} {m : Mk} (hv : validD d) (h : (stD d s).2 = 0) (hm : m ∈ d.ms) (hi : 0 ≤ s.id → s.id ≠ m.id) (hw : (carryM m s.e).1.wh = false) : NW (stD d s).1 m.id := by
  intro x hx hxi
  rcases stD_elem h hx with ⟨g1, g2⟩ | ⟨z, hz, _, g1, g⟩
  · rw [g2] at hxi; exact absurd hxi (hi g1)
  · obtain ⟨i, hi1⟩ := List.getElem?_of_mem hz
    obtain ⟨j, hj⟩ := List.getElem?_of_mem hm
    have := sorted_uniq hv.2.2.2.2 hi1 hj (by rw [← g, hxi])
    rw [g1, this]; exact hw
/-- Two marks that stay whole: leaving out the piece of one, and of both. -/
theorem movL_comm {a : Int} : ∀ {B : List Stp} {d D d1 D1 d2 D2 : Dc} {m n : Mk}, okM d.tx.length m → okM d.tx.length n → disM m n → allW a m B → allW a n B → runS a d B = some D → d1.tx = cutT d.tx m → runS a d1 (movL a m B) = some D1 → d2.tx = cutT d.tx n → runS a d2 (movL a n B) = some D2 →
    allW a (shM m n) (movL a m B) ∧ movL a (shM m n) (movL a m B) = movL a (shM n m) (movL a n B)
  | [], _, _, _, _, _, _, _, _, _, _, _, _, _, _, _, _, _, _ => ⟨trivial, rfl⟩
  | s :: B, d, D, d1, D1, d2, D2, m, n, hm, hn, hd, hw, hx, h, t1, r1, t2, r2 => by
    by_cases c : skipS a s
    · rw [runS_skip c] at h
      rw [allW, if_pos c] at hw hx
      rw [movL, if_pos c, runS_skip c] at r1 r2
      rw [movL, if_pos c, movL, if_pos c, movL, if_pos c, movL, if_pos c, allW, if_pos c]
      obtain ⟨g1, g2⟩ := movL_comm hm hn hd hw hx h t1 r1 t2 r2
      exact ⟨g1, by rw [g2]⟩
    · obtain ⟨h1, h2⟩ := runS_step c h
      rw [allW, if_neg c] at hw hx
      obtain ⟨hw1, hw2⟩ := hw
      obtain ⟨hx1, hx2⟩ := hx
      obtain ⟨p1, p2, p3, p4⟩ := stD_ok h1
      have hcm := (carryM_wh hw1).2
      have hcn := (carryM_wh hx1).2
      have c1 := cls hm p1 hcm hw1
      have c2 := cls hn p1 hcn hx1
      have hm' : okM (stD d s).1.tx.length (carryM m s.e).1 := by rw [p3]; exact (carryM_ok hm p1 hcm).1
      have hn' : okM (stD d s).1.tx.length (carryM n s.e).1 := by rw [p3]; exact (carryM_ok hn p1 hcn).1
      have hd' := dis_cls hm hn p1 hd c1 c2
      obtain ⟨q1, q2⟩ := cut_apply hm p1 c1
      obtain ⟨q3, q4⟩ := cut_apply hn p1 c2
      have k1 := cls_sh hm hn p1 hd c1 c2
      have k2 := cls_sh hn hm p1 hd.symm c2 c1
      have kc := moved_comm hm hn p1 hd c1 c2 q1 q3
      have cm : ¬ skipS a ⟨s.app, s.id, movE s.e m, s.un⟩ := c
      have cn : ¬ skipS a ⟨s.app, s.id, movE s.e n, s.un⟩ := c
      rw [movL, if_neg c] at r1 r2
      obtain ⟨e1, r1⟩ := runS_step cm r1
      obtain ⟨e2, r2⟩ := runS_step cn r2
      have okx : okM (cutT d.tx m).length (shM m n) := by
        have := cutT_length hm
        unfold okM at *
        have := sh_num (by omega) (by omega) hd
        omega
      have oky : okM (cutT d.tx n).length (shM n m) := by
        have := cutT_length hn
        unfold okM at *
        have := sh_num (by omega) (by omega) hd.symm
        omega
      have w1 := k1.carry (by unfold okM at okx; omega)
      have w2 := k2.carry (by unfold okM at oky; omega)
      obtain ⟨g1, g2⟩ := movL_comm (d := (stD d s).1) (d1 := (stD d1 ⟨s.app, s.id, movE s.e m, s.un⟩).1) (d2 := (stD d2 ⟨s.app, s.id, movE s.e n, s.un⟩).1) hm' hn' hd' hw2 hx2 h2 (by rw [(stD_ok e1).2.2.1, p3]; dsimp only; rw [t1, q2]) r1 (by rw [(stD_ok e2).2.2.1, p3]; dsimp only; rw [t2, q4]) r2
      rw [movL, if_neg c, movL, if_neg cm, movL, if_neg c, movL, if_neg cn, allW, if_neg cm]
      dsimp only
      rw [w1, w2]
      dsimp only
      refine ⟨⟨hx1, g1⟩, ?_⟩
      rw [kc, g2]
end Go.Proofs.Ytbiohkncdlhigaa

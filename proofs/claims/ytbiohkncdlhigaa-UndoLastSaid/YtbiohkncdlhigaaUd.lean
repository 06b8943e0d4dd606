/-
  The plain side of the layer of undoing: what follows a commit, pasts that were made step by step, undoing. Conditions: none.
-/
import Derived.Test.YtbiohkncdlhigaaUc
namespace Go.Proofs.Ytbiohkncdlhigaa
open Go Go.RowKit

def ridM (j : Int) (m : Mk) : Mk := ⟨j, m.fr, m.to_, m.wh⟩
def wM (m : Mk) : Mk := ⟨m.id, m.fr, m.to_, true⟩
abbrev Evt := Nat × Mk × Mk
/-- What the function follow visits. -/
def folL (a : Int) : Nat → Mk → List Stp → List Evt
  | _, _, [] => []
  | k, m, s :: B => if skipS a s then folL a (k + 1) m B else (k, m, (carryM m s.e).1) :: (if (carryM m s.e).2 = true then folL a (k + 1) (wM (carryM m s.e).1) B else [])
def badL (l : List Evt) : List Int := l.filterMap fun x => if x.2.2.wh = true then none else some (x.1 : Int)
def depL (a : Int) (k : Nat) (m : Mk) (B : List Stp) : List Int := badL (folL a k m B)
/-- All carries of the chain are of marks in the text, by possible edits. -/
def chOK (a : Int) : Mk → List Stp → Prop
  | _, [] => True
  | m, s :: B => if skipS a s then chOK a m B else (∃ n : Int, 0 ≤ n ∧ n ≤ 400 ∧ okM n m ∧ possE s.e n) ∧ ((carryM m s.e).2 = true → chOK a (wM (carryM m s.e).1) B)
theorem okM_w {n : Int} {m : Mk} (h : okM n m) : okM n (wM m) := h
theorem wM_eq {m : Mk} (h : m.wh = true) : wM m = m := by cases m; dsimp only at h; subst h; rfl
theorem chOK_run {a : Int} : ∀ {B : List Stp} {d D : Dc} {m : Mk}, okM d.tx.length m → d.tx.length ≤ 400 → runS a d B = some D → chOK a m B
  | [], _, _, _, _, _, _ => trivial
  | s :: B, d, D, m, hm, hd, h => by
    by_cases c : skipS a s
    · rw [runS_skip c] at h
      rw [chOK, if_pos c]
      exact chOK_run hm hd h
    · obtain ⟨h1, h2⟩ := runS_step c h
      obtain ⟨p1, p2, p3, _⟩ := stD_ok h1
      rw [chOK, if_neg c]
      refine ⟨⟨_, by omega, by omega, hm, p1⟩, fun hc => chOK_run (d := (stD d s).1) (by rw [p3]; exact okM_w (carryM_ok hm p1 hc).1) (by rw [p3]; exact p2) h2⟩
theorem badL_cons (x : Evt) (l : List Evt) : badL (x :: l) = if x.2.2.wh = true then badL l else (x.1 : Int) :: badL l := by
  unfold badL
  rw [List.filterMap_cons]
  split <;> split <;> simp_all
theorem badL_app (x y : List Evt) : badL (x ++ y) = badL x ++ badL y := by unfold badL; rw [List.filterMap_append]
theorem dep_nil {a : Int} : ∀ {B : List Stp} {k : Nat} {m : Mk}, m.wh = true → (depL a k m B = [] ↔ allW a m B)
  | [], _, _, _ => ⟨fun _ => trivial, fun _ => rfl⟩
  | s :: B, k, m, hw => by
    unfold depL
    by_cases c : skipS a s
    · rw [folL, if_pos c, allW, if_pos c]; exact dep_nil hw
    · rw [folL, if_neg c, allW, if_neg c, badL_cons]
      cases e : (carryM m s.e).1.wh with
      | true =>
        rw [if_pos rfl, if_pos (carryM_wh e).2, wM_eq e]
        exact ⟨fun h => ⟨rfl, (dep_nil e).1 h⟩, fun h => (dep_nil e).2 h.2⟩
      | false => rw [if_neg (by simp)]; simp
theorem dep_first {a : Int} : ∀ {B : List Stp} {k : Nat} {m : Mk}, m.wh = true → ¬ allW a m B → ∃ B1 s B2 rest, B = B1 ++ s :: B2 ∧ allW a m B1 ∧ ¬ skipS a s ∧ (carryM (endM a m B1) s.e).1.wh = false ∧ depL a k m B = ((k + B1.length : Nat) : Int) :: rest
  | [], _, _, _, h => absurd trivial h
  | s :: B, k, m, hw, h => by
    unfold depL
    by_cases c : skipS a s
    · rw [allW, if_pos c] at h
      obtain ⟨B1, t, B2, r, g1, g2, g3, g4, g5⟩ := dep_first (k := k + 1) hw h
      refine ⟨s :: B1, t, B2, r, by rw [g1]; rfl, by rw [allW, if_pos c]; exact g2, g3, by rw [endM, if_pos c]; exact g4, ?_⟩
      rw [folL, if_pos c]
      unfold depL at g5
      rw [g5, List.length_cons]
      congr 2
      omega
    · rw [allW, if_neg c] at h
      cases e : (carryM m s.e).1.wh with
      | true =>
        obtain ⟨B1, t, B2, r, g1, g2, g3, g4, g5⟩ := dep_first (B := B) (k := k + 1) e (fun h2 => h ⟨e, h2⟩)
        refine ⟨s :: B1, t, B2, r, by rw [g1]; rfl, by rw [allW, if_neg c]; exact ⟨e, g2⟩, g3, by rw [endM, if_neg c]; exact g4, ?_⟩
        rw [folL, if_neg c, badL_cons, e, if_pos rfl, if_pos (carryM_wh e).2, wM_eq e]
        unfold depL at g5
        rw [g5, List.length_cons]
        congr 2
        omega
      | false =>
        refine ⟨[], s, B, badL (if (carryM m s.e).2 = true then folL a (k + 1) (wM (carryM m s.e).1) B else []), rfl, trivial, c, e, ?_⟩
        rw [folL, if_neg c, badL_cons, e, if_neg (by simp)]
        rfl
theorem fol_mem {a : Int} : ∀ {B : List Stp} {k : Nat} {m : Mk} {x : Evt}, x ∈ folL a k m B → ∃ j s, B[j]? = some s ∧ x.1 = k + j ∧ ¬ skipS a s
  | [], _, _, _, h => by simp [folL] at h
  | s :: B, k, m, x, h => by
    by_cases c : skipS a s
    · rw [folL, if_pos c] at h
      obtain ⟨j, t, g1, g2, g3⟩ := fol_mem h
      exact ⟨j + 1, t, g1, by omega, g3⟩
    · rw [folL, if_neg c] at h
      rcases List.mem_cons.1 h with rfl | h
      · exact ⟨0, s, rfl, rfl, c⟩
      · split at h
        · obtain ⟨j, t, g1, g2, g3⟩ := fol_mem h
          exact ⟨j + 1, t, g1, by omega, g3⟩
        · simp at h
theorem fol_sorted {a : Int} : ∀ {B : List Stp} {k : Nat} {m : Mk}, (folL a k m B).Pairwise (fun x y => x.1 < y.1)
  | [], _, _ => by simp [folL]
  | s :: B, k, m => by
    by_cases c : skipS a s
    · rw [folL, if_pos c]; exact fol_sorted
    · rw [folL, if_neg c]
      refine List.pairwise_cons.2 ⟨fun y hy => ?_, ?_⟩
      · split at hy
        · obtain ⟨j, t, _, g, _⟩ := fol_mem hy
          show k < y.1
          omega
        · simp at hy
      · split
        · exact fol_sorted
        · exact List.Pairwise.nil
theorem dep_mem {a : Int} {B : List Stp} {k : Nat} {m : Mk} {x : Int} (h : x ∈ depL a k m B) : ∃ j s, B[j]? = some s ∧ x = ((k + j : Nat) : Int) ∧ ¬ skipS a s := by
  obtain ⟨y, hy, he⟩ := List.mem_filterMap.1 h
  obtain ⟨j, s, g1, g2, g3⟩ := fol_mem hy
  split at he
  · cases he
  · injection he with he
    exact ⟨j, s, g1, by rw [← he, g2], g3⟩
theorem dep_sorted {a : Int} {B : List Stp} {k : Nat} {m : Mk} : (depL a k m B).Pairwise (· < ·) := by
  refine List.pairwise_filterMap.2 (List.Pairwise.imp ?_ fol_sorted)
  intro x y hxy u hu v hv
  split at hu
  · cases hu
  · split at hv
    · cases hv
    · injection hu with hu
      injection hv with hv
      omega

/-! ### The mark's Id does not matter -/
theorem openM_rid (j : Int) (m : Mk) (a k : Int) : openM (ridM j m) a k = ridM j (openM m a k) := by
  unfold openM ridM
  dsimp only
  split
  · rfl
  · split <;> rfl
theorem withoutM_rid (j : Int) (m : Mk) (a k : Int) : withoutM (ridM j m) a k = ridM j (withoutM m a k) := rfl
theorem carryM_rid (j : Int) (m : Mk) (e : Ed) : carryM (ridM j m) e = (if (carryM m e).2 = true then ridM j (carryM m e).1 else (carryM m e).1, (carryM m e).2) := by
  unfold carryM
  rw [withoutM_rid, openM_rid]
  show (if e.k = 1 then _ else if e.k = 4 ∨ e.len = 0 then _ else if e.k = 3 ∧ e.at_ ≤ m.fr ∧ m.to_ ≤ e.at_ + e.len then _ else if (withoutM m e.at_ e.len).fr = (withoutM m e.at_ e.len).to_ then _ else _) = _
  split
  · rfl
  · split
    · rfl
    · split
      · rfl
      · split
        · rfl
        · split
          · rw [openM_rid]; rfl
          · rfl
theorem dep_rid {a j : Int} : ∀ {B : List Stp} {k : Nat} {m : Mk}, depL a k (ridM j m) B = depL a k m B
  | [], _, _ => rfl
  | s :: B, k, m => by
    unfold depL
    by_cases c : skipS a s
    · rw [folL, if_pos c, folL, if_pos c]; exact dep_rid
    · rw [folL, if_neg c, folL, if_neg c, badL_cons, badL_cons, carryM_rid]
      dsimp only
      by_cases e : (carryM m s.e).2 = true
      · rw [if_pos e, if_pos e, if_pos e]
        have := dep_rid (a := a) (j := j) (B := B) (k := k + 1) (m := wM (carryM m s.e).1)
        unfold depL at this
        show (if (carryM m s.e).1.wh = true then badL (folL a (k + 1) (ridM j (wM (carryM m s.e).1)) B) else (k : Int) :: badL (folL a (k + 1) (ridM j (wM (carryM m s.e).1)) B)) = _
        rw [this]
      · rw [if_neg e, if_neg e]
theorem movE_rid (j : Int) (m : Mk) (e : Ed) : movE e (ridM j m) = movE e m := by
  unfold movE
  rw [carryM_rid]
  show (if e.k = 1 then _ else (⟨e.k, atP m e.at_, atP m (e.at_ + e.len) - atP m e.at_, if e.k = 3 ∧ (e.len = 0 ∨ m.fr < e.at_ ∨ e.at_ + e.len < m.to_) then _ else _, e.tx⟩ : Ed)) = _
  dsimp only
  split
  · rfl
  · congr 1
    split
    · split <;> rfl
    · rfl
theorem movL_rid {a j : Int} : ∀ {B : List Stp} {m : Mk}, movL a (ridM j m) B = movL a m B
  | [], _ => rfl
  | s :: B, m => by
    by_cases c : skipS a s
    · rw [movL, if_pos c, movL, if_pos c, movL_rid]
    · rw [movL, if_neg c, movL, if_neg c, movE_rid, carryM_rid]
      dsimp only
      split
      · rw [movL_rid]
      · rfl
theorem chOK_rid {a j : Int} (hj : 0 ≤ j) : ∀ {B : List Stp} {m : Mk}, chOK a m B → chOK a (ridM j m) B
  | [], _, _ => trivial
  | s :: B, m, h => by
    by_cases c : skipS a s
    · rw [chOK, if_pos c] at *; exact chOK_rid hj h
    · rw [chOK, if_neg c] at *
      obtain ⟨⟨n, h1, h2, h3, h4⟩, h5⟩ := h
      refine ⟨⟨n, h1, h2, ⟨hj, h3.2⟩, h4⟩, fun hc => ?_⟩
      rw [carryM_rid] at *
      dsimp only at *
      rw [if_pos hc]
      exact chOK_rid hj (h5 hc)

/-! ### Setting the edits that follow -/
def edAt (ss : List Stp) (k : Nat) : Ed := (ss[k]?.map (·.e)).getD ⟨0, 0, 0, 0, []⟩
def setE (ss0 ss : List Stp) (x : Evt) : List Stp := ss.modify x.1 fun t => ⟨t.app, t.id, movE (edAt ss0 x.1) x.2.1, t.un⟩
theorem modify_mid {α : Type} (f : α → α) (X : List α) (s : α) (B : List α) : (X ++ s :: B).modify X.length f = X ++ f s :: B := by
  induction X with
  | nil => rfl
  | cons x X ih => simp only [List.cons_append, List.length_cons, List.modify_succ_cons, ih]
theorem fol_set {a : Int} {ss0 : List Stp} : ∀ {B X : List Stp} {m : Mk}, m.wh = true → allW a m B → (∀ j s, B[j]? = some s → ss0[X.length + j]? = some s) → (folL a X.length m B).foldl (setE ss0) (X ++ B) = X ++ movL a m B
  | [], X, m, _, _, _ => by simp [folL, movL]
  | s :: B, X, m, hm, hw, h0 => by
    have e1 : X ++ s :: B = (X ++ [s]) ++ B := by simp
    have hz := h0 0 s rfl
    by_cases c : skipS a s
    · rw [allW, if_pos c] at hw
      rw [folL, if_pos c, movL, if_pos c]
      have := fol_set (ss0 := ss0) (B := B) (X := X ++ [s]) hm hw (fun j t ht => by have := h0 (j + 1) t ht; rw [← this]; congr 1; simp; omega)
      rw [List.length_append, List.length_singleton] at this
      rw [e1, this]; simp
    · rw [allW, if_neg c] at hw
      rw [folL, if_neg c, movL, if_neg c, if_pos (carryM_wh hw.1).2, wM_eq hw.1, List.foldl_cons]
      have e2 : setE ss0 (X ++ s :: B) (X.length, m, (carryM m s.e).1) = (X ++ [⟨s.app, s.id, movE s.e m, s.un⟩]) ++ B := by
        unfold setE
        rw [modify_mid]
        unfold edAt
        rw [Nat.add_zero] at hz
        simp [hz]
      rw [e2]
      have := fol_set (ss0 := ss0) (B := B) (X := X ++ [⟨s.app, s.id, movE s.e m, s.un⟩]) hw.1 hw.2 (fun j t ht => by have := h0 (j + 1) t ht; rw [← this]; congr 1; simp; omega)
      rw [List.length_append, List.length_singleton] at this
      rw [this]; simp

/-! ### Pasts -/
structure GoodP (p : Pst) : Prop where
  len : p.ds.length ≤ 2
  sz : p.ss.length ≤ 50
  app : ∀ s ∈ p.ss, 0 ≤ s.app ∧ s.app < (p.ds.length : Int)
  ids : ∀ (j : Nat) s, p.ss[j]? = some s → s.id = -1 ∨ s.id = (j : Int)
  tx : ∀ s ∈ p.ss, s.e.tx.length ≤ 40
  run : ∀ a : Nat, a < p.ds.length → ∃ d, p.ds[a]? = some d ∧ runS a ⟨[], []⟩ p.ss = some d
def nilD : Dc := ⟨[], []⟩
theorem nilD_valid : validD nilD := by decide
def undS (ss : List Stp) (i : Nat) (s : Stp) : List Stp := ss.take i ++ ⟨s.app, s.id, s.e, true⟩ :: movL s.app (markS s) (ss.drop (i + 1))
def undP (p : Pst) (i : Nat) (s : Stp) : Pst := ⟨p.ds.set s.app.toNat ((runS s.app nilD (undS p.ss i s)).getD nilD), undS p.ss i s⟩
theorem ssplit {ss : List Stp} {i : Nat} {s : Stp} (hs : ss[i]? = some s) : ss = ss.take i ++ s :: ss.drop (i + 1) := by
  obtain ⟨h1, rfl⟩ := List.getElem?_eq_some_iff.1 hs
  rw [List.getElem_cons_drop h1, List.take_append_drop]
theorem idsP_of {ss : List Stp} (h : ∀ (j : Nat) s, ss[j]? = some s → s.id = -1 ∨ s.id = (j : Int)) : idsP ss := by
  refine List.pairwise_iff_getElem.2 fun i j hi hj hlt h0 => ?_
  have h1 := h i _ (List.getElem?_eq_getElem hi)
  have h2 := h j _ (List.getElem?_eq_getElem hj)
  omega
/-- The bytes of a whole mark go along. -/
theorem run_piece {a : Int} : ∀ {B : List Stp} {d D : Dc} {m : Mk}, okM d.tx.length m → allW a m B → runS a d B = some D → sub d.tx m.fr m.to_ = sub D.tx (endM a m B).fr (endM a m B).to_
  | [], d, D, m, _, _, h => by rw [runS, Option.some.injEq] at h; rw [← h]; rfl
  | s :: B, d, D, m, hm, hw, h => by
    by_cases c : skipS a s
    · rw [runS_skip c] at h
      rw [allW, if_pos c] at hw
      rw [endM, if_pos c]
      exact run_piece hm hw h
    · obtain ⟨h1, h2⟩ := runS_step c h
      rw [allW, if_neg c] at hw
      obtain ⟨p1, p2, p3, _⟩ := stD_ok h1
      have hc := (carryM_wh hw.1).2
      rw [endM, if_neg c, (whole_piece hm p1 hc hw.1).2]
      have := run_piece (d := (stD d s).1) (by rw [p3]; exact (carryM_ok hm p1 hc).1) hw.2 h2
      rw [p3] at this
      exact this
theorem run_other {a b : Int} (hab : a ≠ b) : ∀ {B : List Stp} {m : Mk} {d : Dc}, runS b d (movL a m B) = runS b d B
  | [], _, _ => rfl
  | s :: B, m, d => by
    rw [movL]
    by_cases c : skipS a s
    · rw [if_pos c, runS, runS, run_other hab]
      split
      · rfl
      · split
        · exact run_other hab
        · rfl
    · have h1 : s.app = a := by
        by_cases h : s.app = a
        · exact h
        · exact absurd (Or.inl h) c
      have h2 : s.app ≠ b := by rw [h1]; exact hab
      rw [if_neg c, runS_skip (s := ⟨s.app, s.id, movE s.e m, s.un⟩) (.inl h2), runS_skip (s := s) (.inl h2), run_other hab]
theorem undS_length {ss : List Stp} {i : Nat} {s : Stp} (hs : ss[i]? = some s) : (undS ss i s).length = ss.length := by
  have h1 := (List.getElem?_eq_some_iff.1 hs).1
  unfold undS
  rw [List.length_append, List.length_cons, movL_length, List.length_take, List.length_drop]
  omega
theorem movL_get {a : Int} : ∀ {B : List Stp} {m : Mk} {j : Nat} {t : Stp}, (movL a m B)[j]? = some t → ∃ u, B[j]? = some u ∧ t.app = u.app ∧ t.id = u.id ∧ t.un = u.un ∧ t.e.k = u.e.k ∧ t.e.tx = u.e.tx ∧ (u.app ≠ a ∨ u.un = true → t = u)
  | [], _, _, _, h => by simp [movL] at h
  | s :: B, m, j, t, h => by
    rw [movL] at h
    by_cases c : skipS a s
    · rw [if_pos c] at h
      cases j with
      | zero =>
        simp only [List.getElem?_cons_zero, Option.some.injEq] at h
        subst h
        exact ⟨s, rfl, rfl, rfl, rfl, rfl, rfl, fun _ => rfl⟩
      | succ j => rw [List.getElem?_cons_succ] at h; exact movL_get (B := B) h
    · rw [if_neg c] at h
      cases j with
      | zero =>
        simp only [List.getElem?_cons_zero, Option.some.injEq] at h
        subst h
        exact ⟨s, rfl, rfl, rfl, rfl, movE_k .., movE_tx .., fun h => absurd h c⟩
      | succ j => rw [List.getElem?_cons_succ] at h; exact movL_get (B := B) h
/-- A step of the past behind an undoing, and before. -/
theorem undS_get {ss : List Stp} {i : Nat} {s : Stp} (hs : ss[i]? = some s) {j : Nat} {t : Stp} (h : (undS ss i s)[j]? = some t) : ∃ u, ss[j]? = some u ∧ t.app = u.app ∧ t.id = u.id ∧ t.e.k = u.e.k ∧ t.e.tx = u.e.tx ∧ (j ≠ i → t.un = u.un) ∧ (j = i → t = ⟨s.app, s.id, s.e, true⟩) ∧ (j < i ∨ u.app ≠ s.app ∨ u.un = true → t.e = u.e) := by
  have h1 := (List.getElem?_eq_some_iff.1 hs).1
  have hl : (ss.take i).length = i := by rw [List.length_take]; omega
  unfold undS at h
  by_cases c1 : j < i
  · rw [List.getElem?_append_left (by omega), List.getElem?_take_of_lt c1] at h
    exact ⟨t, h, rfl, rfl, rfl, rfl, fun _ => rfl, fun e => by omega, fun _ => rfl⟩
  · rw [List.getElem?_append_right (by omega), hl] at h
    by_cases c2 : j = i
    · subst c2
      rw [Nat.sub_self, List.getElem?_cons_zero, Option.some.injEq] at h
      subst h
      exact ⟨s, hs, rfl, rfl, rfl, rfl, fun e => absurd rfl e, fun _ => rfl, fun _ => rfl⟩
    · obtain ⟨q, hq⟩ : ∃ q, j - i = q + 1 := ⟨j - i - 1, by omega⟩
      rw [hq, List.getElem?_cons_succ] at h
      obtain ⟨u, g1, g2, g3, g4, g5, g6, g7⟩ := movL_get h
      rw [List.getElem?_drop] at g1
      rw [show i + 1 + q = j by omega] at g1
      exact ⟨u, g1, g2, g3, g5, g6, fun _ => g4, fun e => absurd e c2, fun h => by
        rcases h with h | h
        · omega
        · rw [g7 h]⟩
/-- What undoing a commit does. -/
theorem undo_run {p : Pst} {i : Nat} {s : Stp} (hg : GoodP p) (hs : p.ss[i]? = some s) (h0 : 0 ≤ s.id) (hu : s.un = false) :
    ∃ d1 d2 D, runS s.app nilD (p.ss.take i) = some d1 ∧ (stD d1 s).2 = 0 ∧ d2 = (stD d1 s).1 ∧ validD d2 ∧ markS s ∈ d2.ms ∧ okM d2.tx.length (markS s) ∧ runS s.app d2 (p.ss.drop (i + 1)) = some D ∧ p.ds[s.app.toNat]? = some D ∧ validD D ∧ d1.tx = cutT d2.tx (markS s) ∧ d1.ms.length ≤ i ∧ (∀ x ∈ d1.ms, ∃ t ∈ p.ss.take i, 0 ≤ t.id ∧ t.id = x.id) := by
  have hsm := List.mem_of_getElem? hs
  have ha := hg.app s hsm
  obtain ⟨a, hA⟩ : ∃ a : Nat, s.app = (a : Int) := ⟨s.app.toNat, by omega⟩
  obtain ⟨D, hD1, hD2⟩ := hg.run a (by omega)
  have h1 := ssplit hs
  rw [h1] at hD2
  obtain ⟨d1, r1, r2⟩ := runS_split hD2
  rw [← hA] at r1 r2
  have c : ¬ skipS s.app s := by
    rintro (h | h)
    · exact h rfl
    · rw [hu] at h; cases h
  obtain ⟨q1, q2⟩ := runS_step c r2
  have hv1 := runS_valid nilD_valid r1
  have hv2 := stD_valid hv1 q1
  have hv3 := runS_valid hv2 q2
  obtain ⟨p1, p2, p3, p4⟩ := stD_ok q1
  obtain ⟨p4, p5, _⟩ := p4.resolve_left (by omega)
  have hmem := stD_new q1 h0
  have hn := p1.nums
  refine ⟨d1, _, D, r1, q1, rfl, hv2, hmem, hv2.2.2.2.1 _ hmem, q2, by rw [hA]; exact hD1, hv3, ?_, ?_, ?_⟩
  · rw [p3, applyT_ins p5]
    unfold cutT markS
    dsimp only
    rw [show (s.e.at_ + (s.e.tx.length : Int) - s.e.at_).toNat = s.e.tx.length by omega, del_ins (by omega)]
  · have h8 := runS_len r1
    have h9 := (List.getElem?_eq_some_iff.1 hs).1
    rw [List.length_take] at h8
    simp only [List.length_nil] at h8
    omega
  · intro x hx
    rcases runS_ids r1 x hx with ⟨z, hz, _⟩ | ⟨t, ht, g1, g2, _⟩
    · simp [nilD] at hz
    · exact ⟨t, ht, g1, g2⟩
theorem undo_ok {p : Pst} {i : Nat} {s : Stp} (hg : GoodP p) (hs : p.ss[i]? = some s) (h0 : 0 ≤ s.id) (hu : s.un = false) (hw : allW s.app (markS s) (p.ss.drop (i + 1))) :
    ∃ D D0, p.ds[s.app.toNat]? = some D ∧ validD D ∧ runS s.app nilD (undS p.ss i s) = some D0 ∧ endM s.app (markS s) (p.ss.drop (i + 1)) ∈ D.ms ∧ okM D.tx.length (endM s.app (markS s) (p.ss.drop (i + 1)))
      ∧ D0.tx = cutT D.tx (endM s.app (markS s) (p.ss.drop (i + 1))) ∧ sub D.tx (endM s.app (markS s) (p.ss.drop (i + 1))).fr (endM s.app (markS s) (p.ss.drop (i + 1))).to_ = s.e.tx := by
  obtain ⟨d1, d2, D, r1, q1, e2, hv2, hmem, hok, r2, hD, hvD, hcut, hlen, hid⟩ := undo_run hg hs h0 hu
  have hlt := (List.getElem?_eq_some_iff.1 hs).1
  have hsz := hg.sz
  have hidp := idsP_of hg.ids
  rw [ssplit hs] at hidp
  obtain ⟨_, i2, i3⟩ := List.pairwise_append.1 hidp
  obtain ⟨D0, g1, g2, g3⟩ := run_moved (d0 := d1) hok hv2.2.1 hcut (fun x hx t ht _ => by
      obtain ⟨u, hu1, hu2, hu3⟩ := hid x hx
      rw [← hu3]
      exact i3 u hu1 t (List.mem_cons_of_mem _ ht) hu2) (by rw [List.length_drop]; omega) (List.pairwise_cons.1 i2).2 hw r2
  refine ⟨D, D0, hD, hvD, ?_, run_mark hmem hw r2, g3, g2, ?_⟩
  · unfold undS
    rw [runS_app, r1]
    show runS s.app d1 _ = _
    rw [runS_skip (.inr rfl), g1]
  · rw [← run_piece hok hw r2, e2, (stD_ok q1).2.2.1]
    obtain ⟨p1, p2, p3, p4⟩ := stD_ok q1
    obtain ⟨p4, p5, _⟩ := p4.resolve_left (by omega)
    have hn := p1.nums
    rw [applyT_ins p5]
    unfold markS
    dsimp only
    unfold sub
    rw [show (s.e.at_ + (s.e.tx.length : Int)).toNat = s.e.at_.toNat + s.e.tx.length by omega]
    exact ins_take (by omega)
theorem undP_good {p : Pst} {i : Nat} {s : Stp} (hg : GoodP p) (hs : p.ss[i]? = some s) (h0 : 0 ≤ s.id) (hu : s.un = false) (hw : allW s.app (markS s) (p.ss.drop (i + 1))) : GoodP (undP p i s) := by
  obtain ⟨D, D0, hD, hvD, hr, _⟩ := undo_ok hg hs h0 hu hw
  have ha := hg.app s (List.mem_of_getElem? hs)
  have hlen : (undP p i s).ds.length = p.ds.length := by simp [undP]
  refine ⟨by rw [hlen]; exact hg.len, by show (undS p.ss i s).length ≤ 50; rw [undS_length hs]; exact hg.sz, fun t ht => ?_, fun j t ht => ?_, fun t ht => ?_, fun a haa => ?_⟩
  · obtain ⟨j, hj⟩ := List.getElem?_of_mem ht
    obtain ⟨u, g1, g2, _⟩ := undS_get hs hj
    rw [g2, hlen]; exact hg.app u (List.mem_of_getElem? g1)
  · obtain ⟨u, g1, g2, g3, _⟩ := undS_get hs ht
    rw [g3]; exact hg.ids j u g1
  · obtain ⟨j, hj⟩ := List.getElem?_of_mem ht
    obtain ⟨u, g1, _, _, _, g2, _⟩ := undS_get hs hj
    rw [g2]; exact hg.tx u (List.mem_of_getElem? g1)
  · rw [hlen] at haa
    unfold undP
    rw [hr]
    dsimp only [Option.getD_some]
    by_cases c : s.app = (a : Int)
    · rw [c] at hr ⊢
      refine ⟨D0, ?_, hr⟩
      rw [Int.toNat_natCast, List.getElem?_set_self haa]
    · obtain ⟨d, k1, k2⟩ := hg.run a haa
      refine ⟨d, ?_, ?_⟩
      · rw [List.getElem?_set_ne (by omega)]; exact k1
      · rw [ssplit hs] at k2
        obtain ⟨d', r1, r2⟩ := runS_split k2
        unfold undS
        rw [runS_app, r1]
        show runS a d' _ = _
        rw [runS_skip (s := ⟨s.app, s.id, s.e, true⟩) (.inl c), run_other c]
        rwa [runS_skip (s := s) (.inl c)] at r2
end Go.Proofs.Ytbiohkncdlhigaa

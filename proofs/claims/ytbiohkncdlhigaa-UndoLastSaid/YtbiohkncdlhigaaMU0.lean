/-
  The plain side of the layer of documents: pieces of texts after an edit, marks that stay whole. Conditions: none.
  The plain side of the layer of undoing: steps, pasts, what a whole mark does in an edit, edits as if the piece of a mark were not there. Conditions: none.
-/
import Derived.Test.YtbiohkncdlhigaaMD11
namespace Go.Proofs.Ytbiohkncdlhigaa
open Go Go.RowKit

theorem insT_get {s t : List UInt8} {i : Nat} (hi : i ≤ s.length) (j : Nat) : (insT s i t)[j]? = if j < i then s[j]? else if j < i + t.length then t[j - i]? else s[j - t.length]? := by
  unfold insT
  have hl : (s.take i).length = i := by simp; omega
  by_cases h1 : j < i
  · rw [if_pos h1, List.append_assoc, List.getElem?_append_left (by omega), List.getElem?_take_of_lt h1]
  · rw [if_neg h1]
    by_cases h2 : j < i + t.length
    · rw [if_pos h2, List.append_assoc, List.getElem?_append_right (by omega), hl, List.getElem?_append_left (by omega)]
    · rw [if_neg h2, List.getElem?_append_right (by simp; omega), List.getElem?_drop]
      congr 1
      simp
      omega
theorem delT_get {s : List UInt8} {i n : Nat} (hi : i ≤ s.length) (j : Nat) : (delT s i n)[j]? = if j < i then s[j]? else s[j + n]? := by
  unfold delT
  have hl : (s.take i).length = i := by simp; omega
  by_cases h1 : j < i
  · rw [if_pos h1, List.getElem?_append_left (by omega), List.getElem?_take_of_lt h1]
  · rw [if_neg h1, List.getElem?_append_right (by omega), List.getElem?_drop, hl]
    congr 1
    omega
theorem sub_get (s : List UInt8) (a b j : Nat) : (sub s a b)[j]? = if a + j < b then s[a + j]? else none := by
  unfold sub
  rw [List.getElem?_drop, Int.toNat_natCast, Int.toNat_natCast]
  by_cases h : a + j < b
  · rw [if_pos h, List.getElem?_take_of_lt h]
  · rw [if_neg h, List.getElem?_eq_none (by simp; omega)]
theorem sub_eq {s t : List UInt8} {a b a' b' : Nat} (h : b - a = b' - a') (hg : ∀ j, a + j < b → s[a + j]? = t[a' + j]?) : sub s a b = sub t a' b' := by
  apply List.ext_getElem?
  intro j
  rw [sub_get, sub_get]
  by_cases h1 : a + j < b
  · rw [if_pos h1, if_pos (by omega), hg j h1]
  · rw [if_neg h1, if_neg (by omega)]
theorem carryM_ins {m : Mk} {e : Ed} (h : e.k = 1) : carryM m e = (openM m e.at_ e.tx.length, true) := by unfold carryM; rw [if_pos h]
theorem carryM_not {m : Mk} {e : Ed} (h1 : e.k ≠ 1) (h : e.k = 4 ∨ e.len = 0) : carryM m e = (m, true) := by unfold carryM; rw [if_neg h1, if_pos h]
theorem carryM_in {m : Mk} {e : Ed} (h1 : e.k ≠ 1) (h2 : ¬ (e.k = 4 ∨ e.len = 0)) (h : e.k = 3 ∧ e.at_ ≤ m.fr ∧ m.to_ ≤ e.at_ + e.len) : carryM m e = (⟨m.id, m.fr + e.to_ - e.at_, m.to_ + e.to_ - e.at_, m.wh⟩, true) := by unfold carryM; rw [if_neg h1, if_neg h2, if_pos h]
theorem carryM_out {m : Mk} {e : Ed} (h1 : e.k ≠ 1) (h2 : ¬ (e.k = 4 ∨ e.len = 0)) (h : ¬ (e.k = 3 ∧ e.at_ ≤ m.fr ∧ m.to_ ≤ e.at_ + e.len)) : carryM m e = if (withoutM m e.at_ e.len).fr = (withoutM m e.at_ e.len).to_ then (⟨0, 0, 0, false⟩, false) else if e.k = 3 then (openM (withoutM m e.at_ e.len) e.to_ e.len, true) else (withoutM m e.at_ e.len, true) := by unfold carryM; rw [if_neg h1, if_neg h2, if_neg h]
theorem applyT_ins {s : List UInt8} {e : Ed} (h : e.k = 1) : applyT s e = insT s e.at_.toNat e.tx := by unfold applyT; rw [if_pos h]
theorem applyT_del {s : List UInt8} {e : Ed} (h : e.k = 2) : applyT s e = delT s e.at_.toNat e.len.toNat := by unfold applyT; rw [if_neg (by omega), if_pos h]
theorem applyT_mov {s : List UInt8} {e : Ed} (h : e.k = 3) : applyT s e = insT (delT s e.at_.toNat e.len.toNat) e.to_.toNat ((s.take (e.at_.toNat + e.len.toNat)).drop e.at_.toNat) := by unfold applyT; rw [if_neg (by omega), if_neg (by omega), if_pos h]
theorem applyT_sty {s : List UInt8} {e : Ed} (h : e.k = 4) : applyT s e = s := by unfold applyT; rw [if_neg (by omega), if_neg (by omega), if_neg (by omega)]
theorem openM_lo {m : Mk} {a k : Int} (h : m.to_ ≤ a) : openM m a k = m := by unfold openM; rw [if_pos h]
theorem openM_in {m : Mk} {a k : Int} (h : ¬ m.to_ ≤ a) (h2 : m.fr < a) : openM m a k = ⟨m.id, m.fr, m.to_ + k, false⟩ := by unfold openM; rw [if_neg h, if_pos h2]
theorem openM_hi {m : Mk} {a k : Int} (h : ¬ m.to_ ≤ a) (h2 : ¬ m.fr < a) : openM m a k = ⟨m.id, m.fr + k, m.to_ + k, m.wh⟩ := by unfold openM; rw [if_neg h, if_neg h2]
/-- A mark that stays whole where a piece is taken out lies left or right of it. -/
theorem whole_side {f t a l : Int} (_hf : 0 ≤ f) (hft : f < t) (_ha : 0 ≤ a) (hl : 0 < l) (h : shutP t a l - shutP f a l = t - f) : (t ≤ a ∧ shutP f a l = f ∧ shutP t a l = t) ∨ (a + l ≤ f ∧ shutP f a l = f - l ∧ shutP t a l = t - l) := by
  unfold shutP at *
  by_cases c1 : t ≤ a
  · rw [if_pos c1, if_pos (by omega : f ≤ a)]
    exact .inl ⟨c1, rfl, rfl⟩
  · rw [if_neg c1] at h ⊢
    by_cases c2 : f ≤ a
    · rw [if_pos c2] at h
      split at h <;> omega
    · rw [if_neg c2] at h ⊢
      by_cases c3 : f ≤ a + l
      · rw [if_pos c3] at h ⊢
        split at h
        · omega
        · rename_i c4
          rw [if_neg c4]
          exact .inr ⟨by omega, by omega, rfl⟩
      · rw [if_neg c3] at h ⊢
        rw [if_neg (by omega)]
        exact .inr ⟨by omega, rfl, rfl⟩
/-- Opening keeps a whole mark's bytes. -/
theorem open_piece {m : Mk} {s x : List UInt8} {a : Nat} (h0 : 0 ≤ m.fr) (h1 : m.fr < m.to_) (h2 : m.to_ ≤ s.length) (ha : a ≤ s.length) (hw : (openM m a x.length).wh = true) : m.wh = true ∧ sub s m.fr m.to_ = sub (insT s a x) (openM m a x.length).fr (openM m a x.length).to_ := by
  obtain ⟨mi, mf, mt, mw⟩ := m
  dsimp only at h0 h1 h2
  obtain ⟨f, rfl⟩ : ∃ f : Nat, mf = (f : Int) := ⟨mf.toNat, by omega⟩
  obtain ⟨t, rfl⟩ : ∃ t : Nat, mt = (t : Int) := ⟨mt.toNat, by omega⟩
  by_cases c1 : (t : Int) ≤ a
  · rw [openM_lo c1] at hw ⊢
    refine ⟨hw, sub_eq rfl fun j hj => ?_⟩
    rw [insT_get ha, if_pos (by omega)]
  · by_cases c2 : (f : Int) < a
    · rw [openM_in c1 c2] at hw; simp at hw
    · rw [openM_hi c1 c2] at hw ⊢
      refine ⟨hw, ?_⟩
      dsimp only
      rw [show (f : Int) + x.length = ((f + x.length : Nat) : Int) by omega, show (t : Int) + x.length = ((t + x.length : Nat) : Int) by omega]
      refine sub_eq (by omega) fun j hj => ?_
      rw [insT_get ha, if_neg (by omega), if_neg (by omega)]
      congr 1
      omega
/-- Taking a piece out keeps a whole mark's bytes. -/
theorem without_piece {m : Mk} {s : List UInt8} {a l : Nat} (h0 : 0 ≤ m.fr) (h1 : m.fr < m.to_) (h2 : m.to_ ≤ s.length) (hl : 0 < l) (ha : a + l ≤ s.length) (hw : (withoutM m a l).wh = true) : m.wh = true ∧ sub s m.fr m.to_ = sub (delT s a l) (withoutM m a l).fr (withoutM m a l).to_ := by
  obtain ⟨mi, mf, mt, mw⟩ := m
  dsimp only at h0 h1 h2
  obtain ⟨f, rfl⟩ : ∃ f : Nat, mf = (f : Int) := ⟨mf.toNat, by omega⟩
  obtain ⟨t, rfl⟩ : ∃ t : Nat, mt = (t : Int) := ⟨mt.toNat, by omega⟩
  unfold withoutM at hw ⊢
  simp only [Bool.and_eq_true, decide_eq_true_eq] at hw
  refine ⟨hw.1, ?_⟩
  dsimp only
  rcases whole_side (by omega) (by omega) (by omega) (by omega) hw.2 with ⟨g, e1, e2⟩ | ⟨g, e1, e2⟩
  · rw [e1, e2]
    refine sub_eq rfl fun j hj => ?_
    rw [delT_get (by omega), if_pos (by omega)]
  · rw [e1, e2, show (f : Int) - l = ((f - l : Nat) : Int) by omega, show (t : Int) - l = ((t - l : Nat) : Int) by omega]
    refine sub_eq (by omega) fun j hj => ?_
    rw [delT_get (by omega), if_neg (by omega)]
    congr 1
    omega
theorem delT_zero (s : List UInt8) (a : Nat) : delT s a 0 = s := by simp [delT]
theorem insT_nil (s : List UInt8) (a : Nat) : insT s a [] = s := by simp [insT]
theorem piece_nil (s : List UInt8) (a : Nat) : (s.take (a + 0)).drop a = [] := by simp
theorem piece_len {s : List UInt8} {a l : Nat} (h : a + l ≤ s.length) : ((s.take (a + l)).drop a).length = l := by simp; omega
theorem whole_piece {m : Mk} {e : Ed} {s : List UInt8} (hm : okM s.length m) (h : possE e s.length) (hc : (carryM m e).2 = true) (hw : (carryM m e).1.wh = true) : m.wh = true ∧ sub s m.fr m.to_ = sub (applyT s e) (carryM m e).1.fr (carryM m e).1.to_ := by
  have hn := h.nums
  obtain ⟨ek, ea, el, et, ex⟩ := e
  unfold okM at hm
  dsimp only at hn
  obtain ⟨a, rfl⟩ : ∃ a : Nat, ea = (a : Int) := ⟨ea.toNat, by omega⟩
  by_cases h1 : ek = 1
  · subst h1
    rw [carryM_ins rfl] at hw ⊢
    rw [applyT_ins rfl]
    dsimp only at hw ⊢
    rw [Int.toNat_natCast]
    exact open_piece hm.2.1 hm.2.2.1 hm.2.2.2 (by omega) hw
  · obtain ⟨l, rfl⟩ : ∃ l : Nat, el = (l : Int) := ⟨el.toNat, by omega⟩
    by_cases h2 : ek = 4 ∨ (l : Int) = 0
    · have ha : applyT s ⟨ek, a, l, et, ex⟩ = s := by
        by_cases h4 : ek = 4
        · exact applyT_sty h4
        · have hl : l = 0 := by omega
          subst hl
          by_cases h5 : ek = 2
          · rw [applyT_del h5]; dsimp only; rw [Int.toNat_natCast, Int.toNat_natCast, delT_zero]
          · rw [applyT_mov (by dsimp only; omega)]; dsimp only; rw [Int.toNat_natCast, Int.toNat_natCast, delT_zero, piece_nil, insT_nil]
      rw [ha]
      rw [carryM_not h1 h2] at hw ⊢
      exact ⟨hw, rfl⟩
    · by_cases h3 : ek = 3 ∧ (a : Int) ≤ m.fr ∧ m.to_ ≤ a + l
      · rw [carryM_in h1 h2 h3] at hw ⊢
        rw [applyT_mov h3.1]
        refine ⟨hw, ?_⟩
        dsimp only at hw ⊢
        obtain ⟨mi, mf, mt, mw⟩ := m
        dsimp only at *
        obtain ⟨f, rfl⟩ : ∃ f : Nat, mf = (f : Int) := ⟨mf.toNat, by omega⟩
        obtain ⟨t, rfl⟩ : ∃ t : Nat, mt = (t : Int) := ⟨mt.toNat, by omega⟩
        obtain ⟨q, rfl⟩ : ∃ q : Nat, et = (q : Int) := ⟨et.toNat, by omega⟩
        rw [Int.toNat_natCast, Int.toNat_natCast, Int.toNat_natCast]
        have hl := delT_length (s := s) (i := a) (n := l) (by omega)
        have hd := piece_len (s := s) (a := a) (l := l) (by omega)
        rw [show (f : Int) + q - a = ((f + q - a : Nat) : Int) by omega, show (t : Int) + q - a = ((t + q - a : Nat) : Int) by omega]
        refine sub_eq (by omega) fun j hj => ?_
        rw [insT_get (by omega), hd, if_neg (by omega), if_pos (by omega), List.getElem?_drop, List.getElem?_take_of_lt (by omega)]
        congr 1
        omega
      · rw [carryM_out h1 h2 h3] at hc hw ⊢
        dsimp only at hc hw ⊢
        have hl0 : 0 < l := by omega
        by_cases h4 : (withoutM m a l).fr = (withoutM m a l).to_
        · rw [if_pos h4] at hc; simp at hc
        rw [if_neg h4] at hw ⊢
        have b1 := shutP_bound (p := m.fr) (a := a) (n := l) (by omega) (by omega) (by omega)
        have b2 := shutP_mono (p := m.fr) (q := m.to_) (a := a) (n := l) (by omega) (by omega)
        have b3 := shutP_le (p := m.to_) (a := a) (n := l) (N := s.length) (by omega) (by omega) (by omega)
        have e1 : (withoutM m a l).fr = shutP m.fr a l := rfl
        have e2 : (withoutM m a l).to_ = shutP m.to_ a l := rfl
        have hwp := without_piece (m := m) (s := s) (a := a) (l := l) (by omega) (by omega) (by omega) hl0 (by omega)
        have hdl := delT_length (s := s) (i := a) (n := l) (by omega)
        by_cases h5 : ek = 3
        · rw [if_pos h5] at hw ⊢
          rw [applyT_mov h5]
          dsimp only at hw ⊢
          obtain ⟨q, rfl⟩ : ∃ q : Nat, et = (q : Int) := ⟨et.toNat, by omega⟩
          rw [Int.toNat_natCast, Int.toNat_natCast, Int.toNat_natCast]
          have hd := piece_len (s := s) (a := a) (l := l) (by omega)
          have hop := open_piece (m := withoutM m a l) (s := delT s a l) (x := (s.take (a + l)).drop a) (a := q) (by omega) (by omega) (by omega) (by omega)
          rw [hd] at hop
          obtain ⟨g1, g2⟩ := hop hw
          obtain ⟨g3, g4⟩ := hwp g1
          exact ⟨g3, by rw [g4, g2]⟩
        · rw [if_neg h5] at hw ⊢
          rw [applyT_del (by dsimp only; omega)]
          dsimp only at hw ⊢
          rw [Int.toNat_natCast, Int.toNat_natCast]
          exact hwp hw
end Go.Proofs.Ytbiohkncdlhigaa
namespace Go.Proofs.Ytbiohkncdlhigaa
open Go Go.RowKit

structure Stp where
  app : Int
  id : Int
  e : Ed
  un : Bool
  deriving DecidableEq
structure Pst where
  ds : List Dc
  ss : List Stp
  deriving DecidableEq
def stD (d : Dc) (s : Stp) : Dc × Int := if s.id < 0 then doD d s.e else if s.e.k ≠ 1 then (⟨[], []⟩, 290) else putD d s.id s.e.at_ s.e.tx
def markS (s : Stp) : Mk := ⟨s.id, s.e.at_, s.e.at_ + s.e.tx.length, true⟩
/-- Places as if the piece of a mark were not there. -/
def atP (m : Mk) (q : Int) : Int := shutP q m.fr (m.to_ - m.fr)
def movE (e : Ed) (m : Mk) : Ed :=
  if e.k = 1 then ⟨e.k, atP m e.at_, e.len, e.to_, e.tx⟩
  else ⟨e.k, atP m e.at_, atP m (e.at_ + e.len) - atP m e.at_, if e.k = 3 ∧ (e.len = 0 ∨ m.fr < e.at_ ∨ e.at_ + e.len < m.to_) then atP (carryM m ⟨2, e.at_, e.len, 0, []⟩).1 e.to_ else e.to_, e.tx⟩
/-- A mark in a text without the piece of another one. -/
def shM (m n : Mk) : Mk := ⟨n.id, atP m n.fr, atP m n.to_, n.wh⟩
def disM (m n : Mk) : Prop := m.to_ ≤ n.fr ∨ n.to_ ≤ m.fr
def cutT (s : List UInt8) (m : Mk) : List UInt8 := delT s m.fr.toNat (m.to_ - m.fr).toNat

/-! ### Texts -/
theorem cut_ins {s x : List UInt8} {f k a a' f' : Nat} (hf : f + k ≤ s.length) (ha : a ≤ s.length) (h : (f + k ≤ a ∧ a' = a - k ∧ f' = f) ∨ (a ≤ f ∧ a' = a ∧ f' = f + x.length)) : insT (delT s f k) a' x = delT (insT s a x) f' k := by
  have l1 := delT_length (s := s) (i := f) (n := k) hf
  have l2 := insT_length (s := s) (t := x) ha
  have g1 := fun j => delT_get (s := s) (i := f) (n := k) (by omega) j
  have g2 := fun j => insT_get (s := delT s f k) (t := x) (i := a') (by omega) j
  have g3 := fun j => insT_get (s := s) (t := x) (i := a) ha j
  have g4 := fun j => delT_get (s := insT s a x) (i := f') (n := k) (by omega) j
  apply List.ext_getElem?
  intro j
  simp only [g1, g2, g3, g4]
  repeat' split
  all_goals first
    | omega
    | rfl
    | (congr 1; omega)
theorem cut_del {s : List UInt8} {f k a l a' f' : Nat} (hf : f + k ≤ s.length) (ha : a + l ≤ s.length) (h : (f + k ≤ a ∧ a' = a - k ∧ f' = f) ∨ (a + l ≤ f ∧ a' = a ∧ f' = f - l)) : delT (delT s f k) a' l = delT (delT s a l) f' k := by
  have l1 := delT_length (s := s) (i := f) (n := k) hf
  have l2 := delT_length (s := s) (i := a) (n := l) ha
  have g1 := fun j => delT_get (s := s) (i := f) (n := k) (by omega) j
  have g2 := fun j => delT_get (s := delT s f k) (i := a') (n := l) (by omega) j
  have g3 := fun j => delT_get (s := s) (i := a) (n := l) (by omega) j
  have g4 := fun j => delT_get (s := delT s a l) (i := f') (n := k) (by omega) j
  apply List.ext_getElem?
  intro j
  simp only [g1, g2, g3, g4]
  repeat' split
  all_goals first
    | omega
    | rfl
    | (congr 1; omega)
theorem pc_get (s : List UInt8) (a l j : Nat) : ((s.take (a + l)).drop a)[j]? = if j < l then s[a + j]? else none := by
  rw [List.getElem?_drop]
  by_cases h : j < l
  · rw [if_pos h, List.getElem?_take_of_lt (by omega)]
  · rw [if_neg h, List.getElem?_eq_none (by simp; omega)]
theorem pc_length {s : List UInt8} {a l : Nat} (h : a + l ≤ s.length) : ((s.take (a + l)).drop a).length = l := by simp; omega
/-- The piece of a mark stands in the piece that is moved. -/
theorem cut_mvi {s : List UInt8} {f k a l q : Nat} (ha : a + l ≤ s.length) (h1 : a ≤ f) (h2 : f + k ≤ a + l) (hq : q + l ≤ s.length) :
    insT (delT (delT s f k) a (l - k)) q (((delT s f k).take (a + (l - k))).drop a) = delT (insT (delT s a l) q ((s.take (a + l)).drop a)) (f + q - a) k := by
  have l1 := delT_length (s := s) (i := f) (n := k) (by omega)
  have l2 := delT_length (s := s) (i := a) (n := l) ha
  have l3 := pc_length (s := s) ha
  have l4 := pc_length (s := delT s f k) (a := a) (l := l - k) (by omega)
  have l5 := delT_length (s := delT s f k) (i := a) (n := l - k) (by omega)
  have l6 := insT_length (s := delT s a l) (t := (s.take (a + l)).drop a) (i := q) (by omega)
  have g1 := fun j => delT_get (s := s) (i := f) (n := k) (by omega) j
  have g2 := fun j => delT_get (s := delT s f k) (i := a) (n := l - k) (by omega) j
  have g3 := fun j => insT_get (s := delT (delT s f k) a (l - k)) (t := ((delT s f k).take (a + (l - k))).drop a) (i := q) (by omega) j
  have g4 := fun j => delT_get (s := s) (i := a) (n := l) (by omega) j
  have g5 := fun j => insT_get (s := delT s a l) (t := (s.take (a + l)).drop a) (i := q) (by omega) j
  have g6 := fun j => delT_get (s := insT (delT s a l) q ((s.take (a + l)).drop a)) (i := f + q - a) (n := k) (by omega) j
  have g7 := fun j => pc_get s a l j
  have g8 := fun j => pc_get (delT s f k) a (l - k) j
  apply List.ext_getElem?
  intro j
  rw [g3, g6]
  simp only [g5, l3, l4, g7, g8, g2, g4, g1]
  repeat' split
  all_goals first
    | omega
    | rfl
    | (congr 1; omega)
/-- The piece of a mark stands outside of the piece that is moved. -/
theorem cut_mvo {s : List UInt8} {f k a l q a' f1 f' q' : Nat} (hf : f + k ≤ s.length) (ha : a + l ≤ s.length) (hq : q + l ≤ s.length)
    (h : (f + k ≤ a ∧ a' = a - k ∧ f1 = f) ∨ (a + l ≤ f ∧ a' = a ∧ f1 = f - l)) (h' : (f1 + k ≤ q ∧ q' = q - k ∧ f' = f1) ∨ (q ≤ f1 ∧ q' = q ∧ f' = f1 + l)) :
    insT (delT (delT s f k) a' l) q' (((delT s f k).take (a' + l)).drop a') = delT (insT (delT s a l) q ((s.take (a + l)).drop a)) f' k := by
  have l2 := delT_length (s := s) (i := a) (n := l) ha
  have l3 := pc_length (s := s) ha
  rw [cut_del hf ha h]
  have hp : ((delT s f k).take (a' + l)).drop a' = (s.take (a + l)).drop a := by
    apply List.ext_getElem?
    intro j
    rw [pc_get, pc_get, delT_get (by omega)]
    repeat' split
    all_goals first
      | omega
      | rfl
      | (congr 1; omega)
  rw [hp, cut_ins (f' := f') (a := q) (by omega) (by omega) (by rw [l3]; exact h')]

/-! ### Numbers -/
theorem whole_l {m : Mk} {a l : Int} (h1 : m.fr < m.to_) (h : m.to_ ≤ a) : withoutM m a l = m := by
  obtain ⟨i, f, t, w⟩ := m
  dsimp only at h1 h
  unfold withoutM shutP
  dsimp only
  rw [if_pos (by omega : f ≤ a), if_pos h]
  simp
theorem whole_r {m : Mk} {a l : Int} (h1 : m.fr < m.to_) (hl : 0 < l) (h : a + l ≤ m.fr) : withoutM m a l = ⟨m.id, m.fr - l, m.to_ - l, m.wh⟩ := by
  obtain ⟨i, f, t, w⟩ := m
  dsimp only at h1 h
  have e1 : shutP f a l = f - l := by unfold shutP; rw [if_neg (by omega)]; split <;> omega
  have e2 : shutP t a l = t - l := by unfold shutP; rw [if_neg (by omega)]; split <;> omega
  unfold withoutM
  dsimp only
  rw [e1, e2]
  simp; omega
/-- What a whole mark that stays whole does: its new place, and where the edit stands. -/
inductive Cls (e : Ed) (m : Mk) : Mk → Prop
  | il : e.k = 1 → m.to_ ≤ e.at_ → Cls e m m
  | ir : e.k = 1 → e.at_ ≤ m.fr → Cls e m ⟨m.id, m.fr + e.tx.length, m.to_ + e.tx.length, m.wh⟩
  | no : e.k ≠ 1 → e.k = 4 ∨ e.len = 0 → Cls e m m
  | mi : e.k = 3 → 0 < e.len → e.at_ ≤ m.fr → m.to_ ≤ e.at_ + e.len → Cls e m ⟨m.id, m.fr + e.to_ - e.at_, m.to_ + e.to_ - e.at_, m.wh⟩
  | dl : e.k = 2 → 0 < e.len → m.to_ ≤ e.at_ → Cls e m m
  | dr : e.k = 2 → 0 < e.len → e.at_ + e.len ≤ m.fr → Cls e m ⟨m.id, m.fr - e.len, m.to_ - e.len, m.wh⟩
  | mll : e.k = 3 → 0 < e.len → m.to_ ≤ e.at_ → m.to_ ≤ e.to_ → Cls e m m
  | mlr : e.k = 3 → 0 < e.len → m.to_ ≤ e.at_ → e.to_ ≤ m.fr → Cls e m ⟨m.id, m.fr + e.len, m.to_ + e.len, m.wh⟩
  | mrl : e.k = 3 → 0 < e.len → e.at_ + e.len ≤ m.fr → m.to_ - e.len ≤ e.to_ → Cls e m ⟨m.id, m.fr - e.len, m.to_ - e.len, m.wh⟩
  | mrr : e.k = 3 → 0 < e.len → e.at_ + e.len ≤ m.fr → e.to_ ≤ m.fr - e.len → Cls e m m
theorem Cls.carry {e : Ed} {m m' : Mk} (hm : m.fr < m.to_) (h : Cls e m m') : carryM m e = (m', true) := by
  cases h with
  | il h1 h2 => rw [carryM_ins h1, openM_lo h2]
  | ir h1 h2 => rw [carryM_ins h1, openM_hi (by omega) (by omega)]
  | no h1 h2 => rw [carryM_not h1 h2]
  | mi h1 h2 h3 h4 => rw [carryM_in (by omega) (by omega) ⟨h1, h3, h4⟩]
  | dl h1 h2 h3 =>
    rw [carryM_out (by omega) (by omega) (by omega), whole_l hm h3, if_neg (by omega), if_neg (by omega)]
  | dr h1 h2 h3 =>
    rw [carryM_out (by omega) (by omega) (by omega), whole_r hm h2 h3, if_neg (by dsimp only; omega), if_neg (by omega)]
  | mll h1 h2 h3 h4 =>
    rw [carryM_out (by omega) (by omega) (by omega), whole_l hm h3, if_neg (by omega), if_pos h1, openM_lo h4]
  | mlr h1 h2 h3 h4 =>
    rw [carryM_out (by omega) (by omega) (by omega), whole_l hm h3, if_neg (by omega), if_pos h1, openM_hi (by omega) (by omega)]
  | mrl h1 h2 h3 h4 =>
    rw [carryM_out (by omega) (by omega) (by omega), whole_r hm h2 h3, if_neg (by dsimp only; omega), if_pos h1, openM_lo h4]
  | mrr h1 h2 h3 h4 =>
    rw [carryM_out (by omega) (by omega) (by omega), whole_r hm h2 h3, if_neg (by dsimp only; omega), if_pos h1, openM_hi (by dsimp only; omega) (by dsimp only; omega)]
    dsimp only
    rw [Int.sub_add_cancel, Int.sub_add_cancel]
/-- A mark that stays whole is in one of these cases. -/
theorem cls {e : Ed} {m : Mk} {n : Int} (hm : okM n m) (hp : possE e n) (hc : (carryM m e).2 = true) (hw : (carryM m e).1.wh = true) : Cls e m (carryM m e).1 := by
  have hn := hp.nums
  unfold okM at hm
  by_cases h1 : e.k = 1
  · rw [carryM_ins h1] at hw ⊢
    dsimp only at hw ⊢
    by_cases c1 : m.to_ ≤ e.at_
    · rw [openM_lo c1]; exact .il h1 c1
    · by_cases c2 : m.fr < e.at_
      · rw [openM_in c1 c2] at hw; cases hw
      · rw [openM_hi c1 c2]; exact .ir h1 (by omega)
  by_cases h2 : e.k = 4 ∨ e.len = 0
  · rw [carryM_not h1 h2]; exact .no h1 h2
  by_cases h3 : e.k = 3 ∧ e.at_ ≤ m.fr ∧ m.to_ ≤ e.at_ + e.len
  · rw [carryM_in h1 h2 h3]; exact .mi h3.1 (by omega) h3.2.1 h3.2.2
  rw [carryM_out h1 h2 h3] at hc hw ⊢
  by_cases h4 : (withoutM m e.at_ e.len).fr = (withoutM m e.at_ e.len).to_
  · rw [if_pos h4] at hc; cases hc
  rw [if_neg h4] at hw ⊢
  have side : (withoutM m e.at_ e.len).wh = true → (m.to_ ≤ e.at_ ∨ e.at_ + e.len ≤ m.fr) := by
    intro h
    unfold withoutM at h
    simp only [Bool.and_eq_true, decide_eq_true_eq] at h
    rcases whole_side (by omega) (by omega) (by omega) (by omega) h.2 with ⟨g, _⟩ | ⟨g, _⟩
    · exact .inl g
    · exact .inr g
  by_cases h5 : e.k = 3
  · rw [if_pos h5] at hw ⊢
    dsimp only at hw ⊢
    have hw2 : (withoutM m e.at_ e.len).wh = true := by
      by_cases c1 : (withoutM m e.at_ e.len).to_ ≤ e.to_
      · rwa [openM_lo c1] at hw
      · by_cases c2 : (withoutM m e.at_ e.len).fr < e.to_
        · rw [openM_in c1 c2] at hw; cases hw
        · rwa [openM_hi c1 c2] at hw
    rcases side hw2 with g | g
    · rw [whole_l (by omega) g] at hw ⊢
      by_cases c1 : m.to_ ≤ e.to_
      · rw [openM_lo c1]; exact .mll h5 (by omega) g c1
      · by_cases c2 : m.fr < e.to_
        · rw [openM_in c1 c2] at hw; cases hw
        · rw [openM_hi c1 c2]; exact .mlr h5 (by omega) g (by omega)
    · rw [whole_r (by omega) (by omega) g] at hw ⊢
      by_cases c1 : m.to_ - e.len ≤ e.to_
      · rw [openM_lo (by exact c1)]; exact .mrl h5 (by omega) g c1
      · by_cases c2 : m.fr - e.len < e.to_
        · rw [openM_in (by exact c1) (by exact c2)] at hw; cases hw
        · rw [openM_hi (by exact c1) (by exact c2)]
          dsimp only
          rw [Int.sub_add_cancel, Int.sub_add_cancel]
          exact .mrr h5 (by omega) g (by omega)
  · rw [if_neg h5] at hw ⊢
    dsimp only at hw ⊢
    rcases side hw with g | g
    · rw [whole_l (by omega) g]; exact .dl (by omega) (by omega) g
    · rw [whole_r (by omega) (by omega) g]; exact .dr (by omega) (by omega) g
theorem Cls.wh {e : Ed} {m m' : Mk} (h : Cls e m m') : m'.wh = m.wh ∧ m'.id = m.id ∧ m'.to_ - m'.fr = m.to_ - m.fr := by
  cases h <;> refine ⟨rfl, rfl, ?_⟩ <;> dsimp only <;> omega
theorem atP_lo {m : Mk} {q : Int} (h : q ≤ m.fr) : atP m q = q := by unfold atP shutP; rw [if_pos h]
theorem atP_hi {m : Mk} {q : Int} (hm : m.fr ≤ m.to_) (h : m.to_ ≤ q) : atP m q = q - (m.to_ - m.fr) := by
  unfold atP shutP
  split
  · omega
  · split <;> omega
end Go.Proofs.Ytbiohkncdlhigaa

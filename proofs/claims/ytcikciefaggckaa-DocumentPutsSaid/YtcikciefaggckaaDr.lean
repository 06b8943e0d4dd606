/-
  The plain side of the layer of documents: an edit and its way back. Conditions: none.
-/
import Derived.Test.YtcikciefaggckaaDw
namespace Go.Proofs.Ytcikciefaggckaa
open Go Go.RowKit

def backE (e : Ed) : Ed := if e.k = 1 then ⟨2, e.at_, e.tx.length, 0, []⟩ else ⟨3, e.to_, e.len, e.at_, []⟩
theorem rest_poss {s : List UInt8} {e : Ed} (h : possE e s.length) (hk : e.k = 1 ∨ e.k = 3) : possE (backE e) (applyT s e).length := by
  have hn := h.nums
  have hl := applyT_length h
  unfold backE
  by_cases h1 : e.k = 1
  · rw [if_pos h1]
    exact ⟨by dsimp only; omega, by dsimp only; omega, .inr (.inl ⟨.inl rfl, by dsimp only; omega, by dsimp only; omega⟩)⟩
  · rw [if_neg h1]
    exact ⟨by dsimp only; omega, by dsimp only; omega, .inr (.inr ⟨rfl, by dsimp only; omega, by dsimp only; omega, by dsimp only; omega, by dsimp only; omega⟩)⟩
theorem del_ins {s t : List UInt8} {a : Nat} (ha : a ≤ s.length) : delT (insT s a t) a t.length = s := by
  apply List.ext_getElem?
  intro j
  rw [delT_get (by rw [insT_length ha]; omega)]
  by_cases h : j < a
  · rw [if_pos h, insT_get ha, if_pos h]
  · rw [if_neg h, insT_get ha, if_neg (by omega), if_neg (by omega)]
    congr 1
    omega
theorem ins_take {s t : List UInt8} {q : Nat} (hq : q ≤ s.length) : ((insT s q t).take (q + t.length)).drop q = t := by
  unfold insT
  have hl : (s.take q).length = q := by simp; omega
  rw [List.take_append_of_le_length (by simp; omega), List.take_of_length_le (by simp; omega), List.drop_append_of_le_length (by omega), List.drop_eq_nil_of_le (by omega)]
  rfl
theorem ins_del {s : List UInt8} {a l : Nat} (h : a + l ≤ s.length) : insT (delT s a l) a ((s.take (a + l)).drop a) = s := by
  apply List.ext_getElem?
  intro j
  have hd := piece_len h
  have hl := delT_length h
  rw [insT_get (by omega), hd]
  by_cases h1 : j < a
  · rw [if_pos h1, delT_get (by omega), if_pos h1]
  · rw [if_neg h1]
    by_cases h2 : j < a + l
    · rw [if_pos h2, List.getElem?_drop, List.getElem?_take_of_lt (by omega)]
      congr 1
      omega
    · rw [if_neg h2, delT_get (by omega), if_neg (by omega)]
      congr 1
      omega
theorem rest_text {s : List UInt8} {e : Ed} (h : possE e s.length) (hk : e.k = 1 ∨ e.k = 3) : applyT (applyT s e) (backE e) = s := by
  have hn := h.nums
  unfold backE
  by_cases h1 : e.k = 1
  · rw [if_pos h1, applyT_del rfl, applyT_ins h1]
    dsimp only
    rw [Int.toNat_natCast]
    exact del_ins (by omega)
  · rw [if_neg h1, applyT_mov rfl, applyT_mov (by omega)]
    dsimp only
    have hd := piece_len (s := s) (a := e.at_.toNat) (l := e.len.toNat) (by omega)
    have hl := delT_length (s := s) (i := e.at_.toNat) (n := e.len.toNat) (by omega)
    have hx := del_ins (s := delT s e.at_.toNat e.len.toNat) (t := (s.take (e.at_.toNat + e.len.toNat)).drop e.at_.toNat) (a := e.to_.toNat) (by omega)
    have hy := ins_take (s := delT s e.at_.toNat e.len.toNat) (t := (s.take (e.at_.toNat + e.len.toNat)).drop e.at_.toNat) (q := e.to_.toNat) (by omega)
    rw [hd] at hx hy
    rw [hx, hy]
    exact ins_del (by omega)
/-- Which marks come back as they were. -/
def keptP (e : Ed) (m : Mk) : Prop := (e.k = 1 ∧ (m.to_ ≤ e.at_ ∨ e.at_ ≤ m.fr)) ∨ (e.k = 3 ∧ e.at_ ≤ m.fr ∧ m.to_ ≤ e.at_ + e.len)
theorem without_lo {m : Mk} {a l : Int} (h1 : m.fr < m.to_) (h : m.to_ ≤ a) : withoutM m a l = m := by
  obtain ⟨mi, f, t, w⟩ := m
  dsimp only at h h1
  unfold withoutM shutP
  dsimp only
  rw [if_pos h, if_pos (by omega : f ≤ a), decide_eq_true rfl, Bool.and_true]
theorem without_hi {m : Mk} {a l : Int} (h1 : m.fr < m.to_) (hl : 0 < l) (h : a ≤ m.fr) : withoutM ⟨m.id, m.fr + l, m.to_ + l, m.wh⟩ a l = m := by
  obtain ⟨mi, f, t, w⟩ := m
  dsimp only at h h1 ⊢
  have e1 : shutP (f + l) a l = f := by
    unfold shutP
    rw [if_neg (by omega)]
    split <;> omega
  have e2 : shutP (t + l) a l = t := by
    unfold shutP
    rw [if_neg (by omega), if_neg (by omega)]
    omega
  unfold withoutM
  dsimp only
  rw [e1, e2, decide_eq_true (by omega), Bool.and_true]
theorem rest_mark {m : Mk} {e : Ed} {s : List UInt8} (hm : okM s.length m) (h : possE e s.length) (hk : keptP e m) : (carryM m e).2 = true ∧ carryM (carryM m e).1 (backE e) = (m, true) := by
  have hn := h.nums
  unfold okM at hm
  unfold backE
  rcases hk with ⟨h1, hk⟩ | ⟨h1, hk1, hk2⟩
  · rw [if_pos h1, carryM_ins h1]
    refine ⟨rfl, ?_⟩
    dsimp only
    by_cases c : m.to_ ≤ e.at_
    · rw [openM_lo c, carryM_out (show (2 : Int) ≠ 1 by decide) (by dsimp only; omega) (by dsimp only; omega)]
      dsimp only
      rw [without_lo hm.2.2.1 c, if_neg (by omega), if_neg (show ¬ (2 : Int) = 3 by decide)]
    · rw [openM_hi c (by omega), carryM_out (show (2 : Int) ≠ 1 by decide) (by dsimp only; omega) (by dsimp only; omega)]
      dsimp only
      rw [without_hi hm.2.2.1 (by omega) (by omega), if_neg (by omega), if_neg (show ¬ (2 : Int) = 3 by decide)]
  · rw [if_neg (by omega), carryM_in (by omega) (by omega) ⟨h1, hk1, hk2⟩]
    refine ⟨rfl, ?_⟩
    rw [carryM_in (show (3 : Int) ≠ 1 by decide) (by dsimp only; omega) ⟨rfl, by dsimp only; omega, by dsimp only; omega⟩]
    obtain ⟨mi, f, t, w⟩ := m
    dsimp only
    congr 2 <;> omega
theorem carryL_mem {ms : List Mk} {e : Ed} {m : Mk} (hm : m ∈ ms) (hc : (carryM m e).2 = true) : (carryM m e).1 ∈ carryL ms e := by
  unfold carryL
  exact List.mem_filterMap.2 ⟨m, hm, by rw [if_pos hc]⟩
theorem rest_mem {ms : List Mk} {m : Mk} {e : Ed} {s : List UInt8} (hmm : m ∈ ms) (hm : okM s.length m) (h : possE e s.length) (hk : keptP e m) : m ∈ carryL (carryL ms e) (backE e) := by
  obtain ⟨h1, h2⟩ := rest_mark hm h hk
  have h3 := carryL_mem hmm h1
  have h4 := carryL_mem (e := backE e) h3 (by rw [h2])
  rwa [h2] at h4
end Go.Proofs.Ytcikciefaggckaa

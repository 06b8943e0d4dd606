/-
  The plain side of the layer of documents: an edit in two parts. Conditions: none.
-/
import Derived.Test.YtcikciefaggckaaDw
namespace Go.Proofs.Ytcikciefaggckaa
open Go Go.RowKit

def optM (e : Ed) (m : Mk) : Option Mk := if (carryM m e).2 = true then some (carryM m e).1 else none
theorem carryL_opt (ms : List Mk) (e : Ed) : carryL ms e = ms.filterMap (optM e) := rfl
theorem fm_congr {α β : Type} {f g : α → Option β} : ∀ {l : List α}, (∀ x ∈ l, f x = g x) → l.filterMap f = l.filterMap g
  | [], _ => rfl
  | x :: l, h => by
    rw [List.filterMap_cons, List.filterMap_cons, h x (List.mem_cons_self ..), fm_congr fun y hy => h y (List.mem_cons_of_mem _ hy)]
theorem carryL_comp {ms : List Mk} {e e1 e2 : Ed} (h : ∀ m ∈ ms, (optM e1 m).bind (optM e2) = optM e m) : carryL (carryL ms e1) e2 = carryL ms e := by
  rw [carryL_opt, carryL_opt, carryL_opt, List.filterMap_filterMap]
  exact fm_congr h
theorem shutP_comp {p a n1 n2 : Int} (_h1 : 0 ≤ n1) (h2 : 0 ≤ n2) : shutP (shutP p a n1) a n2 = shutP p a (n1 + n2) := by
  unfold shutP
  repeat' split
  all_goals omega
theorem shutP_size {p q a n : Int} (hn : 0 ≤ n) (h : p ≤ q) : shutP q a n - shutP p a n ≤ q - p := by
  unfold shutP
  repeat' split
  all_goals omega
theorem optM_not {e : Ed} {m : Mk} (h1 : e.k ≠ 1) (h : e.k = 4 ∨ e.len = 0) : optM e m = some m := by unfold optM; rw [carryM_not h1 h, if_pos rfl]
theorem optM_del {a l : Int} {t : Int} {x : List UInt8} {m : Mk} (h : l ≠ 0) : optM ⟨2, a, l, t, x⟩ m = if (withoutM m a l).fr = (withoutM m a l).to_ then none else some (withoutM m a l) := by
  unfold optM
  rw [carryM_out (show (2 : Int) ≠ 1 by decide) (by dsimp only; omega) (by dsimp only; omega)]
  dsimp only
  by_cases h1 : (withoutM m a l).fr = (withoutM m a l).to_
  · rw [if_pos h1, if_pos h1, if_neg (by simp)]
  · rw [if_neg h1, if_neg h1, if_neg (show ¬ (2 : Int) = 3 by decide), if_pos rfl]
theorem comp_del {m : Mk} {a n1 n2 : Int} {t t1 t2 : Int} {x x1 x2 : List UInt8} (hm : m.fr < m.to_) (h1 : 0 ≤ n1) (h2 : 0 ≤ n2) : (optM ⟨2, a, n1, t1, x1⟩ m).bind (optM ⟨2, a, n2, t2, x2⟩) = optM ⟨2, a, n1 + n2, t, x⟩ m := by
  by_cases c1 : n1 = 0
  · subst c1
    rw [optM_not (show (2 : Int) ≠ 1 by decide) (.inr rfl), Int.zero_add]
    by_cases c2 : n2 = 0
    · subst c2
      rw [Option.bind_some, optM_not (show (2 : Int) ≠ 1 by decide) (.inr rfl), optM_not (show (2 : Int) ≠ 1 by decide) (.inr rfl)]
    · rw [Option.bind_some, optM_del c2, optM_del c2]
  · by_cases c2 : n2 = 0
    · subst c2
      rw [Int.add_zero, optM_del c1, optM_del c1]
      split
      · rfl
      · rw [Option.bind_some, optM_not (show (2 : Int) ≠ 1 by decide) (.inr rfl)]
    · rw [optM_del c1, optM_del (by omega : n1 + n2 ≠ 0)]
      have s1 := shutP_size (a := a) h1 (by omega : m.fr ≤ m.to_)
      have s2 := shutP_size (a := a) h2 (shutP_mono (a := a) h1 (by omega : m.fr ≤ m.to_))
      have e1 := shutP_comp (p := m.fr) (a := a) h1 h2
      have e2 := shutP_comp (p := m.to_) (a := a) h1 h2
      have f1 : (withoutM m a n1).fr = shutP m.fr a n1 := rfl
      have f2 : (withoutM m a n1).to_ = shutP m.to_ a n1 := rfl
      have f3 : (withoutM m a (n1 + n2)).fr = shutP m.fr a (n1 + n2) := rfl
      have f4 : (withoutM m a (n1 + n2)).to_ = shutP m.to_ a (n1 + n2) := rfl
      rw [f1, f2, f3, f4]
      by_cases c3 : shutP m.fr a n1 = shutP m.to_ a n1
      · rw [if_pos c3, if_pos (by rw [← e1, ← e2, c3])]
        rfl
      · rw [if_neg c3, Option.bind_some, optM_del c2]
        have f5 : (withoutM (withoutM m a n1) a n2).fr = shutP (shutP m.fr a n1) a n2 := rfl
        have f6 : (withoutM (withoutM m a n1) a n2).to_ = shutP (shutP m.to_ a n1) a n2 := rfl
        rw [f5, f6, e1, e2]
        have f7 : withoutM (withoutM m a n1) a n2 = withoutM m a (n1 + n2) := by
          obtain ⟨mi, f, t, w⟩ := m
          unfold withoutM
          dsimp only at *
          rw [e1, e2]
          congr 1
          rw [Bool.and_assoc]
          congr 1
          by_cases g1 : shutP t a (n1 + n2) - shutP f a (n1 + n2) = t - f
          · rw [decide_eq_true g1, decide_eq_true (by omega), decide_eq_true (by omega)]; rfl
          · rw [decide_eq_false g1]
            by_cases g2 : shutP t a n1 - shutP f a n1 = t - f
            · rw [decide_eq_true g2, decide_eq_false (by omega)]; rfl
            · rw [decide_eq_false g2]; rfl
        rw [f7]
theorem comp_ins {m : Mk} {a : Int} {l1 l2 t1 t2 l t : Int} {x1 x2 : List UInt8} : (optM ⟨1, a, l1, t1, x1⟩ m).bind (optM ⟨1, a + x1.length, l2, t2, x2⟩) = optM ⟨1, a, l, t, x1 ++ x2⟩ m := by
  unfold optM
  rw [carryM_ins rfl, carryM_ins rfl, if_pos rfl, Option.bind_some, carryM_ins rfl, if_pos rfl, if_pos rfl]
  congr 1
  obtain ⟨mi, f, t, w⟩ := m
  dsimp only
  have hl : ((x1 ++ x2).length : Int) = x1.length + x2.length := by simp
  rw [hl]
  by_cases c1 : t ≤ a
  · have A1 : openM ⟨mi, f, t, w⟩ a x1.length = ⟨mi, f, t, w⟩ := openM_lo c1
    have A2 : openM ⟨mi, f, t, w⟩ (a + x1.length) x2.length = ⟨mi, f, t, w⟩ := openM_lo (show t ≤ _ by omega)
    have A3 : openM ⟨mi, f, t, w⟩ a (x1.length + x2.length) = ⟨mi, f, t, w⟩ := openM_lo c1
    rw [A1, A2, A3]
  · by_cases c2 : f < a
    · have A1 : openM ⟨mi, f, t, w⟩ a x1.length = ⟨mi, f, t + x1.length, false⟩ := openM_in c1 c2
      have A2 : openM ⟨mi, f, t + x1.length, false⟩ (a + x1.length) x2.length = ⟨mi, f, t + x1.length + x2.length, false⟩ := openM_in (show ¬ t + (x1.length : Int) ≤ _ by omega) (show f < _ by omega)
      have A3 : openM ⟨mi, f, t, w⟩ a (x1.length + x2.length) = ⟨mi, f, t + (x1.length + x2.length), false⟩ := openM_in c1 c2
      rw [A1, A2, A3, Int.add_assoc]
    · have A1 : openM ⟨mi, f, t, w⟩ a x1.length = ⟨mi, f + x1.length, t + x1.length, w⟩ := openM_hi c1 c2
      have A2 : openM ⟨mi, f + x1.length, t + x1.length, w⟩ (a + x1.length) x2.length = ⟨mi, f + x1.length + x2.length, t + x1.length + x2.length, w⟩ := openM_hi (show ¬ t + (x1.length : Int) ≤ _ by omega) (show ¬ f + (x1.length : Int) < _ by omega)
      have A3 : openM ⟨mi, f, t, w⟩ a (x1.length + x2.length) = ⟨mi, f + (x1.length + x2.length), t + (x1.length + x2.length), w⟩ := openM_hi c1 c2
      rw [A1, A2, A3, Int.add_assoc, Int.add_assoc]
theorem del_del {s : List UInt8} {a n1 n2 : Nat} (h : a + n1 + n2 ≤ s.length) : delT (delT s a n1) a n2 = delT s a (n1 + n2) := by
  apply List.ext_getElem?
  intro j
  have hl := delT_length (s := s) (i := a) (n := n1) (by omega)
  rw [delT_get (s := delT s a n1) (by omega) j, delT_get (s := s) (n := n1 + n2) (by omega) j]
  by_cases c : j < a
  · rw [if_pos c, if_pos c, delT_get (s := s) (by omega) j, if_pos c]
  · rw [if_neg c, if_neg c, delT_get (s := s) (by omega) (j + n2), if_neg (by omega)]
    congr 1
    omega
theorem ins_ins {s x1 x2 : List UInt8} {a : Nat} (h : a ≤ s.length) : insT (insT s a x1) (a + x1.length) x2 = insT s a (x1 ++ x2) := by
  apply List.ext_getElem?
  intro j
  have hl := insT_length (s := s) (t := x1) h
  have hl2 : (x1 ++ x2).length = x1.length + x2.length := by simp
  rw [insT_get (s := insT s a x1) (by omega) j, insT_get (s := s) (t := x1 ++ x2) h j, hl2]
  by_cases c1 : j < a + x1.length
  · rw [if_pos c1, insT_get h j]
    by_cases c2 : j < a
    · rw [if_pos c2, if_pos c2]
    · rw [if_neg c2, if_neg c2, if_pos c1, if_pos (by omega), List.getElem?_append_left (by omega)]
  · rw [if_neg c1, if_neg (by omega : ¬ j < a)]
    by_cases c3 : j < a + x1.length + x2.length
    · rw [if_pos c3, if_pos (by omega), List.getElem?_append_right (by omega)]
      congr 1
      omega
    · rw [if_neg c3, if_neg (by omega), insT_get h, if_neg (by omega), if_neg (by omega)]
      congr 1
      omega
end Go.Proofs.Ytcikciefaggckaa

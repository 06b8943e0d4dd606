/-
  What the names of the steps that hold a commit say. Conditions: none.
-/
import Derived.Test.YtbiohkncdlhigaaYb
namespace Go.Proofs.Ytbiohkncdlhigaa
open Go Go.RowKit

theorem markS_wh (s : Stp) : (markS s).wh = true ∧ (markS s).id = s.id := ⟨rfl, rfl⟩
theorem take_drop_mid {ss : List Stp} {k : Nat} {s t : Stp} {B1 B2 : List Stp} (hs : ss[k]? = some s) (hB : ss.drop (k + 1) = B1 ++ t :: B2) :
    ss = (ss.take k ++ s :: B1) ++ t :: B2 ∧ ss.take (k + 1 + B1.length) = ss.take k ++ s :: B1 ∧ ss.take (k + 1 + B1.length + 1) = (ss.take k ++ s :: B1) ++ [t] ∧ ss[k + 1 + B1.length]? = some t := by
  have hk := (List.getElem?_eq_some_iff.1 hs).1
  have hl : (ss.take k ++ s :: B1).length = k + 1 + B1.length := by simp; omega
  have e : ss = (ss.take k ++ s :: B1) ++ t :: B2 := by
    conv => lhs; rw [ssplit hs, hB]
    simp
  refine ⟨e, ?_, ?_, ?_⟩
  · conv => lhs; rw [e]
    rw [List.take_append_of_le_length (by omega), List.take_of_length_le (by omega)]
  · conv => lhs; rw [e]
    rw [List.take_append, hl, List.take_of_length_le (by omega), show k + 1 + B1.length + 1 - (k + 1 + B1.length) = 1 by omega]
    rfl
  · conv => lhs; rw [e]
    rw [List.getElem?_append_right (by omega), hl, Nat.sub_self]
    rfl
/-- A commit that can be undone: its mark is there and whole. -/
theorem dep_whole {p : Pst} {k : Nat} {s : Stp} (hg : GoodP p) (hs : p.ss[k]? = some s) (h0 : 0 ≤ s.id) (hu : s.un = false) (hw : allW s.app (markS s) (p.ss.drop (k + 1))) {D : Dc} (hD : p.ds[s.app.toNat]? = some D) : ∃ m ∈ D.ms, m.id = s.id ∧ m.wh = true := by
  obtain ⟨D', _, h1, _, _, hmem, _⟩ := undo_ok hg hs h0 hu hw
  rw [hD] at h1
  injection h1 with h1
  subst h1
  obtain ⟨e1, e2⟩ := endM_id hw
  exact ⟨_, hmem, e1, e2⟩
/-- A commit that cannot: the first step that is named breaks its mark. -/
theorem dep_broken {p : Pst} {k : Nat} {s : Stp} (hg : GoodP p) (hs : p.ss[k]? = some s) (h0 : 0 ≤ s.id) (hu : s.un = false) (hn : ¬ allW s.app (markS s) (p.ss.drop (k + 1))) {D : Dc} (hD : p.ds[s.app.toNat]? = some D) :
    NW D s.id ∧ ∃ (x : Nat) (rest : List Int) (dB dA : Dc), depL s.app (k + 1) (markS s) (p.ss.drop (k + 1)) = (x : Int) :: rest ∧ x < p.ss.length ∧ replS s.app nilD (p.ss.take x) = dB ∧ replS s.app nilD (p.ss.take (x + 1)) = dA ∧ validD dB ∧ validD dA ∧ (∃ m ∈ dB.ms, m.id = s.id ∧ m.wh = true) ∧ NW dA s.id := by
  obtain ⟨B1, t, B2, rest, hB, hw1, hsk, hnw, hdep⟩ := dep_first (k := k + 1) (markS_wh s).1 hn
  obtain ⟨d1, d2, D', r1, q1, e2, hv2, hmem, hok, r2, hD', hvD, _⟩ := undo_run hg hs h0 hu
  rw [hD] at hD'
  injection hD' with hD'
  subst hD'
  obtain ⟨t1, t2, t3, t4⟩ := take_drop_mid hs hB
  have hk := (List.getElem?_eq_some_iff.1 hs).1
  have c : ¬ skipS s.app s := by
    rintro (h | h)
    · exact h rfl
    · rw [hu] at h; cases h
  rw [hB] at r2
  obtain ⟨dB, b1, b2⟩ := runS_split r2
  obtain ⟨b3, b4⟩ := runS_step hsk b2
  have hmB := run_mark hmem hw1 b1
  obtain ⟨hi1, hi2⟩ := endM_id hw1
  have hvB := runS_valid hv2 b1
  have hids := hg.ids
  have hne : ∀ (j : Nat) (u : Stp), p.ss[j]? = some u → j ≠ k → 0 ≤ u.id → u.id ≠ s.id := by
    intro j u hj hjk h0u he
    have a1' := hids j u hj
    have a2' := hids k s hs
    omega
  have hnwA : NW (stD dB t).1 s.id := by
    have := step_nw hvB b3 hmB (fun h => by rw [hi1]; exact hne _ _ t4 (by omega) h) hnw
    rw [hi1] at this
    exact this
  have hrB : runS s.app nilD (p.ss.take k ++ s :: B1) = some dB := by
    rw [runS_app, r1]
    show runS s.app d1 (s :: B1) = some dB
    rw [runS_do c q1, ← e2]
    exact b1
  refine ⟨run_nw hnwA (fun u hu h0u => ?_) b4, k + 1 + B1.length, rest, dB, (stD dB t).1, hdep, (List.getElem?_eq_some_iff.1 t4).1, ?_, ?_, hvB, stD_valid hvB b3, ⟨_, hmB, hi1, hi2⟩, hnwA⟩
  · obtain ⟨j, hj⟩ := List.getElem?_of_mem hu
    refine hne (k + 1 + B1.length + 1 + j) u ?_ (by omega) h0u
    rw [t1, List.getElem?_append_right (by simp; omega)]
    rw [show k + 1 + B1.length + 1 + j - (p.ss.take k ++ s :: B1).length = j + 1 by simp; omega, List.getElem?_cons_succ]
    exact hj
  · rw [t2]
    exact replS_run hrB
  · rw [t3]
    refine replS_run ?_
    rw [runS_app, hrB]
    show runS s.app dB [t] = _
    rw [runS_do hsk b3]
    rfl
theorem nw_find {D : Dc} {i : Int} (h : NW D i) {q : Nat} {x : Mk} (hq : D.ms[q]? = some x) (hi : x.id = i) : x.wh = false := h x (List.mem_of_getElem? hq) hi
end Go.Proofs.Ytbiohkncdlhigaa

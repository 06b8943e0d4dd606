/-
  A past without one of its steps, done anew. Conditions: none.
-/
import Derived.Test.YtbiohkncdlhigaaYb
namespace Go.Proofs.Ytbiohkncdlhigaa
open Go Go.RowKit

def cutS (ss : List Stp) (k : Nat) : List Stp := ss.take k ++ ss.drop (k + 1)
theorem cutS_length {ss : List Stp} {k : Nat} (hk : k < ss.length) : (cutS ss k).length = ss.length - 1 := by
  unfold cutS
  rw [List.length_append, List.length_take, List.length_drop]
  omega
theorem cutS_get {ss : List Stp} {k j : Nat} {t : Stp} (hk : k < ss.length) (h : (cutS ss k)[j]? = some t) : ∃ i, ss[i]? = some t ∧ ((j < k ∧ i = j) ∨ (k ≤ j ∧ i = j + 1)) := by
  have hl : (ss.take k).length = k := by rw [List.length_take]; omega
  unfold cutS at h
  by_cases c : j < k
  · rw [List.getElem?_append_left (by omega), List.getElem?_take_of_lt c] at h
    exact ⟨j, h, .inl ⟨c, rfl⟩⟩
  · rw [List.getElem?_append_right (by omega), hl, List.getElem?_drop] at h
    exact ⟨j + 1, by rw [← h]; congr 1; omega, .inr ⟨by omega, rfl⟩⟩
theorem run_cut {a : Int} {ss : List Stp} {k : Nat} {s : Stp} {d : Dc} (hs : ss[k]? = some s) (hu : s.un = true) : runS a d (cutS ss k) = runS a d ss := by
  unfold cutS
  conv => rhs; rw [ssplit hs]
  rw [runS_app, runS_app]
  congr 1
  funext d'
  rw [runS_skip (.inr hu)]
def DoneN (N : Pst) (L : List Stp) : Prop := N.ds.length = 2 ∧ N.ss.length ≤ L.length ∧ (∀ t ∈ N.ss, t ∈ L) ∧ ∀ b : Nat, b < 2 → ∃ d, N.ds[b]? = some d ∧ runS (b : Int) nilD L = some d
theorem done_nil : DoneN (newP 2) [] := by
  refine ⟨by simp [newP], by simp [newP], by simp [newP], fun b hb => ⟨nilD, ?_, rfl⟩⟩
  have : b = 0 ∨ b = 1 := by omega
  rcases this with rfl | rfl <;> rfl
theorem done_valid {N : Pst} {L : List Stp} (h : DoneN N L) : ∀ d ∈ N.ds, validD d := by
  intro d hd
  obtain ⟨b, hb⟩ := List.getElem?_of_mem hd
  have hbl := (List.getElem?_eq_some_iff.1 hb).1
  obtain ⟨d', h1, h2⟩ := h.2.2.2 b (by have := h.1; omega)
  rw [hb] at h1
  injection h1 with h1
  subst h1
  exact runS_valid nilD_valid h2
theorem done_skip {N : Pst} {L : List Stp} {t : Stp} (h : DoneN N L) (hu : t.un = true) : DoneN N (L ++ [t]) := by
  refine ⟨h.1, by rw [List.length_append]; have := h.2.1; omega, fun u hu => List.mem_append_left _ (h.2.2.1 u hu), fun b hb => ?_⟩
  obtain ⟨d, h1, h2⟩ := h.2.2.2 b hb
  refine ⟨d, h1, ?_⟩
  rw [runS_app, h2]
  show runS (b : Int) d [t] = some d
  rw [runS_skip (.inr hu)]
  rfl
theorem done_step {N : Pst} {L Q : List Stp} {t : Stp} (h : DoneN N L) (hl : L.length < 400) (hrun : ∀ b : Nat, b < 2 → ∃ d, runS (b : Int) nilD (L ++ t :: Q) = some d) (h0 : 0 ≤ t.app) (h1 : t.app < 2) (hid : -1 ≤ t.id) (hne : ∀ u ∈ L, 0 ≤ t.id → u.id ≠ t.id) (hu : t.un = false) :
    ∃ N', doP N t = (N', 0) ∧ DoneN N' (L ++ [t]) := by
  obtain ⟨g1, g2, g3, g4⟩ := h
  obtain ⟨a, ha⟩ : ∃ a : Nat, t.app = (a : Int) := ⟨t.app.toNat, by omega⟩
  obtain ⟨d, k1, k2⟩ := g4 a (by omega)
  obtain ⟨D, hD⟩ := hrun a (by omega)
  obtain ⟨d', r1, r2⟩ := runS_split hD
  rw [k2] at r1
  injection r1 with r1
  subst r1
  have hns : ¬ skipS (a : Int) t := by
    rintro (e | e)
    · exact e ha
    · rw [hu] at e; cases e
  obtain ⟨r3, r4⟩ := runS_step hns r2
  have hgd : N.ds.getD t.app.toNat nilD = d := by rw [ha, Int.toNat_natCast, List.getD_eq_getElem?_getD, k1]; rfl
  refine ⟨⟨N.ds.set t.app.toNat (stD d t).1, N.ss ++ [t]⟩, ?_, ?_⟩
  · unfold doP
    rw [if_neg (by rw [hu]; simp only [Bool.false_eq_true, false_or]; omega), if_neg (by omega), if_neg, hgd, if_neg (by simpa using r3)]
    intro e
    obtain ⟨u, q1, q2⟩ := List.any_eq_true.1 e
    have q3 := of_decide_eq_true q2
    exact hne u (g3 u q1) q3.1 q3.2
  · refine ⟨by simp [g1], by simp; omega, fun u hu => ?_, fun b hb => ?_⟩
    · rcases List.mem_append.1 hu with hu | hu
      · exact List.mem_append_left _ (g3 u hu)
      · exact List.mem_append_right _ hu
    · rw [ha, Int.toNat_natCast]
      by_cases hba : b = a
      · subst hba
        refine ⟨(stD d t).1, by rw [List.getElem?_set_self (by omega)], ?_⟩
        rw [runS_app, k2]
        show runS (b : Int) d [t] = _
        rw [runS_do hns r3]
        rfl
      · obtain ⟨d2, m1, m2⟩ := g4 b hb
        refine ⟨d2, by show (N.ds.set a (stD d t).1)[b]? = _; rw [List.getElem?_set_ne (by omega)]; exact m1, ?_⟩
        rw [runS_app, m2]
        show runS (b : Int) d2 [t] = _
        rw [runS_skip (.inl (by omega))]
        rfl
/-- The steps of a past without an undone one can be done, one after the other. -/
theorem cut_step {q : Pst} {k : Nat} {s' : Stp} (hg : GoodP q) (h2 : q.ds.length = 2) (hs : q.ss[k]? = some s') (hu : s'.un = true) {N : Pst} {j : Nat} {t : Stp} (hN : DoneN N ((cutS q.ss k).take j)) (ht : (cutS q.ss k)[j]? = some t) :
    (t.un = true → DoneN N ((cutS q.ss k).take (j + 1))) ∧ (t.un = false → ∃ N', doP N t = (N', 0) ∧ DoneN N' ((cutS q.ss k).take (j + 1))) := by
  have hk := (List.getElem?_eq_some_iff.1 hs).1
  have htk : (cutS q.ss k).take (j + 1) = (cutS q.ss k).take j ++ [t] := take_one ht
  have hsp := ssplit ht
  have hlen := cutS_length hk
  have hjl := (List.getElem?_eq_some_iff.1 ht).1
  have hsz := hg.sz
  obtain ⟨i, hi1, hi2⟩ := cutS_get hk ht
  have happ := hg.app t (List.mem_of_getElem? hi1)
  have hids := hg.ids i t hi1
  rw [htk]
  refine ⟨fun h => done_skip hN h, fun h => done_step (Q := (cutS q.ss k).drop (j + 1)) hN (by rw [List.length_take]; omega) (fun b hb => ?_) happ.1 (by omega) (by omega) (fun u hu h0 he => ?_) h⟩
  · obtain ⟨d, _, r⟩ := hg.run b (by omega)
    exact ⟨d, by rw [← hsp, run_cut hs hu]; exact r⟩
  · obtain ⟨j', hj'⟩ := List.getElem?_of_mem hu
    have hjj := (List.getElem?_eq_some_iff.1 hj').1
    rw [List.length_take] at hjj
    rw [List.getElem?_take_of_lt (by omega)] at hj'
    obtain ⟨i', hi1', hi2'⟩ := cutS_get hk hj'
    have := hg.ids i' u hi1'
    omega
theorem cut_docs {q : Pst} {k : Nat} {s' : Stp} (hg : GoodP q) (h2 : q.ds.length = 2) (hs : q.ss[k]? = some s') (hu : s'.un = true) {N : Pst} (hN : DoneN N (cutS q.ss k)) {b : Nat} (hb : b < 2) : N.ds[b]? = q.ds[b]? := by
  obtain ⟨d, h3, h4⟩ := hN.2.2.2 b hb
  obtain ⟨d', h5, h6⟩ := hg.run b (by omega)
  rw [run_cut hs hu] at h4
  rw [h3, h5]
  exact h4.symm.trans h6
end Go.Proofs.Ytbiohkncdlhigaa

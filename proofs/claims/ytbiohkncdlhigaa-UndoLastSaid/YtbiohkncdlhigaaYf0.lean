/-
  A commit done and undone at once. Conditions: none.
-/
import Derived.Test.YtbiohkncdlhigaaYc
namespace Go.Proofs.Ytbiohkncdlhigaa
open Go Go.RowKit

theorem putD_two {d : Dc} {i a : Int} {x : List UInt8} (hp : possE ⟨1, a, 0, 0, x⟩ d.tx.length) (hi : 0 ≤ i) (hn : ¬ hasId d.ms i) : (putD d i a x).2 = 0 ∨ (putD d i a x).2 = 2 := by
  unfold putD
  rw [if_neg (by
    rintro (h | h | h)
    · exact h hp
    · omega
    · exact hn h)]
  split
  · exact .inr rfl
  · exact .inl rfl
/-- What doing a fresh commit answers. -/
theorem last_do {p : Pst} (hg : GoodP p) (h2 : p.ds.length = 2) (hsz : p.ss.length ≤ 14) {x : Rq} (hx : okRq x) (hk : x.x.k = 128) :
    ∃ (a : Nat) (d : Dc), (nextP p x).app = (a : Int) ∧ a < 2 ∧ p.ds[a]? = some d ∧ (nextP p x).id = (p.ss.length : Int) ∧ (nextP p x).un = false ∧ runS (a : Int) nilD p.ss = some d
      ∧ ((∃ q, doP p (nextP p x) = (q, 2)) ∨ ∃ D1, doP p (nextP p x) = (⟨p.ds.set a D1, p.ss ++ [nextP p x]⟩, 0)) := by
  have e : nextP p x = ⟨x.app % (p.ds.length : Int), (p.ss.length : Int), editE ⟨0, x.x.a, x.x.l, x.x.t, x.x.tx⟩ (p.ds.getD (x.app % (p.ds.length : Int)).toNat nilD).tx.length, false⟩ := by
    unfold nextP
    rw [if_pos (by omega)]
  rw [h2] at e
  have m1 := Int.emod_nonneg x.app (show ((2 : Nat) : Int) ≠ 0 by decide)
  have m2 := Int.emod_lt_of_pos x.app (show (0 : Int) < ((2 : Nat) : Int) by decide)
  obtain ⟨a, ha⟩ : ∃ a : Nat, x.app % ((2 : Nat) : Int) = (a : Int) := ⟨(x.app % ((2 : Nat) : Int)).toNat, by omega⟩
  rw [ha, Int.toNat_natCast] at e
  obtain ⟨d, hd, hrun⟩ := hg.run a (by omega)
  have hgd : p.ds.getD a nilD = d := by rw [List.getD_eq_getElem?_getD, hd]; rfl
  rw [hgd] at e
  have hok0 : okRw ⟨0, x.x.a, x.x.l, x.x.t, x.x.tx⟩ := ⟨⟨show (0 : Int) ≤ 0 by decide, show (0 : Int) ≤ 255 by decide⟩, hx.2.2⟩
  have hposs := editE_poss hok0 (n := (d.tx.length : Int)) (by omega)
  have hE : editE ⟨0, x.x.a, x.x.l, x.x.t, x.x.tx⟩ (d.tx.length : Int) = ⟨1, x.x.a % ((d.tx.length : Int) + 1), 0, 0, wordT x.x.tx⟩ := by
    unfold editE
    rw [if_pos (show (0 : Int) % 4 = 0 by decide)]
  rw [hE] at e hposs
  rw [e]
  refine ⟨a, d, rfl, by omega, hd, rfl, rfl, hrun, ?_⟩
  have hno : ¬ hasId d.ms (p.ss.length : Int) := by
    rintro ⟨m, hm, hmi⟩
    rcases runS_ids hrun m hm with ⟨z, hz, _⟩ | ⟨t, ht, g1, g2, _⟩
    · simp at hz
    · obtain ⟨j, hj⟩ := List.getElem?_of_mem ht
      have := hg.ids j t hj
      have := (List.getElem?_eq_some_iff.1 hj).1
      omega
  have hst : stD d ⟨(a : Int), (p.ss.length : Int), ⟨1, x.x.a % ((d.tx.length : Int) + 1), 0, 0, wordT x.x.tx⟩, false⟩ = putD d (p.ss.length : Int) (x.x.a % ((d.tx.length : Int) + 1)) (wordT x.x.tx) := by
    unfold stD
    dsimp only
    rw [if_neg (by omega), if_neg (by decide)]
  have hpt := putD_two hposs (show (0 : Int) ≤ (p.ss.length : Int) by omega) hno
  rw [← hst] at hpt
  unfold doP
  dsimp only
  rw [Int.toNat_natCast, hgd]
  rw [if_neg (show ¬ ((a : Int) < 0 ∨ (p.ds.length : Int) ≤ (a : Int) ∨ false = true ∨ (p.ss.length : Int) < -1) by simp only [Bool.false_eq_true, false_or]; omega), if_neg (by omega), if_neg]
  · rcases hpt with h | h
    · rw [if_neg (not_not_intro h)]
      exact .inr ⟨_, rfl⟩
    · rw [if_pos (by rw [h]; decide), h]
      exact .inl ⟨_, rfl⟩
  · intro h
    obtain ⟨t, ht, h3⟩ := List.any_eq_true.1 h
    have h4 := of_decide_eq_true h3
    obtain ⟨j, hj⟩ := List.getElem?_of_mem ht
    have := hg.ids j t hj
    have := (List.getElem?_eq_some_iff.1 hj).1
    omega
theorem last_undo {p : Pst} {s : Stp} {a : Nat} {d D1 : Dc} (hs : s.app = (a : Int)) (hd : p.ds[a]? = some d) (hid : s.id = (p.ss.length : Int)) (hu : s.un = false) (hr : runS (a : Int) nilD p.ss = some d) :
    undoP ⟨p.ds.set a D1, p.ss ++ [s]⟩ (p.ss.length : Int) = (⟨p.ds, p.ss ++ [⟨s.app, s.id, s.e, true⟩]⟩, [], 0) := by
  have hg : (p.ss ++ [s])[p.ss.length]? = some s := by rw [List.getElem?_append_right (Nat.le_refl _), Nat.sub_self]; rfl
  have hdr : (p.ss ++ [s]).drop (p.ss.length + 1) = [] := List.drop_of_length_le (by simp)
  have htk : (p.ss ++ [s]).take p.ss.length = p.ss := by rw [List.take_append_of_le_length (Nat.le_refl _), List.take_length]
  have hal := (List.getElem?_eq_some_iff.1 hd).1
  rcases undoP_cases (p := ⟨p.ds.set a D1, p.ss ++ [s]⟩) hg (by omega) hu with ⟨_, h⟩ | ⟨h, _⟩
  · rw [h]
    have hus : undS (p.ss ++ [s]) p.ss.length s = p.ss ++ [⟨s.app, s.id, s.e, true⟩] := by
      unfold undS
      rw [htk, hdr]
      rfl
    have hrn : runS s.app nilD (p.ss ++ [⟨s.app, s.id, s.e, true⟩]) = some d := by
      rw [hs, runS_app, hr]
      show runS (a : Int) d [_] = some d
      rw [runS_skip (.inr rfl)]
      rfl
    unfold undP
    dsimp only
    rw [hus, hrn, hs, Int.toNat_natCast, Option.getD_some, List.set_set]
    congr 2
    refine List.ext_getElem? fun j => ?_
    by_cases c : a = j
    · subst c
      rw [List.getElem?_set_self hal, hd]
    · rw [List.getElem?_set_ne c]
  · dsimp only at h
    rw [hdr] at h
    exact absurd rfl h
end Go.Proofs.Ytbiohkncdlhigaa

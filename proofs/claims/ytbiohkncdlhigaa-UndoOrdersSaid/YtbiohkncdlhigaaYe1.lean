/-
  Two commits undone in either order: the pasts. Conditions: none.
-/
import Derived.Test.YtbiohkncdlhigaaYe0
namespace Go.Proofs.Ytbiohkncdlhigaa
open Go Go.RowKit

def eqS (u v : Stp) : Prop := u.app = v.app ∧ u.id = v.id ∧ u.un = v.un ∧ (u.un = false → u.e = v.e)
theorem eqS.rfl' (u : Stp) : eqS u u := ⟨rfl, rfl, rfl, fun _ => rfl⟩
theorem eqS.symm {u v : Stp} (h : eqS u v) : eqS v u := ⟨h.1.symm, h.2.1.symm, h.2.2.1.symm, fun e => (h.2.2.2 (by rw [h.2.2.1]; exact e)).symm⟩
theorem run_mid {a : Int} {X W : List Stp} {u v : Stp} (hu : u.un = true) (hv : v.un = true) (d : Dc) : runS a d (X ++ u :: W) = runS a d (X ++ v :: W) := by
  rw [runS_app, runS_app]
  congr 1
  funext d'
  rw [runS_skip (.inr hu), runS_skip (.inr hv)]
theorem eqS_mid {X W : List Stp} {u v : Stp} (h : eqS u v) {j : Nat} {x y : Stp} (hx : (X ++ u :: W)[j]? = some x) (hy : (X ++ v :: W)[j]? = some y) : eqS x y := by
  by_cases c : j < X.length
  · rw [List.getElem?_append_left c] at hx hy
    rw [hx] at hy
    injection hy with hy
    rw [hy]
    exact eqS.rfl' y
  · rw [List.getElem?_append_right (by omega)] at hx hy
    cases e : j - X.length with
    | zero =>
      rw [e, List.getElem?_cons_zero] at hx hy
      injection hx with hx
      injection hy with hy
      rw [← hx, ← hy]
      exact h
    | succ q =>
      rw [e, List.getElem?_cons_succ] at hx hy
      rw [hx] at hy
      injection hy with hy
      rw [hy]
      exact eqS.rfl' y
/-- What holds of the two pasts. -/
def SameP (p c d : Pst) : Prop := GoodP c ∧ GoodP d ∧ c.ds.length = p.ds.length ∧ d.ds.length = p.ds.length ∧ c.ss.length = p.ss.length ∧ d.ss.length = p.ss.length ∧ (∀ b : Nat, b < p.ds.length → c.ds[b]? = d.ds[b]?) ∧ ∀ (j : Nat) (x y : Stp), c.ss[j]? = some x → d.ss[j]? = some y → eqS x y
theorem SameP.symm {p c d : Pst} (h : SameP p c d) : SameP p d c := by
  obtain ⟨h1, h2, h3, h4, h5, h6, h7, h8⟩ := h
  exact ⟨h2, h1, h4, h3, h6, h5, fun b hb => (h7 b hb).symm, fun j x y hx hy => (h8 j y x hy hx).symm⟩
theorem good_docs {c d : Pst} (hc : GoodP c) (hd : GoodP d) (hl : c.ds.length = d.ds.length) (hr : ∀ b : Nat, runS (b : Int) nilD c.ss = runS (b : Int) nilD d.ss) {b : Nat} (hb : b < c.ds.length) : c.ds[b]? = d.ds[b]? := by
  obtain ⟨x, h1, h2⟩ := hc.run b hb
  obtain ⟨y, h3, h4⟩ := hd.run b (by omega)
  rw [h1, h3]
  have h2 : runS (b : Int) nilD c.ss = some x := h2
  have h4 : runS (b : Int) nilD d.ss = some y := h4
  rw [hr b, h4] at h2
  exact h2.symm
theorem orders_lt {p : Pst} (hg : GoodP p) {i k : Nat} (hik : i < k) {si sk : Stp} (hi : p.ss[i]? = some si) (hk : p.ss[k]? = some sk) (i0 : 0 ≤ si.id) (iu : si.un = false) (k0 : 0 ≤ sk.id) (ku : sk.un = false)
    (wi : allW si.app (markS si) (p.ss.drop (i + 1))) (wk : allW sk.app (markS sk) (p.ss.drop (k + 1))) :
    ∃ c d, undoP (undP p i si) (k : Int) = (c, [], 0) ∧ undoP (undP p k sk) (i : Int) = (d, [], 0) ∧ SameP p c d := by
  have hkl := (List.getElem?_eq_some_iff.1 hk).1
  have hX : (p.ss.take i).length = i := by rw [List.length_take]; omega
  have h1 := ssplit hi
  obtain ⟨q, hq⟩ : ∃ q, k = i + 1 + q := ⟨k - (i + 1), by omega⟩
  have hdq : (p.ss.drop (i + 1))[q]? = some sk := by rw [List.getElem?_drop, ← hq]; exact hk
  have h2 := ssplit hdq
  have hdz : (p.ss.drop (i + 1)).drop (q + 1) = p.ss.drop (k + 1) := by rw [List.drop_drop]; congr 1; omega
  rw [hdz] at h2
  have hY : ((p.ss.drop (i + 1)).take q).length = q := by
    have := (List.getElem?_eq_some_iff.1 hdq).1
    rw [List.length_take]
    omega
  rw [h2] at h1 wi
  have gi := undP_good hg hi i0 iu (by rw [h2]; exact wi)
  have gk := undP_good hg hk k0 ku wk
  generalize hXe : p.ss.take i = X at *
  generalize hYe : (p.ss.drop (i + 1)).take q = Y at *
  generalize p.ss.drop (k + 1) = Z at *
  obtain ⟨Y', Z1, W, sk', m1, m2, m3, m4, m5, m6, m7, m8, m9⟩ := ord_core hg h1 i0 iu k0 ku wi wk
  have h1' : p.ss = (X ++ si :: Y) ++ sk :: Z := by rw [h1]; simp
  have lk : (X ++ si :: Y).length = k := by simp; omega
  have ei : (undP p i si).ss = (X ++ ⟨si.app, si.id, si.e, true⟩ :: Y') ++ sk' :: Z1 := by
    show undS p.ss i si = _
    rw [h1, undS_mid hX, m1]
    simp
  have ek : (undP p k sk).ss = X ++ si :: (Y ++ ⟨sk.app, sk.id, sk.e, true⟩ :: movL sk.app (markS sk) Z) := by
    show undS p.ss k sk = _
    rw [h1', undS_mid lk]
    simp
  have lk' : (X ++ (⟨si.app, si.id, si.e, true⟩ : Stp) :: Y').length = k := by simp; omega
  have hgk : (undP p i si).ss[k]? = some sk' := by rw [ei]; exact mid_get lk'
  have hgi : (undP p k sk).ss[i]? = some si := by rw [ek]; exact mid_get hX
  have wk' : allW sk'.app (markS sk') ((undP p i si).ss.drop (k + 1)) := by rw [ei, mid_drop lk', m3]; exact m6
  have wi' : allW si.app (markS si) ((undP p k sk).ss.drop (i + 1)) := by rw [ek, mid_drop hX]; exact m9
  have k0' : 0 ≤ sk'.id := by rw [m4]; exact k0
  have gc := undP_good gi hgk k0' m5 wk'
  have gd := undP_good gk hgi i0 iu wi'
  have ec : (undP (undP p i si) k sk').ss = (X ++ ⟨si.app, si.id, si.e, true⟩ :: Y') ++ ⟨sk'.app, sk'.id, sk'.e, true⟩ :: W := by
    show undS (undP p i si).ss k sk' = _
    rw [ei, undS_mid lk', m3, m7]
  have ed : (undP (undP p k sk) i si).ss = (X ++ ⟨si.app, si.id, si.e, true⟩ :: Y') ++ ⟨sk.app, sk.id, sk.e, true⟩ :: W := by
    show undS (undP p k sk).ss i si = _
    rw [ek, undS_mid hX, m8]
    simp
  refine ⟨_, _, ?_, ?_, gc, gd, by simp [undP], by simp [undP], ?_, ?_, ?_, ?_⟩
  · rcases undoP_cases hgk k0' m5 with ⟨_, h⟩ | ⟨h, _⟩
    · exact h
    · exact absurd ((dep_nil rfl).2 wk') h
  · rcases undoP_cases hgi i0 iu with ⟨_, h⟩ | ⟨h, _⟩
    · exact h
    · exact absurd ((dep_nil rfl).2 wi') h
  · show (undS (undP p i si).ss k sk').length = _
    rw [undS_length hgk]
    exact undS_length hi
  · show (undS (undP p k sk).ss i si).length = _
    rw [undS_length hgi]
    exact undS_length hk
  · intro b hb
    refine good_docs gc gd (by simp [undP]) (fun b => ?_) (by simpa [undP] using hb)
    rw [ec, ed]
    exact run_mid rfl rfl _
  · intro j x y hx hy
    rw [ec] at hx
    rw [ed] at hy
    exact eqS_mid (u := ⟨sk'.app, sk'.id, sk'.e, true⟩) (v := ⟨sk.app, sk.id, sk.e, true⟩) ⟨m3, m4, rfl, fun h => by cases h⟩ hx hy
theorem orders_ne {p : Pst} (hg : GoodP p) {i k : Nat} (hik : i ≠ k) {si sk : Stp} (hi : p.ss[i]? = some si) (hk : p.ss[k]? = some sk) (i0 : 0 ≤ si.id) (iu : si.un = false) (k0 : 0 ≤ sk.id) (ku : sk.un = false)
    (wi : allW si.app (markS si) (p.ss.drop (i + 1))) (wk : allW sk.app (markS sk) (p.ss.drop (k + 1))) :
    ∃ c d, undoP (undP p i si) (k : Int) = (c, [], 0) ∧ undoP (undP p k sk) (i : Int) = (d, [], 0) ∧ SameP p c d := by
  by_cases h : i < k
  · exact orders_lt hg h hi hk i0 iu k0 ku wi wk
  · obtain ⟨c, d, h1, h2, h3⟩ := orders_lt hg (by omega) hk hi k0 ku i0 iu wk wi
    exact ⟨d, c, h2, h1, h3.symm⟩
end Go.Proofs.Ytbiohkncdlhigaa

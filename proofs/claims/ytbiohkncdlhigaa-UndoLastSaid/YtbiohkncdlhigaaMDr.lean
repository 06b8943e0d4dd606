/-
  The plain side of the layer of undoing: two whole marks that stand apart, in an edit and in the moved edit. Conditions: none.
  The plain side of the layer of documents: an edit and its way back. Conditions: none.
-/
import Derived.Test.YtbiohkncdlhigaaUa
import Derived.Test.YtbiohkncdlhigaaMU0
namespace Go.Proofs.Ytbiohkncdlhigaa
open Go Go.RowKit

theorem sh_r {m n : Mk} (hm : m.fr < m.to_) (hn : n.fr < n.to_) (h : m.to_ ≤ n.fr) : shM m n = ⟨n.id, n.fr - (m.to_ - m.fr), n.to_ - (m.to_ - m.fr), n.wh⟩ := by
  unfold shM
  rw [atP_hi (by omega) h, atP_hi (by omega) (by omega)]
theorem sh_l {m n : Mk} (hn : n.fr < n.to_) (h : n.to_ ≤ m.fr) : shM m n = n := by
  unfold shM
  rw [atP_lo (by omega), atP_lo h]
theorem sh_num {m n : Mk} (hm : m.fr < m.to_) (hn : n.fr < n.to_) (h : disM m n) : (shM m n).id = n.id ∧ (shM m n).wh = n.wh ∧ ((m.to_ ≤ n.fr ∧ (shM m n).fr = n.fr - (m.to_ - m.fr) ∧ (shM m n).to_ = n.to_ - (m.to_ - m.fr)) ∨ (n.to_ ≤ m.fr ∧ (shM m n).fr = n.fr ∧ (shM m n).to_ = n.to_)) := by
  refine ⟨rfl, rfl, ?_⟩
  rcases h with h | h
  · rw [sh_r hm hn h]; exact .inl ⟨h, rfl, rfl⟩
  · rw [sh_l hn h]; exact .inr ⟨h, rfl, rfl⟩
theorem Mk.ext' {a b : Mk} (h1 : a.id = b.id) (h2 : a.fr = b.fr) (h3 : a.to_ = b.to_) (h4 : a.wh = b.wh) : a = b := by
  cases a; cases b; dsimp only at *; subst h1; subst h2; subst h3; subst h4; rfl
theorem disM.symm {m n : Mk} (h : disM m n) : disM n m := Or.symm h
theorem atP_comm {m n : Mk} (hm : m.fr < m.to_) (hn : n.fr < n.to_) (h : disM m n) (q : Int) : atP (shM m n) (atP m q) = atP (shM n m) (atP n q) := by
  rcases h with h | h
  · rw [sh_r hm hn h, sh_l hm h]
    unfold atP shutP
    dsimp only
    repeat' split
    all_goals omega
  · rw [sh_r hn hm h, sh_l hn h]
    unfold atP shutP
    dsimp only
    repeat' split
    all_goals omega
section
variable {e : Ed} {x y z : Mk}
theorem Cls.to (h : Cls e x z) (h1 : y.id = z.id) (h2 : y.fr = z.fr) (h3 : y.to_ = z.to_) (h4 : y.wh = z.wh) : Cls e x y := by rw [Mk.ext' h1 h2 h3 h4]; exact h
theorem Cls.il' (h5 : y.id = x.id) (h6 : y.wh = x.wh) (h1 : e.k = 1) (h2 : x.to_ ≤ e.at_) (h3 : y.fr = x.fr) (h4 : y.to_ = x.to_) : Cls e x y := (Cls.il h1 h2).to h5 h3 h4 h6
theorem Cls.ir' (h5 : y.id = x.id) (h6 : y.wh = x.wh) (h1 : e.k = 1) (h2 : e.at_ ≤ x.fr) (h3 : y.fr = x.fr + e.tx.length) (h4 : y.to_ = x.to_ + e.tx.length) : Cls e x y := (Cls.ir h1 h2).to h5 h3 h4 h6
theorem Cls.no' (h5 : y.id = x.id) (h6 : y.wh = x.wh) (h1 : e.k ≠ 1) (h2 : e.k = 4 ∨ e.len = 0) (h3 : y.fr = x.fr) (h4 : y.to_ = x.to_) : Cls e x y := (Cls.no h1 h2).to h5 h3 h4 h6
theorem Cls.mi' (h5 : y.id = x.id) (h6 : y.wh = x.wh) (h1 : e.k = 3) (h2 : 0 < e.len) (h7 : e.at_ ≤ x.fr) (h8 : x.to_ ≤ e.at_ + e.len) (h3 : y.fr = x.fr + e.to_ - e.at_) (h4 : y.to_ = x.to_ + e.to_ - e.at_) : Cls e x y := (Cls.mi h1 h2 h7 h8).to h5 h3 h4 h6
theorem Cls.dl' (h5 : y.id = x.id) (h6 : y.wh = x.wh) (h1 : e.k = 2) (h2 : 0 < e.len) (h7 : x.to_ ≤ e.at_) (h3 : y.fr = x.fr) (h4 : y.to_ = x.to_) : Cls e x y := (Cls.dl h1 h2 h7).to h5 h3 h4 h6
theorem Cls.dr' (h5 : y.id = x.id) (h6 : y.wh = x.wh) (h1 : e.k = 2) (h2 : 0 < e.len) (h7 : e.at_ + e.len ≤ x.fr) (h3 : y.fr = x.fr - e.len) (h4 : y.to_ = x.to_ - e.len) : Cls e x y := (Cls.dr h1 h2 h7).to h5 h3 h4 h6
theorem Cls.mll' (h5 : y.id = x.id) (h6 : y.wh = x.wh) (h1 : e.k = 3) (h2 : 0 < e.len) (h7 : x.to_ ≤ e.at_) (h8 : x.to_ ≤ e.to_) (h3 : y.fr = x.fr) (h4 : y.to_ = x.to_) : Cls e x y := (Cls.mll h1 h2 h7 h8).to h5 h3 h4 h6
theorem Cls.mlr' (h5 : y.id = x.id) (h6 : y.wh = x.wh) (h1 : e.k = 3) (h2 : 0 < e.len) (h7 : x.to_ ≤ e.at_) (h8 : e.to_ ≤ x.fr) (h3 : y.fr = x.fr + e.len) (h4 : y.to_ = x.to_ + e.len) : Cls e x y := (Cls.mlr h1 h2 h7 h8).to h5 h3 h4 h6
theorem Cls.mrl' (h5 : y.id = x.id) (h6 : y.wh = x.wh) (h1 : e.k = 3) (h2 : 0 < e.len) (h7 : e.at_ + e.len ≤ x.fr) (h8 : x.to_ - e.len ≤ e.to_) (h3 : y.fr = x.fr - e.len) (h4 : y.to_ = x.to_ - e.len) : Cls e x y := (Cls.mrl h1 h2 h7 h8).to h5 h3 h4 h6
theorem Cls.mrr' (h5 : y.id = x.id) (h6 : y.wh = x.wh) (h1 : e.k = 3) (h2 : 0 < e.len) (h7 : e.at_ + e.len ≤ x.fr) (h8 : e.to_ ≤ x.fr - e.len) (h3 : y.fr = x.fr) (h4 : y.to_ = x.to_) : Cls e x y := (Cls.mrr h1 h2 h7 h8).to h5 h3 h4 h6
end
/-- What a whole mark does, in numbers. -/
def Num (e : Ed) (m m' : Mk) : Prop :=
  (e.k = 1 ∧ m.to_ ≤ e.at_ ∧ m'.fr = m.fr ∧ m'.to_ = m.to_) ∨ (e.k = 1 ∧ e.at_ ≤ m.fr ∧ m'.fr = m.fr + e.tx.length ∧ m'.to_ = m.to_ + e.tx.length)
  ∨ (e.k ≠ 1 ∧ (e.k = 4 ∨ e.len = 0) ∧ m'.fr = m.fr ∧ m'.to_ = m.to_)
  ∨ (e.k = 3 ∧ 0 < e.len ∧ e.at_ ≤ m.fr ∧ m.to_ ≤ e.at_ + e.len ∧ m'.fr = m.fr + e.to_ - e.at_ ∧ m'.to_ = m.to_ + e.to_ - e.at_)
  ∨ (e.k = 2 ∧ 0 < e.len ∧ m.to_ ≤ e.at_ ∧ m'.fr = m.fr ∧ m'.to_ = m.to_) ∨ (e.k = 2 ∧ 0 < e.len ∧ e.at_ + e.len ≤ m.fr ∧ m'.fr = m.fr - e.len ∧ m'.to_ = m.to_ - e.len)
  ∨ (e.k = 3 ∧ 0 < e.len ∧ m.to_ ≤ e.at_ ∧ m.to_ ≤ e.to_ ∧ m'.fr = m.fr ∧ m'.to_ = m.to_) ∨ (e.k = 3 ∧ 0 < e.len ∧ m.to_ ≤ e.at_ ∧ e.to_ ≤ m.fr ∧ m'.fr = m.fr + e.len ∧ m'.to_ = m.to_ + e.len)
  ∨ (e.k = 3 ∧ 0 < e.len ∧ e.at_ + e.len ≤ m.fr ∧ m.to_ - e.len ≤ e.to_ ∧ m'.fr = m.fr - e.len ∧ m'.to_ = m.to_ - e.len) ∨ (e.k = 3 ∧ 0 < e.len ∧ e.at_ + e.len ≤ m.fr ∧ e.to_ ≤ m.fr - e.len ∧ m'.fr = m.fr ∧ m'.to_ = m.to_)
theorem Cls.num {e : Ed} {m m' : Mk} (h : Cls e m m') : Num e m m' := by
  unfold Num
  cases h with
  | il h1 h2 => exact .inl ⟨h1, h2, rfl, rfl⟩
  | ir h1 h2 => exact .inr (.inl ⟨h1, h2, rfl, rfl⟩)
  | no h1 h2 => exact .inr (.inr (.inl ⟨h1, h2, rfl, rfl⟩))
  | mi h1 h2 h3 h4 => exact .inr (.inr (.inr (.inl ⟨h1, h2, h3, h4, rfl, rfl⟩)))
  | dl h1 h2 h3 => exact .inr (.inr (.inr (.inr (.inl ⟨h1, h2, h3, rfl, rfl⟩))))
  | dr h1 h2 h3 => exact .inr (.inr (.inr (.inr (.inr (.inl ⟨h1, h2, h3, rfl, rfl⟩)))))
  | mll h1 h2 h3 h4 => exact .inr (.inr (.inr (.inr (.inr (.inr (.inl ⟨h1, h2, h3, h4, rfl, rfl⟩))))))
  | mlr h1 h2 h3 h4 => exact .inr (.inr (.inr (.inr (.inr (.inr (.inr (.inl ⟨h1, h2, h3, h4, rfl, rfl⟩)))))))
  | mrl h1 h2 h3 h4 => exact .inr (.inr (.inr (.inr (.inr (.inr (.inr (.inr (.inl ⟨h1, h2, h3, h4, rfl, rfl⟩))))))))
  | mrr h1 h2 h3 h4 => exact .inr (.inr (.inr (.inr (.inr (.inr (.inr (.inr (.inr ⟨h1, h2, h3, h4, rfl, rfl⟩))))))))
/-- The moved edit, in numbers. -/
def NumE (e : Ed) (m : Mk) (e' : Ed) : Prop :=
  (e.k = 1 ∧ m.to_ ≤ e.at_ ∧ e'.at_ = e.at_ - (m.to_ - m.fr)) ∨ (e.k = 1 ∧ e.at_ ≤ m.fr ∧ e'.at_ = e.at_)
  ∨ (e.k = 4) ∨ (e.k = 2 ∧ e.len = 0 ∧ e'.len = 0) ∨ (e.k = 3 ∧ e.len = 0 ∧ e'.len = 0 ∧ e'.to_ = atP m e.to_)
  ∨ (e.k = 3 ∧ 0 < e.len ∧ e.at_ ≤ m.fr ∧ m.to_ ≤ e.at_ + e.len ∧ e'.at_ = e.at_ ∧ e'.len = e.len - (m.to_ - m.fr) ∧ e'.to_ = e.to_)
  ∨ (e.k = 2 ∧ 0 < e.len ∧ m.to_ ≤ e.at_ ∧ e'.at_ = e.at_ - (m.to_ - m.fr) ∧ e'.len = e.len) ∨ (e.k = 2 ∧ 0 < e.len ∧ e.at_ + e.len ≤ m.fr ∧ e'.at_ = e.at_ ∧ e'.len = e.len)
  ∨ (e.k = 3 ∧ 0 < e.len ∧ m.to_ ≤ e.at_ ∧ m.to_ ≤ e.to_ ∧ e'.at_ = e.at_ - (m.to_ - m.fr) ∧ e'.len = e.len ∧ e'.to_ = e.to_ - (m.to_ - m.fr)) ∨ (e.k = 3 ∧ 0 < e.len ∧ m.to_ ≤ e.at_ ∧ e.to_ ≤ m.fr ∧ e'.at_ = e.at_ - (m.to_ - m.fr) ∧ e'.len = e.len ∧ e'.to_ = e.to_)
  ∨ (e.k = 3 ∧ 0 < e.len ∧ e.at_ + e.len ≤ m.fr ∧ m.to_ - e.len ≤ e.to_ ∧ e'.at_ = e.at_ ∧ e'.len = e.len ∧ e'.to_ = e.to_ - (m.to_ - m.fr)) ∨ (e.k = 3 ∧ 0 < e.len ∧ e.at_ + e.len ≤ m.fr ∧ e.to_ ≤ m.fr - e.len ∧ e'.at_ = e.at_ ∧ e'.len = e.len ∧ e'.to_ = e.to_)
theorem MvE.num {e e' : Ed} {m : Mk} (h : MvE e m e') : NumE e m e' := by
  unfold NumE
  cases h with
  | il h1 h2 => exact .inl ⟨h1, h2, rfl⟩
  | ir h1 h2 => exact .inr (.inl ⟨h1, h2, rfl⟩)
  | no4 h1 => exact .inr (.inr (.inl h1))
  | no2 h1 h2 => exact .inr (.inr (.inr (.inl ⟨h1, h2, rfl⟩)))
  | no3 h1 h2 => exact .inr (.inr (.inr (.inr (.inl ⟨h1, h2, rfl, rfl⟩))))
  | mi h1 h2 h3 h4 => exact .inr (.inr (.inr (.inr (.inr (.inl ⟨h1, h2, h3, h4, rfl, rfl, rfl⟩)))))
  | dl h1 h2 h3 => exact .inr (.inr (.inr (.inr (.inr (.inr (.inl ⟨h1, h2, h3, rfl, rfl⟩))))))
  | dr h1 h2 h3 => exact .inr (.inr (.inr (.inr (.inr (.inr (.inr (.inl ⟨h1, h2, h3, rfl, rfl⟩)))))))
  | mll h1 h2 h3 h4 => exact .inr (.inr (.inr (.inr (.inr (.inr (.inr (.inr (.inl ⟨h1, h2, h3, h4, rfl, rfl, rfl⟩))))))))
  | mlr h1 h2 h3 h4 => exact .inr (.inr (.inr (.inr (.inr (.inr (.inr (.inr (.inr (.inl ⟨h1, h2, h3, h4, rfl, rfl, rfl⟩)))))))))
  | mrl h1 h2 h3 h4 => exact .inr (.inr (.inr (.inr (.inr (.inr (.inr (.inr (.inr (.inr (.inl ⟨h1, h2, h3, h4, rfl, rfl, rfl⟩))))))))))
  | mrr h1 h2 h3 h4 => exact .inr (.inr (.inr (.inr (.inr (.inr (.inr (.inr (.inr (.inr (.inr ⟨h1, h2, h3, h4, rfl, rfl, rfl⟩))))))))))
set_option maxHeartbeats 4000000 in
theorem dis_cls {e : Ed} {m n m' n' : Mk} {N : Int} (hm : okM N m) (hn : okM N n) (hp : possE e N) (hd : disM m n) (h1 : Cls e m m') (h2 : Cls e n n') : disM m' n' := by
  have hnn := hp.nums
  unfold okM at hm hn
  unfold disM at hd ⊢
  have a := h1.num
  have b := h2.num
  unfold Num at a b
  rcases a with a | a | a | a | a | a | a | a | a | a <;> rcases b with b | b | b | b | b | b | b | b | b | b <;> first | (exfalso; clear hnn; omega) | omega
set_option maxHeartbeats 8000000 in
/-- A second mark that stays whole stays whole in the moved edit. -/
theorem cls_sh {e : Ed} {m n m' n' : Mk} {N : Int} (hm : okM N m) (hn : okM N n) (hp : possE e N) (hd : disM m n) (h1 : Cls e m m') (h2 : Cls e n n') : Cls (movE e m) (shM m n) (shM m' n') := by
  have hnn := hp.nums
  have hd' := dis_cls hm hn hp hd h1 h2
  have hmv := (h1.mv (by unfold okM at hm; omega) hp).num
  have hw1 := h1.wh
  have hw2 := h2.wh
  have hk := movE_k e m
  have htx : (movE e m).tx.length = e.tx.length := by rw [movE_tx]
  unfold okM at hm hn
  have hx := sh_num (by omega) (by omega) hd
  have hy := sh_num (m := m') (n := n') (by omega) (by omega) hd'
  have a := h1.num
  have b := h2.num
  generalize shM m n = x at hx ⊢
  generalize shM m' n' = y at hy ⊢
  generalize movE e m = e' at hk htx hmv ⊢
  obtain ⟨hx1, hx2, hx⟩ := hx
  obtain ⟨hy1, hy2, hy⟩ := hy
  have i1 : y.id = x.id := by rw [hy1, hx1, hw2.2.1]
  have i2 : y.wh = x.wh := by rw [hy2, hx2, hw2.1]
  unfold Num at a b
  unfold NumE at hmv
  by_cases hz : e.len = m.to_ - m.fr
  · rcases b with b | b | b | b | b | b | b | b | b | b <;> rcases hmv with c | c | c | c | c | c | c | c | c | c | c | c <;> first
      | (exfalso; clear a hx hy hnn hd; omega)
      | (rcases a with a | a | a | a | a | a | a | a | a | a <;> first
        | (exfalso; clear hx hy hnn hd; omega)
        | (rcases hx with hx | hx <;> rcases hy with hy | hy <;> first
          | (exfalso; omega)
          | exact Cls.il' i1 i2 (by omega) (by omega) (by omega) (by omega)
          | exact Cls.ir' i1 i2 (by omega) (by omega) (by omega) (by omega)
          | exact Cls.no' i1 i2 (by omega) (by omega) (by omega) (by omega)
          | exact Cls.dl' i1 i2 (by omega) (by omega) (by omega) (by omega) (by omega)
          | exact Cls.dr' i1 i2 (by omega) (by omega) (by omega) (by omega) (by omega)
          | exact Cls.mi' i1 i2 (by omega) (by omega) (by omega) (by omega) (by omega) (by omega)
          | exact Cls.mll' i1 i2 (by omega) (by omega) (by omega) (by omega) (by omega) (by omega)
          | exact Cls.mlr' i1 i2 (by omega) (by omega) (by omega) (by omega) (by omega) (by omega)
          | exact Cls.mrl' i1 i2 (by omega) (by omega) (by omega) (by omega) (by omega) (by omega)
          | exact Cls.mrr' i1 i2 (by omega) (by omega) (by omega) (by omega) (by omega) (by omega)))
  · rcases b with b | b | b | b | b | b | b | b | b | b <;> rcases hmv with c | c | c | c | c | c | c | c | c | c | c | c <;> first
      | (exfalso; clear a hx hy hnn hd; omega)
      | (rcases a with a | a | a | a | a | a | a | a | a | a <;> first
        | (exfalso; clear hx hy hnn hd; omega)
        | (rcases hx with hx | hx <;> rcases hy with hy | hy <;> first
          | (exfalso; omega)
          | exact Cls.il' i1 i2 (by omega) (by omega) (by omega) (by omega)
          | exact Cls.ir' i1 i2 (by omega) (by omega) (by omega) (by omega)
          | exact Cls.no' i1 i2 (by omega) (by omega) (by omega) (by omega)
          | exact Cls.dl' i1 i2 (by omega) (by omega) (by omega) (by omega) (by omega)
          | exact Cls.dr' i1 i2 (by omega) (by omega) (by omega) (by omega) (by omega)
          | exact Cls.mi' i1 i2 (by omega) (by omega) (by omega) (by omega) (by omega) (by omega)
          | exact Cls.mll' i1 i2 (by omega) (by omega) (by omega) (by omega) (by omega) (by omega)
          | exact Cls.mlr' i1 i2 (by omega) (by omega) (by omega) (by omega) (by omega) (by omega)
          | exact Cls.mrl' i1 i2 (by omega) (by omega) (by omega) (by omega) (by omega) (by omega)
          | exact Cls.mrr' i1 i2 (by omega) (by omega) (by omega) (by omega) (by omega) (by omega)))
set_option maxHeartbeats 8000000 in
/-- Two pieces may be left out in either order. -/
theorem moved_comm {e : Ed} {m n m' n' : Mk} {N N1 N2 : Int} (hm : okM N m) (hn : okM N n) (hp : possE e N) (hd : disM m n) (h1 : Cls e m m') (h2 : Cls e n n') (hp1 : possE (movE e m) N1) (hp2 : possE (movE e n) N2) : movE (movE e m) (shM m n) = movE (movE e n) (shM n m) := by
  have c1 := cls_sh hm hn hp hd h1 h2
  have c2 := cls_sh hn hm hp hd.symm h2 h1
  unfold okM at hm hn
  have hx := sh_num (m := m) (n := n) (by omega) (by omega) hd
  have hz := sh_num (m := n) (n := m) (by omega) (by omega) hd.symm
  have comm := atP_comm (m := m) (n := n) (by omega) (by omega) hd
  refine Ed.ext' (by rw [movE_k, movE_k, movE_k, movE_k]) ?_ ?_ ?_ (by rw [movE_tx, movE_tx, movE_tx, movE_tx])
  · rw [movE_at, movE_at, movE_at, movE_at, comm]
  · by_cases hk : e.k = 1
    · rw [movE_len1 (by rw [movE_k, hk]), movE_len1 hk, movE_len1 (by rw [movE_k, hk]), movE_len1 hk]
    · rw [movE_len (by rw [movE_k]; exact hk), movE_len hk, movE_len (by rw [movE_k]; exact hk), movE_len hk, movE_at, movE_at, comm]
      rw [show atP m e.at_ + (atP m (e.at_ + e.len) - atP m e.at_) = atP m (e.at_ + e.len) by omega, show atP n e.at_ + (atP n (e.at_ + e.len) - atP n e.at_) = atP n (e.at_ + e.len) by omega, comm]
  · by_cases hk : e.k = 3
    · by_cases hl : e.len = 0
      · have l1 : (movE e m).len = 0 := by rw [movE_len (by omega), hl, Int.add_zero, Int.sub_self]
        have l2 : (movE e n).len = 0 := by rw [movE_len (by omega), hl, Int.add_zero, Int.sub_self]
        rw [movE_to0 (by rw [movE_k]; exact hk) l1, movE_to0 (by rw [movE_k]; exact hk) l2, movE_to0 hk hl, movE_to0 hk hl, comm]
      · have t1 := (h1.mv (by omega) hp).num
        have t2 := (h2.mv (by omega) hp).num
        have t3 := (c1.mv (by omega) hp1).num
        have t4 := (c2.mv (by omega) hp2).num
        have hk1 := movE_k e m
        have hk2 := movE_k e n
        have lo1 : (movE e m).to_ ≤ (shM m n).fr → atP (shM m n) (movE e m).to_ = (movE e m).to_ := fun h => atP_lo h
        have hi1 : (shM m n).to_ ≤ (movE e m).to_ → atP (shM m n) (movE e m).to_ = (movE e m).to_ - ((shM m n).to_ - (shM m n).fr) := fun h => atP_hi (by omega) h
        have lo2 : (movE e n).to_ ≤ (shM n m).fr → atP (shM n m) (movE e n).to_ = (movE e n).to_ := fun h => atP_lo h
        have hi2 : (shM n m).to_ ≤ (movE e n).to_ → atP (shM n m) (movE e n).to_ = (movE e n).to_ - ((shM n m).to_ - (shM n m).fr) := fun h => atP_hi (by omega) h
        have b1 := h1.num
        have b2 := h2.num
        unfold Num at b1 b2
        unfold NumE at t1 t2 t3 t4
        generalize (movE (movE e m) (shM m n)) = E1 at t3 ⊢
        generalize (movE (movE e n) (shM n m)) = E2 at t4 ⊢
        generalize movE e m = e1 at *
        generalize movE e n = e2 at *
        generalize shM m n = x at *
        generalize shM n m = z at *
        have hx := hx.2.2
        have hz := hz.2.2
        clear c1 c2 comm hp hp1 hp2 h1 h2
        rcases t1 with t1 | t1 | t1 | t1 | t1 | t1 | t1 | t1 | t1 | t1 | t1 | t1 <;> first
          | (exfalso; clear t2 t3 t4 b1 b2 hx hz hd lo1 lo2 hi1 hi2; omega)
          | (rcases t2 with t2 | t2 | t2 | t2 | t2 | t2 | t2 | t2 | t2 | t2 | t2 | t2 <;> first
            | (exfalso; clear t3 t4 b1 b2 hx hz lo1 lo2 hi1 hi2; omega)
            | (rcases hx with hx | hx <;> rcases hz with hz | hz <;> first
              | (exfalso; clear t3 t4 b1 b2 lo1 lo2 hi1 hi2; omega)
              | (rcases t3 with t3 | t3 | t3 | t3 | t3 | t3 | t3 | t3 | t3 | t3 | t3 | t3 <;> first
                | (exfalso; clear t4 b1 b2 lo1 lo2 hi1 hi2; omega)
                | (rcases t4 with t4 | t4 | t4 | t4 | t4 | t4 | t4 | t4 | t4 | t4 | t4 | t4 <;> first
                  | (exfalso; clear b1 b2 lo1 lo2 hi1 hi2; omega)
                  | omega))))
    · rw [movE_to (by rw [movE_k]; exact hk), movE_to hk, movE_to (by rw [movE_k]; exact hk), movE_to hk]
end Go.Proofs.Ytbiohkncdlhigaa
namespace Go.Proofs.Ytbiohkncdlhigaa
open Go Go.RowKit

def backE (e : Ed) : Ed := if e.k = 1 then ⟨2, e.at_, e.tx.length, 0, []⟩ else ⟨3, e.to_, e.len, e.at_, []⟩
theorem rest_poss {s : List UInt8} {e : Ed} (h : possE e s.length) (hk : e.k = 1 ∨ e.k = 3) : possE (backE e) (applyT s e).length := by
  have hn := h.nums
  have hl := applyT_length h
  unfold backE
  by_cases h1 : e.k = 1
  · rw [if_pos h1]
    exact ⟨by dsimp only; omega, by dsimp only; omega, .inr (.inl ⟨.inl rfl, by dsimp only; omega, by dsimp only; omega⟩)⟩
  · rw [if_neg h1]
    exact ⟨by dsimp only; omega, by dsimp only; omega, .inr (.inr ⟨rfl, by dsimp only; omega, by dsimp only; omega, by dsimp only; omega, by dsimp only; omega⟩)⟩
theorem del_ins {s t : List UInt8} {a : Nat} (ha : a ≤ s.length) : delT (insT s a t) a t.length = s := by
  apply List.ext_getElem?
  intro j
  rw [delT_get (by rw [insT_length ha]; omega)]
  by_cases h : j < a
  · rw [if_pos h, insT_get ha, if_pos h]
  · rw [if_neg h, insT_get ha, if_neg (by omega), if_neg (by omega)]
    congr 1
    omega
theorem ins_take {s t : List UInt8} {q : Nat} (hq : q ≤ s.length) : ((insT s q t).take (q + t.length)).drop q = t := by
  unfold insT
  have hl : (s.take q).length = q := by simp; omega
  rw [List.take_append_of_le_length (by simp; omega), List.take_of_length_le (by simp; omega), List.drop_append_of_le_length (by omega), List.drop_eq_nil_of_le (by omega)]
  rfl
theorem ins_del {s : List UInt8} {a l : Nat} (h : a + l ≤ s.length) : insT (delT s a l) a ((s.take (a + l)).drop a) = s := by
  apply List.ext_getElem?
  intro j
  have hd := piece_len h
  have hl := delT_length h
  rw [insT_get (by omega), hd]
  by_cases h1 : j < a
  · rw [if_pos h1, delT_get (by omega), if_pos h1]
  · rw [if_neg h1]
    by_cases h2 : j < a + l
    · rw [if_pos h2, List.getElem?_drop, List.getElem?_take_of_lt (by omega)]
      congr 1
      omega
    · rw [if_neg h2, delT_get (by omega), if_neg (by omega)]
      congr 1
      omega
theorem rest_text {s : List UInt8} {e : Ed} (h : possE e s.length) (hk : e.k = 1 ∨ e.k = 3) : applyT (applyT s e) (backE e) = s := by
  have hn := h.nums
  unfold backE
  by_cases h1 : e.k = 1
  · rw [if_pos h1, applyT_del rfl, applyT_ins h1]
    dsimp only
    rw [Int.toNat_natCast]
    exact del_ins (by omega)
  · rw [if_neg h1, applyT_mov rfl, applyT_mov (by omega)]
    dsimp only
    have hd := piece_len (s := s) (a := e.at_.toNat) (l := e.len.toNat) (by omega)
    have hl := delT_length (s := s) (i := e.at_.toNat) (n := e.len.toNat) (by omega)
    have hx := del_ins (s := delT s e.at_.toNat e.len.toNat) (t := (s.take (e.at_.toNat + e.len.toNat)).drop e.at_.toNat) (a := e.to_.toNat) (by omega)
    have hy := ins_take (s := delT s e.at_.toNat e.len.toNat) (t := (s.take (e.at_.toNat + e.len.toNat)).drop e.at_.toNat) (q := e.to_.toNat) (by omega)
    rw [hd] at hx hy
    rw [hx, hy]
    exact ins_del (by omega)
/-- Which marks come back as they were. -/
def keptP (e : Ed) (m : Mk) : Prop := (e.k = 1 ∧ (m.to_ ≤ e.at_ ∨ e.at_ ≤ m.fr)) ∨ (e.k = 3 ∧ e.at_ ≤ m.fr ∧ m.to_ ≤ e.at_ + e.len)
theorem without_lo {m : Mk} {a l : Int} (h1 : m.fr < m.to_) (h : m.to_ ≤ a) : withoutM m a l = m := by
  obtain ⟨mi, f, t, w⟩ := m
  dsimp only at h h1
  unfold withoutM shutP
  dsimp only
  rw [if_pos h, if_pos (by omega : f ≤ a), decide_eq_true rfl, Bool.and_true]
theorem without_hi {m : Mk} {a l : Int} (h1 : m.fr < m.to_) (hl : 0 < l) (h : a ≤ m.fr) : withoutM ⟨m.id, m.fr + l, m.to_ + l, m.wh⟩ a l = m := by
  obtain ⟨mi, f, t, w⟩ := m
  dsimp only at h h1 ⊢
  have e1 : shutP (f + l) a l = f := by
    unfold shutP
    rw [if_neg (by omega)]
    split <;> omega
  have e2 : shutP (t + l) a l = t := by
    unfold shutP
    rw [if_neg (by omega), if_neg (by omega)]
    omega
  unfold withoutM
  dsimp only
  rw [e1, e2, decide_eq_true (by omega), Bool.and_true]
theorem rest_mark {m : Mk} {e : Ed} {s : List UInt8} (hm : okM s.length m) (h : possE e s.length) (hk : keptP e m) : (carryM m e).2 = true ∧ carryM (carryM m e).1 (backE e) = (m, true) := by
  have hn := h.nums
  unfold okM at hm
  unfold backE
  rcases hk with ⟨h1, hk⟩ | ⟨h1, hk1, hk2⟩
  · rw [if_pos h1, carryM_ins h1]
    refine ⟨rfl, ?_⟩
    dsimp only
    by_cases c : m.to_ ≤ e.at_
    · rw [openM_lo c, carryM_out (show (2 : Int) ≠ 1 by decide) (by dsimp only; omega) (by dsimp only; omega)]
      dsimp only
      rw [without_lo hm.2.2.1 c, if_neg (by omega), if_neg (show ¬ (2 : Int) = 3 by decide)]
    · rw [openM_hi c (by omega), carryM_out (show (2 : Int) ≠ 1 by decide) (by dsimp only; omega) (by dsimp only; omega)]
      dsimp only
      rw [without_hi hm.2.2.1 (by omega) (by omega), if_neg (by omega), if_neg (show ¬ (2 : Int) = 3 by decide)]
  · rw [if_neg (by omega), carryM_in (by omega) (by omega) ⟨h1, hk1, hk2⟩]
    refine ⟨rfl, ?_⟩
    rw [carryM_in (show (3 : Int) ≠ 1 by decide) (by dsimp only; omega) ⟨rfl, by dsimp only; omega, by dsimp only; omega⟩]
    obtain ⟨mi, f, t, w⟩ := m
    dsimp only
    congr 2 <;> omega
theorem carryL_mem {ms : List Mk} {e : Ed} {m : Mk} (hm : m ∈ ms) (hc : (carryM m e).2 = true) : (carryM m e).1 ∈ carryL ms e := by
  unfold carryL
  exact List.mem_filterMap.2 ⟨m, hm, by rw [if_pos hc]⟩
theorem rest_mem {ms : List Mk} {m : Mk} {e : Ed} {s : List UInt8} (hmm : m ∈ ms) (hm : okM s.length m) (h : possE e s.length) (hk : keptP e m) : m ∈ carryL (carryL ms e) (backE e) := by
  obtain ⟨h1, h2⟩ := rest_mark hm h hk
  have h3 := carryL_mem hmm h1
  have h4 := carryL_mem (e := backE e) h3 (by rw [h2])
  rwa [h2] at h4
end Go.Proofs.Ytbiohkncdlhigaa

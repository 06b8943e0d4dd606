/-
  The plain side of the layer of undoing: edits in a text without the piece of a whole mark; two such marks. Conditions: none.
-/
import Derived.Test.YtbiohkncdlhigaaMU0
namespace Go.Proofs.Ytbiohkncdlhigaa
open Go Go.RowKit

theorem cutT_eq {s : List UInt8} {m : Mk} {f k : Nat} (h1 : m.fr = (f : Int)) (h2 : m.to_ = (f : Int) + k) : cutT s m = delT s f k := by
  unfold cutT
  rw [h1, h2]
  congr 1
  omega
theorem possE.ins {e : Ed} {n : Int} (h : possE e n) (h1 : e.k = 1) {a l t n' : Int} (h2 : 0 ≤ a) (h3 : a ≤ n') : possE ⟨1, a, l, t, e.tx⟩ n' := by
  obtain ⟨_, _, g | g | g⟩ := h
  · exact ⟨h2, h3, .inl ⟨rfl, g.2.1, g.2.2.1, g.2.2.2⟩⟩
  · omega
  · omega
theorem possE.del {k a l t n : Int} {x : List UInt8} (hk : k = 2 ∨ k = 4) (h1 : 0 ≤ a) (h2 : a ≤ n) (h3 : 0 ≤ l) (h4 : l ≤ n - a) : possE ⟨k, a, l, t, x⟩ n := ⟨h1, h2, .inr (.inl ⟨hk, h3, h4⟩)⟩
theorem possE.mov {a l t n : Int} {x : List UInt8} (h1 : 0 ≤ a) (h2 : a ≤ n) (h3 : 0 ≤ l) (h4 : l ≤ n - a) (h5 : 0 ≤ t) (h6 : t ≤ n - l) : possE ⟨3, a, l, t, x⟩ n := ⟨h1, h2, .inr (.inr ⟨rfl, h3, h4, h5, h6⟩)⟩
theorem carry_del0 {m : Mk} {a t : Int} {x : List UInt8} : (carryM m ⟨2, a, 0, t, x⟩).1 = m := by rw [carryM_not (by simp) (.inr rfl)]
theorem carry_dell {m : Mk} {a l t : Int} {x : List UInt8} (hm : m.fr < m.to_) (hl : 0 < l) (h : m.to_ ≤ a) : (carryM m ⟨2, a, l, t, x⟩).1 = m := by rw [(Cls.dl (e := ⟨2, a, l, t, x⟩) rfl hl h).carry hm]
theorem carry_delr {m : Mk} {a l t : Int} {x : List UInt8} (hm : m.fr < m.to_) (hl : 0 < l) (h : a + l ≤ m.fr) : (carryM m ⟨2, a, l, t, x⟩).1 = ⟨m.id, m.fr - l, m.to_ - l, m.wh⟩ := by rw [(Cls.dr (e := ⟨2, a, l, t, x⟩) rfl hl h).carry hm]
theorem movE_k (e : Ed) (m : Mk) : (movE e m).k = e.k := by unfold movE; split <;> rfl
theorem movE_tx (e : Ed) (m : Mk) : (movE e m).tx = e.tx := by unfold movE; split <;> rfl
theorem movE_at (e : Ed) (m : Mk) : (movE e m).at_ = atP m e.at_ := by unfold movE; split <;> rfl
theorem movE_len {e : Ed} {m : Mk} (h : e.k ≠ 1) : (movE e m).len = atP m (e.at_ + e.len) - atP m e.at_ := by unfold movE; rw [if_neg h]
theorem movE_len1 {e : Ed} {m : Mk} (h : e.k = 1) : (movE e m).len = e.len := by unfold movE; rw [if_pos h]
theorem movE_to {e : Ed} {m : Mk} (h : e.k ≠ 3) : (movE e m).to_ = e.to_ := by
  unfold movE
  split
  · rfl
  · dsimp only
    rw [if_neg (by omega)]
theorem movE_to0 {e : Ed} {m : Mk} (h : e.k = 3) (hl : e.len = 0) : (movE e m).to_ = atP m e.to_ := by
  unfold movE
  rw [if_neg (by omega)]
  dsimp only
  rw [if_pos ⟨h, .inl hl⟩, hl, carry_del0]
theorem movE_toi {e : Ed} {m : Mk} (_h : e.k = 3) (hl : 0 < e.len) (h1 : e.at_ ≤ m.fr) (h2 : m.to_ ≤ e.at_ + e.len) : (movE e m).to_ = e.to_ := by
  unfold movE
  rw [if_neg (by omega)]
  dsimp only
  rw [if_neg (by omega)]
theorem movE_tol {e : Ed} {m : Mk} (hm : m.fr < m.to_) (h : e.k = 3) (hl : 0 < e.len) (h1 : m.to_ ≤ e.at_) : (movE e m).to_ = atP m e.to_ := by
  unfold movE
  rw [if_neg (by omega)]
  dsimp only
  rw [if_pos ⟨h, .inr (.inl (by omega))⟩, carry_dell hm hl h1]
theorem movE_tor {e : Ed} {m : Mk} (hm : m.fr < m.to_) (h : e.k = 3) (hl : 0 < e.len) (h1 : e.at_ + e.len ≤ m.fr) : (movE e m).to_ = atP ⟨m.id, m.fr - e.len, m.to_ - e.len, m.wh⟩ e.to_ := by
  unfold movE
  rw [if_neg (by omega)]
  dsimp only
  rw [if_pos ⟨h, .inr (.inr (by omega))⟩, carry_delr hm hl h1]
theorem Ed.ext' {a b : Ed} (h1 : a.k = b.k) (h2 : a.at_ = b.at_) (h3 : a.len = b.len) (h4 : a.to_ = b.to_) (h5 : a.tx = b.tx) : a = b := by
  cases a; cases b; dsimp only at *; subst h1; subst h2; subst h3; subst h4; subst h5; rfl
/-- The moved edit, case by case. -/
inductive MvE (e : Ed) (m : Mk) : Ed → Prop
  | il : e.k = 1 → m.to_ ≤ e.at_ → MvE e m ⟨1, e.at_ - (m.to_ - m.fr), e.len, e.to_, e.tx⟩
  | ir : e.k = 1 → e.at_ ≤ m.fr → MvE e m ⟨1, e.at_, e.len, e.to_, e.tx⟩
  | no4 : e.k = 4 → MvE e m ⟨4, atP m e.at_, atP m (e.at_ + e.len) - atP m e.at_, e.to_, e.tx⟩
  | no2 : e.k = 2 → e.len = 0 → MvE e m ⟨2, atP m e.at_, 0, e.to_, e.tx⟩
  | no3 : e.k = 3 → e.len = 0 → MvE e m ⟨3, atP m e.at_, 0, atP m e.to_, e.tx⟩
  | mi : e.k = 3 → 0 < e.len → e.at_ ≤ m.fr → m.to_ ≤ e.at_ + e.len → MvE e m ⟨3, e.at_, e.len - (m.to_ - m.fr), e.to_, e.tx⟩
  | dl : e.k = 2 → 0 < e.len → m.to_ ≤ e.at_ → MvE e m ⟨2, e.at_ - (m.to_ - m.fr), e.len, e.to_, e.tx⟩
  | dr : e.k = 2 → 0 < e.len → e.at_ + e.len ≤ m.fr → MvE e m ⟨2, e.at_, e.len, e.to_, e.tx⟩
  | mll : e.k = 3 → 0 < e.len → m.to_ ≤ e.at_ → m.to_ ≤ e.to_ → MvE e m ⟨3, e.at_ - (m.to_ - m.fr), e.len, e.to_ - (m.to_ - m.fr), e.tx⟩
  | mlr : e.k = 3 → 0 < e.len → m.to_ ≤ e.at_ → e.to_ ≤ m.fr → MvE e m ⟨3, e.at_ - (m.to_ - m.fr), e.len, e.to_, e.tx⟩
  | mrl : e.k = 3 → 0 < e.len → e.at_ + e.len ≤ m.fr → m.to_ - e.len ≤ e.to_ → MvE e m ⟨3, e.at_, e.len, e.to_ - (m.to_ - m.fr), e.tx⟩
  | mrr : e.k = 3 → 0 < e.len → e.at_ + e.len ≤ m.fr → e.to_ ≤ m.fr - e.len → MvE e m ⟨3, e.at_, e.len, e.to_, e.tx⟩
theorem Cls.mv {e : Ed} {m m' : Mk} {n : Int} (hm : m.fr < m.to_) (hp : possE e n) (h : Cls e m m') : MvE e m (movE e m) := by
  have hn := hp.nums
  have key : ∀ e' : Ed, MvE e m e' → (movE e m).k = e'.k → (movE e m).at_ = e'.at_ → (movE e m).len = e'.len → (movE e m).to_ = e'.to_ → (movE e m).tx = e'.tx → MvE e m (movE e m) := fun e' h6 h1 h2 h3 h4 h5 => by rw [Ed.ext' h1 h2 h3 h4 h5]; exact h6
  have lo : ∀ q, q ≤ m.fr → atP m q = q := fun q h => atP_lo h
  have hi : ∀ q, m.to_ ≤ q → atP m q = q - (m.to_ - m.fr) := fun q h => atP_hi (by omega) h
  cases h with
  | il h1 h2 => exact key _ (.il h1 h2) ((movE_k ..).trans h1) ((movE_at ..).trans (hi _ h2)) (movE_len1 h1) (movE_to (by omega)) (movE_tx ..)
  | ir h1 h2 => exact key _ (.ir h1 h2) ((movE_k ..).trans h1) ((movE_at ..).trans (lo _ h2)) (movE_len1 h1) (movE_to (by omega)) (movE_tx ..)
  | no h1 h2 =>
    by_cases h4 : e.k = 4
    · exact key _ (.no4 h4) ((movE_k ..).trans h4) (movE_at ..) (movE_len h1) (movE_to (by omega)) (movE_tx ..)
    · have hl : e.len = 0 := by omega
      by_cases h5 : e.k = 2
      · exact key _ (.no2 h5 hl) ((movE_k ..).trans h5) (movE_at ..) (by rw [movE_len h1, hl, Int.add_zero]; exact Int.sub_self _) (movE_to (by omega)) (movE_tx ..)
      · have h6 : e.k = 3 := by omega
        exact key _ (.no3 h6 hl) ((movE_k ..).trans h6) (movE_at ..) (by rw [movE_len h1, hl, Int.add_zero]; exact Int.sub_self _) (movE_to0 h6 hl) (movE_tx ..)
  | mi h1 h2 h3 h4 => exact key _ (.mi h1 h2 h3 h4) ((movE_k ..).trans h1) ((movE_at ..).trans (lo _ h3)) (by rw [movE_len (by omega), lo _ h3, hi _ h4]; dsimp only; omega) (movE_toi h1 h2 h3 h4) (movE_tx ..)
  | dl h1 h2 h3 => exact key _ (.dl h1 h2 h3) ((movE_k ..).trans h1) ((movE_at ..).trans (hi _ h3)) (by rw [movE_len (by omega), hi _ h3, hi _ (by omega)]; dsimp only; omega) (movE_to (by omega)) (movE_tx ..)
  | dr h1 h2 h3 => exact key _ (.dr h1 h2 h3) ((movE_k ..).trans h1) ((movE_at ..).trans (lo _ (by omega))) (by rw [movE_len (by omega), lo _ (by omega), lo _ (by omega)]; dsimp only; omega) (movE_to (by omega)) (movE_tx ..)
  | mll h1 h2 h3 h4 => exact key _ (.mll h1 h2 h3 h4) ((movE_k ..).trans h1) ((movE_at ..).trans (hi _ h3)) (by rw [movE_len (by omega), hi _ h3, hi _ (by omega)]; dsimp only; omega) (by rw [movE_tol hm h1 h2 h3, hi _ h4]) (movE_tx ..)
  | mlr h1 h2 h3 h4 => exact key _ (.mlr h1 h2 h3 h4) ((movE_k ..).trans h1) ((movE_at ..).trans (hi _ h3)) (by rw [movE_len (by omega), hi _ h3, hi _ (by omega)]; dsimp only; omega) (by rw [movE_tol hm h1 h2 h3, lo _ h4]) (movE_tx ..)
  | mrl h1 h2 h3 h4 => exact key _ (.mrl h1 h2 h3 h4) ((movE_k ..).trans h1) ((movE_at ..).trans (lo _ (by omega))) (by rw [movE_len (by omega), lo _ (by omega), lo _ (by omega)]; dsimp only; omega) (by rw [movE_tor hm h1 h2 h3, atP_hi (by dsimp only; omega) (by dsimp only; omega)]; dsimp only; omega) (movE_tx ..)
  | mrr h1 h2 h3 h4 => exact key _ (.mrr h1 h2 h3 h4) ((movE_k ..).trans h1) ((movE_at ..).trans (lo _ (by omega))) (by rw [movE_len (by omega), lo _ (by omega), lo _ (by omega)]; dsimp only; omega) (by rw [movE_tor hm h1 h2 h3, atP_lo (by dsimp only; omega)]) (movE_tx ..)
theorem atP_rng {m : Mk} {q n : Int} (h0 : 0 ≤ m.fr) (h1 : m.fr < m.to_) (h2 : m.to_ ≤ n) (hq : 0 ≤ q ∧ q ≤ n) : 0 ≤ atP m q ∧ atP m q ≤ n - (m.to_ - m.fr) := by
  unfold atP shutP
  split
  · omega
  · split <;> omega
theorem atP_mono {m : Mk} {p q : Int} (h1 : m.fr < m.to_) (hq : p ≤ q) : atP m p ≤ atP m q := shutP_mono (by omega) hq
/-- The moved edit does in the text without the piece what the edit does in the text. -/
theorem cut_apply {e : Ed} {m m' : Mk} {s : List UInt8} (hm : okM s.length m) (hp : possE e s.length) (h : Cls e m m') : possE (movE e m) (cutT s m).length ∧ applyT (cutT s m) (movE e m) = cutT (applyT s e) m' := by
  have hn := hp.nums
  unfold okM at hm
  obtain ⟨f, hf⟩ : ∃ f : Nat, m.fr = (f : Int) := ⟨m.fr.toNat, by omega⟩
  obtain ⟨k, hk⟩ : ∃ k : Nat, m.to_ = (f : Int) + k := ⟨(m.to_ - m.fr).toNat, by omega⟩
  have hmv := h.mv (by omega) hp
  have hl0 := delT_length (s := s) (i := f) (n := k) (by omega)
  rw [cutT_eq hf hk]
  generalize movE e m = e' at hmv ⊢
  cases hmv with
  | il h1 h2 =>
    have hm' : m = m' := by cases h <;> first | rfl | omega
    subst hm'
    rw [applyT_ins rfl, applyT_ins h1, cutT_eq hf hk]
    exact ⟨hp.ins h1 (by omega) (by omega), cut_ins (by omega) (by omega) (.inl (by dsimp only; omega))⟩
  | ir h1 h2 =>
    have hm' : m' = ⟨m.id, m.fr + e.tx.length, m.to_ + e.tx.length, m.wh⟩ := by cases h <;> first | rfl | omega
    subst hm'
    rw [applyT_ins rfl, applyT_ins h1, cutT_eq (f := f + e.tx.length) (k := k) (by dsimp only; omega) (by dsimp only; omega)]
    exact ⟨hp.ins h1 (by omega) (by omega), cut_ins (by omega) (by omega) (.inr (by dsimp only; omega))⟩
  | no4 h1 =>
    have hm' : m = m' := by cases h <;> first | rfl | omega
    subst hm'
    have r1 := atP_rng (m := m) (q := e.at_) (n := s.length) (by omega) (by omega) (by omega) (by omega)
    have r2 := atP_rng (m := m) (q := e.at_ + e.len) (n := s.length) (by omega) (by omega) (by omega) (by omega)
    have r3 := atP_mono (m := m) (p := e.at_) (q := e.at_ + e.len) (by omega) (by omega)
    rw [applyT_sty rfl, applyT_sty h1, cutT_eq hf hk]
    exact ⟨.del (.inr rfl) (by omega) (by omega) (by omega) (by omega), rfl⟩
  | no2 h1 h2 =>
    have hm' : m = m' := by cases h <;> first | rfl | omega
    subst hm'
    have r1 := atP_rng (m := m) (q := e.at_) (n := s.length) (by omega) (by omega) (by omega) (by omega)
    rw [applyT_del rfl, applyT_del h1, h2, cutT_eq hf hk]
    refine ⟨.del (.inl rfl) (by omega) (by omega) (by omega) (by omega), ?_⟩
    show delT _ _ 0 = delT (delT s _ 0) _ _
    rw [delT_zero, delT_zero]
  | no3 h1 h2 =>
    have hm' : m = m' := by cases h <;> first | rfl | omega
    subst hm'
    have r1 := atP_rng (m := m) (q := e.at_) (n := s.length) (by omega) (by omega) (by omega) (by omega)
    have r2 := atP_rng (m := m) (q := e.to_) (n := s.length) (by omega) (by omega) (by omega) (by omega)
    rw [applyT_mov rfl, applyT_mov h1, h2, cutT_eq hf hk]
    refine ⟨.mov (by omega) (by omega) (by omega) (by omega) (by omega) (by omega), ?_⟩
    show insT (delT _ _ 0) _ (List.drop _ (List.take (_ + 0) _)) = delT (insT (delT s _ 0) _ (List.drop _ (List.take (_ + 0) _))) _ _
    rw [delT_zero, delT_zero, piece_nil, piece_nil, insT_nil, insT_nil]
  | mi h1 h2 h3 h4 =>
    have hm' : m' = ⟨m.id, m.fr + e.to_ - e.at_, m.to_ + e.to_ - e.at_, m.wh⟩ := by cases h <;> first | rfl | omega
    subst hm'
    rw [applyT_mov rfl, applyT_mov h1, cutT_eq (f := f + e.to_.toNat - e.at_.toNat) (k := k) (by dsimp only; omega) (by dsimp only; omega)]
    refine ⟨.mov (by omega) (by omega) (by omega) (by omega) (by omega) (by omega), ?_⟩
    dsimp only
    rw [show (e.len - (m.to_ - m.fr)).toNat = e.len.toNat - k by omega]
    exact cut_mvi (by omega) (by omega) (by omega) (by omega)
  | dl h1 h2 h3 =>
    have hm' : m = m' := by cases h <;> first | rfl | omega
    subst hm'
    rw [applyT_del rfl, applyT_del h1, cutT_eq hf hk]
    refine ⟨.del (.inl rfl) (by omega) (by omega) (by omega) (by omega), ?_⟩
    dsimp only
    exact cut_del (by omega) (by omega) (.inl (by omega))
  | dr h1 h2 h3 =>
    have hm' : m' = ⟨m.id, m.fr - e.len, m.to_ - e.len, m.wh⟩ := by cases h <;> first | rfl | omega
    subst hm'
    rw [applyT_del rfl, applyT_del h1, cutT_eq (f := f - e.len.toNat) (k := k) (by dsimp only; omega) (by dsimp only; omega)]
    refine ⟨.del (.inl rfl) (by omega) (by omega) (by omega) (by omega), ?_⟩
    dsimp only
    exact cut_del (by omega) (by omega) (.inr (by omega))
  | mll h1 h2 h3 h4 =>
    have hm' : m = m' := by cases h <;> first | rfl | omega
    subst hm'
    rw [applyT_mov rfl, applyT_mov h1, cutT_eq hf hk]
    refine ⟨.mov (by omega) (by omega) (by omega) (by omega) (by omega) (by omega), ?_⟩
    dsimp only
    exact cut_mvo (f1 := f) (by omega) (by omega) (by omega) (.inl (by omega)) (.inl (by omega))
  | mlr h1 h2 h3 h4 =>
    have hm' : m' = ⟨m.id, m.fr + e.len, m.to_ + e.len, m.wh⟩ := by cases h <;> first | rfl | omega
    subst hm'
    rw [applyT_mov rfl, applyT_mov h1, cutT_eq (f := f + e.len.toNat) (k := k) (by dsimp only; omega) (by dsimp only; omega)]
    refine ⟨.mov (by omega) (by omega) (by omega) (by omega) (by omega) (by omega), ?_⟩
    dsimp only
    exact cut_mvo (f1 := f) (by omega) (by omega) (by omega) (.inl (by omega)) (.inr (by omega))
  | mrl h1 h2 h3 h4 =>
    have hm' : m' = ⟨m.id, m.fr - e.len, m.to_ - e.len, m.wh⟩ := by cases h <;> first | rfl | omega
    subst hm'
    rw [applyT_mov rfl, applyT_mov h1, cutT_eq (f := f - e.len.toNat) (k := k) (by dsimp only; omega) (by dsimp only; omega)]
    refine ⟨.mov (by omega) (by omega) (by omega) (by omega) (by omega) (by omega), ?_⟩
    dsimp only
    exact cut_mvo (f1 := f - e.len.toNat) (by omega) (by omega) (by omega) (.inr (by omega)) (.inl (by omega))
  | mrr h1 h2 h3 h4 =>
    have hm' : m = m' := by cases h <;> first | rfl | omega
    subst hm'
    rw [applyT_mov rfl, applyT_mov h1, cutT_eq hf hk]
    refine ⟨.mov (by omega) (by omega) (by omega) (by omega) (by omega) (by omega), ?_⟩
    dsimp only
    exact cut_mvo (f1 := f - e.len.toNat) (by omega) (by omega) (by omega) (.inr (by omega)) (.inr (by omega))
end Go.Proofs.Ytbiohkncdlhigaa

/-
  Two commits undone in either order. Conditions: none.
-/
import Derived.Test.YtbiohkncdlhigaaYb
namespace Go.Proofs.Ytbiohkncdlhigaa
open Go Go.RowKit

theorem mid_get {X B : List Stp} {t : Stp} {i : Nat} (h : X.length = i) : (X ++ t :: B)[i]? = some t := by
  subst h
  rw [List.getElem?_append_right (Nat.le_refl _), Nat.sub_self]
  rfl
theorem mid_drop {X B : List Stp} {t : Stp} {i : Nat} (h : X.length = i) : (X ++ t :: B).drop (i + 1) = B := by
  subst h
  rw [List.drop_append, List.drop_of_length_le (by omega), show X.length + 1 - X.length = 1 by omega]
  rfl
theorem mid_take {X B : List Stp} {t : Stp} {i : Nat} (h : X.length = i) : (X ++ t :: B).take i = X := by
  subst h
  rw [List.take_append_of_le_length (Nat.le_refl _), List.take_length]
theorem undS_mid {X B : List Stp} {t : Stp} {i : Nat} (h : X.length = i) (s : Stp) : undS (X ++ t :: B) i s = X ++ ⟨s.app, s.id, s.e, true⟩ :: movL s.app (markS s) B := by
  unfold undS
  rw [mid_take h, mid_drop h]
theorem movL_app {a : Int} : ∀ {B C : List Stp} {m : Mk}, movL a m (B ++ C) = movL a m B ++ movL a (endM a m B) C
  | [], _, _ => rfl
  | s :: B, C, m => by
    rw [List.cons_append, movL, movL, endM]
    split
    · rw [movL_app]; rfl
    · rw [movL_app]; rfl
theorem endM_app {a : Int} : ∀ {B C : List Stp} {m : Mk}, endM a m (B ++ C) = endM a (endM a m B) C
  | [], _, _ => rfl
  | s :: B, C, m => by
    rw [List.cons_append, endM, endM]
    split <;> exact endM_app
theorem allW_app {a : Int} : ∀ {B C : List Stp} {m : Mk}, allW a m (B ++ C) ↔ allW a m B ∧ allW a (endM a m B) C
  | [], _, _ => by simp [allW, endM]
  | s :: B, C, m => by
    rw [List.cons_append, allW, allW, endM]
    split
    · exact allW_app
    · rw [allW_app, and_assoc]
theorem allW_other {a b : Int} (hab : a ≠ b) : ∀ {B : List Stp} {m n : Mk}, allW b n (movL a m B) ↔ allW b n B
  | [], _, _ => Iff.rfl
  | s :: B, m, n => by
    rw [movL]
    by_cases c : skipS a s
    · rw [if_pos c, allW, allW]
      split
      · exact allW_other hab
      · rw [allW_other hab]
    · rw [if_neg c]
      have e : s.app = a := by
        by_cases e : s.app = a
        · exact e
        · exact absurd (.inl e) c
      have c1 : skipS b s := .inl (by rw [e]; exact hab)
      have c2 : skipS b ⟨s.app, s.id, movE s.e m, s.un⟩ := c1
      rw [allW, if_pos c2, allW, if_pos c1]
      exact allW_other hab
theorem movL_swap {a b : Int} (hab : a ≠ b) : ∀ {B : List Stp} {m n : Mk}, movL b n (movL a m B) = movL a m (movL b n B)
  | [], _, _ => rfl
  | s :: B, m, n => by
    by_cases c : skipS a s
    · by_cases c2 : skipS b s
      · rw [movL, if_pos c, movL, if_pos c2, movL, if_pos c2, movL, if_pos c, movL_swap hab]
      · have c3 : skipS a ⟨s.app, s.id, movE s.e n, s.un⟩ := c
        rw [movL, if_pos c, movL, if_neg c2, movL, if_neg c2, movL, if_pos c3, movL_swap hab]
    · have e : s.app = a := by
        by_cases e : s.app = a
        · exact e
        · exact absurd (.inl e) c
      have c1 : skipS b s := .inl (by rw [e]; exact hab)
      have c2 : skipS b ⟨s.app, s.id, movE s.e m, s.un⟩ := c1
      rw [movL, if_neg c, movL, if_pos c2, movL, if_pos c1, movL, if_neg c, movL_swap hab]
theorem live_ns {s : Stp} (hu : s.un = false) : ¬ skipS s.app s := by
  rintro (h | h)
  · exact h rfl
  · rw [hu] at h; cases h
/-- The piece of a commit that is inserted beside a whole mark. -/
theorem com_sh {t : Stp} {m1 m2 : Mk} (h1 : t.e.k = 1) (hm : m1.fr < m1.to_) (ht : 0 < t.e.tx.length) (hc : Cls t.e m1 m2) : disM m2 (markS t) ∧ shM m2 (markS t) = markS ⟨t.app, t.id, movE t.e m1, t.un⟩ ∧ shM (markS t) m2 = m1 := by
  have hw := hc.wh
  have hmk : (markS t).fr < (markS t).to_ := by unfold markS; dsimp only; omega
  have hms : markS ⟨t.app, t.id, movE t.e m1, t.un⟩ = ⟨t.id, atP m1 t.e.at_, atP m1 t.e.at_ + t.e.tx.length, true⟩ := by
    unfold markS
    dsimp only
    rw [movE_at, movE_tx]
  rw [hms]
  have hn := hc.num
  unfold Num at hn
  rcases hn with ⟨_, g1, g2, g3⟩ | ⟨_, g1, g2, g3⟩ | ⟨h, _⟩ | ⟨h, _⟩ | ⟨h, _⟩ | ⟨h, _⟩ | ⟨h, _⟩ | ⟨h, _⟩ | ⟨h, _⟩ | ⟨h, _⟩
  · have e : m2 = m1 := Mk.ext' hw.2.1 g2 g3 hw.1
    subst e
    have h9 : m2.to_ ≤ (markS t).fr := g1
    refine ⟨.inl h9, ?_, sh_l hm h9⟩
    rw [sh_r hm hmk h9, atP_hi (by omega) g1]
    unfold markS
    dsimp only
    congr 1
    omega
  · have h9 : (markS t).to_ ≤ m2.fr := by unfold markS; dsimp only; omega
    refine ⟨.inr h9, ?_, ?_⟩
    · rw [sh_l hmk h9, atP_lo g1]
      rfl
    · rw [sh_r hmk (by omega) h9]
      refine Mk.ext' hw.2.1 ?_ ?_ hw.1
      · unfold markS; dsimp only; omega
      · unfold markS; dsimp only; omega
  all_goals (exfalso; omega)
theorem ord_core {p : Pst} (hg : GoodP p) {X Y Z : List Stp} {si sk : Stp} (hss : p.ss = X ++ si :: (Y ++ sk :: Z)) (i0 : 0 ≤ si.id) (iu : si.un = false) (k0 : 0 ≤ sk.id) (ku : sk.un = false) (wi : allW si.app (markS si) (Y ++ sk :: Z)) (wk : allW sk.app (markS sk) Z) :
    ∃ (Y' Z1 W : List Stp) (sk' : Stp), movL si.app (markS si) (Y ++ sk :: Z) = Y' ++ sk' :: Z1 ∧ Y'.length = Y.length ∧ sk'.app = sk.app ∧ sk'.id = sk.id ∧ sk'.un = false ∧ allW sk.app (markS sk') Z1 ∧ movL sk.app (markS sk') Z1 = W
      ∧ movL si.app (markS si) (Y ++ ⟨sk.app, sk.id, sk.e, true⟩ :: movL sk.app (markS sk) Z) = Y' ++ ⟨sk.app, sk.id, sk.e, true⟩ :: W ∧ allW si.app (markS si) (Y ++ ⟨sk.app, sk.id, sk.e, true⟩ :: movL sk.app (markS sk) Z) := by
  obtain ⟨wY, wZ⟩ := allW_app.1 wi
  have hsu : skipS si.app ⟨sk.app, sk.id, sk.e, true⟩ := .inr rfl
  by_cases hap : si.app = sk.app
  · -- the same document
    have hgi : p.ss[X.length]? = some si := by rw [hss]; exact mid_get rfl
    have hkk : (X ++ si :: Y).length = X.length + 1 + Y.length := by simp; omega
    have hss2 : p.ss = (X ++ si :: Y) ++ sk :: Z := by rw [hss]; simp
    have hgk : p.ss[X.length + 1 + Y.length]? = some sk := by rw [hss2]; exact mid_get hkk
    have hsz := hg.sz
    have hidp := idsP_of hg.ids
    obtain ⟨d1, d2, D, r1, q1, e2, hv2, hmem, hok, r2, hD, hvD, hcut, hlen, hid⟩ := undo_run hg hgi i0 iu
    have hsplit : p.ss.drop (X.length + 1) = Y ++ sk :: Z := by rw [hss]; exact mid_drop rfl
    have hpre : p.ss.take X.length = X := by rw [hss]; exact mid_take rfl
    rw [hsplit] at r2
    rw [hpre] at r1 hid
    have hidp1 := hidp
    rw [hss] at hidp1
    obtain ⟨_, j2, j3⟩ := List.pairwise_append.1 hidp1
    have hlenY : X.length + 1 + Y.length + 1 + Z.length ≤ 50 := by
      have := congrArg List.length hss
      simp at this
      omega
    have hids : ∀ x ∈ d1.ms, ∀ s ∈ Y ++ sk :: Z, 0 ≤ s.id → x.id ≠ s.id := by
      intro x hx t ht h0
      obtain ⟨u, hu1, hu2, hu3⟩ := hid x hx
      rw [← hu3]
      exact j3 u hu1 t (List.mem_cons_of_mem _ ht) hu2
    have jB := (List.pairwise_cons.1 j2).2
    -- the whole
    obtain ⟨DA, gA, _, _⟩ := run_moved (d0 := d1) hok hv2.2.1 hcut hids (by simp; omega) jB wi r2
    -- up to the second commit, and with it
    obtain ⟨dy, ry, r3⟩ := runS_split r2
    rw [hap] at r3
    obtain ⟨q2, r4⟩ := runS_step (live_ns ku) r3
    rw [← hap] at r4
    have hidsY : ∀ x ∈ d1.ms, ∀ s ∈ Y, 0 ≤ s.id → x.id ≠ s.id := fun x hx t ht => hids x hx t (List.mem_append_left _ ht)
    obtain ⟨DY, gY, tY, okY⟩ := run_moved (d0 := d1) hok hv2.2.1 hcut hidsY (by omega) (List.pairwise_append.1 jB).1 wY ry
    have hns : ¬ skipS si.app sk := by rw [hap]; exact live_ns ku
    have wZ2 := wZ
    rw [allW, if_neg hns] at wZ2
    obtain ⟨w1, w2⟩ := wZ2
    generalize hm1 : endM si.app (markS si) Y = m1 at *
    obtain ⟨p1, p2, p3, p4⟩ := stD_ok q2
    obtain ⟨_, p5, _⟩ := p4.resolve_left (by omega)
    have hcm := (carryM_wh w1).2
    have hcl := cls okY p1 hcm w1
    have okm1 := okY
    unfold okM at okm1
    have hmk := stD_new q2 k0
    have hvy := stD_valid (runS_valid hv2 ry) q2
    have okk := hvy.2.2.2.1 _ hmk
    have htl : 0 < sk.e.tx.length := by
      have := okk
      unfold okM markS at this
      dsimp only at this
      omega
    obtain ⟨hdis, hsh1, hsh2⟩ := com_sh p5 (by omega) htl hcl
    have ok2 : okM (stD dy sk).1.tx.length (carryM m1 sk.e).1 := by rw [p3]; exact (carryM_ok okY p1 hcm).1
    -- the moved run
    obtain ⟨c1, c2⟩ := cut_apply okY p1 hcl
    rw [movL_app, hm1, movL, if_neg hns] at gA
    obtain ⟨DY', y1, y2⟩ := runS_split gA
    rw [gY] at y1
    injection y1 with y1
    subst y1
    have hns' : ¬ skipS si.app ⟨sk.app, sk.id, movE sk.e m1, sk.un⟩ := hns
    obtain ⟨s1, s2⟩ := runS_step hns' y2
    have tx1 : (stD DY ⟨sk.app, sk.id, movE sk.e m1, sk.un⟩).1.tx = cutT (stD dy sk).1.tx (carryM m1 sk.e).1 := by
      rw [(stD_ok s1).2.2.1, p3]
      dsimp only
      rw [tY, c2]
    -- without the second commit
    obtain ⟨f1, f2, Df, rf1, qf1, ef2, _, _, _, _, _, _, hcutf, _, _⟩ := undo_run hg hgk k0 ku
    have hpre2 : p.ss.take (X.length + 1 + Y.length) = X ++ si :: Y := by rw [hss2]; exact mid_take hkk
    have hrun2 : runS si.app nilD (X ++ si :: Y) = some dy := by
      rw [runS_app, r1]
      show runS si.app d1 (si :: Y) = some dy
      rw [runS_do (live_ns iu) q1, ← e2]
      exact ry
    rw [hpre2, ← hap, hrun2] at rf1
    injection rf1 with rf1
    subst rf1
    rw [ef2] at hcutf
    have hdz : p.ss.drop (X.length + 1 + Y.length + 1) = Z := by rw [hss2]; exact mid_drop hkk
    obtain ⟨_, D0, _, _, hrun0, _⟩ := undo_ok hg hgk k0 ku (by rw [hdz]; exact wk)
    rw [hss2, undS_mid hkk, ← hap] at hrun0
    obtain ⟨dy', y3, y4⟩ := runS_split hrun0
    rw [hrun2] at y3
    injection y3 with y3
    subst y3
    rw [runS_skip (.inr rfl)] at y4
    rw [← hap] at wk
    have hc1 := movL_comm ok2 okk hdis w2 wk r4 tx1 s2 hcutf y4
    have hc2 := movL_comm okk ok2 hdis.symm wk w2 r4 hcutf y4 tx1 s2
    rw [hsh1, hsh2] at hc1 hc2
    refine ⟨movL si.app (markS si) Y, movL si.app (carryM m1 sk.e).1 Z, movL si.app m1 (movL si.app (markS sk) Z), ⟨sk.app, sk.id, movE sk.e m1, sk.un⟩, ?_, movL_length .., rfl, rfl, ku, ?_, ?_, ?_, ?_⟩
    · rw [movL_app, hm1, movL, if_neg hns]
    · rw [← hap]; exact hc1.1
    · rw [← hap]; exact hc1.2
    · rw [movL_app, hm1, movL, if_pos hsu, ← hap]
    · rw [allW_app, hm1, allW, if_pos hsu, ← hap]
      exact ⟨wY, hc2.1⟩
  · have hsk : skipS si.app sk := .inl (fun h => hap h.symm)
    rw [allW, if_pos hsk] at wZ
    refine ⟨movL si.app (markS si) Y, movL si.app (endM si.app (markS si) Y) Z, movL si.app (endM si.app (markS si) Y) (movL sk.app (markS sk) Z), sk, ?_, movL_length .., rfl, rfl, ku, (allW_other hap).2 wk, movL_swap hap, ?_, ?_⟩
    · rw [movL_app, movL, if_pos hsk]
    · rw [movL_app, movL, if_pos hsu]
    · rw [allW_app, allW, if_pos hsu]
      exact ⟨wY, (allW_other (fun h => hap h.symm)).2 wZ⟩
end Go.Proofs.Ytbiohkncdlhigaa

/-
  The plain side of the layer of documents: marks, edits, what an edit does. Conditions: none.
  Contracts: plain texts, possible edits, texts after an edit, of both sides. Conditions: texts of at most 100000 bytes.
-/
import Derived.Test.YtbiohkncdlhigaaAs
import Derived.Test.YtbiohkncdlhigaaTy
namespace Go.Proofs.Ytbiohkncdlhigaa
open Go Go.RowKit

structure Mk where
  id : Int
  fr : Int
  to_ : Int
  wh : Bool
  deriving DecidableEq
structure Ed where
  k : Int
  at_ : Int
  len : Int
  to_ : Int
  tx : List UInt8
  deriving DecidableEq
abbrev mkC (x : Mk) : List Value := [.int .i64 x.id, .int .i64 x.fr, .int .i64 x.to_, .bool x.wh]
abbrev mkV (x : Mk) : Value := .agg #[.int .i64 x.id, .int .i64 x.fr, .int .i64 x.to_, .bool x.wh]
abbrev MarkL : Lay Mk := Lay.flat 4 mkC (fun _ => rfl) (by simp [one1])
abbrev edV (e : Ed) : Value := .agg #[.int .i64 e.k, .int .i64 e.at_, .int .i64 e.len, .int .i64 e.to_, str e.tx]
theorem SliceRep.mk {H : Snap} {v : Value} {ms : List Mk} (h : SliceRep H MarkL v ms) {k : Nat} {x : Mk} (hx : ms[k]? = some x) : ∀ j u, (mkC x)[j]? = some u → H.cell (vat v (k * 4 + j)) = some u := fun j u hu => h.flat hx hu

def plainP (s : List UInt8) : Prop := ∀ b ∈ s, 32 ≤ b.toNat ∧ b.toNat ≤ 126
instance (s : List UInt8) : Decidable (plainP s) := inferInstanceAs (Decidable (∀ b ∈ s, _))
def possE (e : Ed) (n : Int) : Prop := 0 ≤ e.at_ ∧ e.at_ ≤ n ∧ (e.k = 1 ∧ e.tx ≠ [] ∧ e.tx.length ≤ 40 ∧ plainP e.tx ∨ (e.k = 2 ∨ e.k = 4) ∧ 0 ≤ e.len ∧ e.len ≤ n - e.at_ ∨ e.k = 3 ∧ 0 ≤ e.len ∧ e.len ≤ n - e.at_ ∧ 0 ≤ e.to_ ∧ e.to_ ≤ n - e.len)
instance (e : Ed) (n : Int) : Decidable (possE e n) := inferInstanceAs (Decidable (_ ∧ _))
def insT (s : List UInt8) (i : Nat) (t : List UInt8) : List UInt8 := s.take i ++ t ++ s.drop i
def delT (s : List UInt8) (i n : Nat) : List UInt8 := s.take i ++ s.drop (i + n)
def applyT (s : List UInt8) (e : Ed) : List UInt8 :=
  if e.k = 1 then insT s e.at_.toNat e.tx
  else if e.k = 2 then delT s e.at_.toNat e.len.toNat
  else if e.k = 3 then insT (delT s e.at_.toNat e.len.toNat) e.to_.toNat ((s.take (e.at_.toNat + e.len.toNat)).drop e.at_.toNat)
  else s
def shutP (p at_ n : Int) : Int := if p ≤ at_ then p else if p ≤ at_ + n then at_ else p - n
def openM (m : Mk) (at_ k : Int) : Mk := if m.to_ ≤ at_ then m else if m.fr < at_ then ⟨m.id, m.fr, m.to_ + k, false⟩ else ⟨m.id, m.fr + k, m.to_ + k, m.wh⟩
def withoutM (m : Mk) (at_ n : Int) : Mk := ⟨m.id, shutP m.fr at_ n, shutP m.to_ at_ n, m.wh && decide (shutP m.to_ at_ n - shutP m.fr at_ n = m.to_ - m.fr)⟩
def carryM (m : Mk) (e : Ed) : Mk × Bool :=
  if e.k = 1 then (openM m e.at_ e.tx.length, true)
  else if e.k = 4 ∨ e.len = 0 then (m, true)
  else if e.k = 3 ∧ e.at_ ≤ m.fr ∧ m.to_ ≤ e.at_ + e.len then (⟨m.id, m.fr + e.to_ - e.at_, m.to_ + e.to_ - e.at_, m.wh⟩, true)
  else if (withoutM m e.at_ e.len).fr = (withoutM m e.at_ e.len).to_ then (⟨0, 0, 0, false⟩, false)
  else if e.k = 3 then (openM (withoutM m e.at_ e.len) e.to_ e.len, true)
  else (withoutM m e.at_ e.len, true)
def carryL (ms : List Mk) (e : Ed) : List Mk := ms.filterMap fun m => if (carryM m e).2 then some (carryM m e).1 else none
/-- A mark within a text of n bytes. -/
def okM (n : Int) (m : Mk) : Prop := 0 ≤ m.id ∧ 0 ≤ m.fr ∧ m.fr < m.to_ ∧ m.to_ ≤ n
instance (n : Int) (m : Mk) : Decidable (okM n m) := inferInstanceAs (Decidable (_ ∧ _))
structure Dc where
  tx : List UInt8
  ms : List Mk
  deriving DecidableEq
def validD (d : Dc) : Prop := plainP d.tx ∧ d.tx.length ≤ 400 ∧ d.ms.length ≤ 100 ∧ (∀ m ∈ d.ms, okM d.tx.length m) ∧ d.ms.Pairwise (fun a b => a.id < b.id)
def DocR (H : Snap) (v : Value) (d : Dc) : Prop := ∃ vm, v = .agg #[str d.tx, vm] ∧ SliceRep H MarkL vm d.ms
theorem DocR.mono {H H' : Snap} {v : Value} {d : Dc} (h : DocR H v d) (hle : H.le H') : DocR H' v d := by
  obtain ⟨vm, h1, h2⟩ := h
  exact ⟨vm, h1, h2.mono hle⟩
def doD (d : Dc) (e : Ed) : Dc × Int :=
  if possE e d.tx.length then (if 400 < (applyT d.tx e).length then (⟨[], []⟩, 2) else (⟨applyT d.tx e, carryL d.ms e⟩, 0)) else (⟨[], []⟩, 290)
def hasId (ms : List Mk) (i : Int) : Prop := ∃ m ∈ ms, m.id = i
instance (ms : List Mk) (i : Int) : Decidable (hasId ms i) := inferInstanceAs (Decidable (∃ m ∈ ms, _))
def insM (x : Mk) (ms : List Mk) : List Mk := ms.takeWhile (fun m => decide (m.id < x.id)) ++ x :: ms.dropWhile (fun m => decide (m.id < x.id))
def putD (d : Dc) (i at_ : Int) (t : List UInt8) : Dc × Int :=
  if ¬ possE ⟨1, at_, 0, 0, t⟩ d.tx.length ∨ i < 0 ∨ hasId d.ms i then (⟨[], []⟩, 290)
  else if (doD d ⟨1, at_, 0, 0, t⟩).2 ≠ 0 ∨ 100 ≤ d.ms.length then (⟨[], []⟩, 2)
  else (⟨(doD d ⟨1, at_, 0, 0, t⟩).1.tx, insM ⟨i, at_, at_ + t.length, true⟩ (doD d ⟨1, at_, 0, 0, t⟩).1.ms⟩, 0)

/-! ### Bounds -/
theorem insT_length {s t : List UInt8} {i : Nat} (h : i ≤ s.length) : (insT s i t).length = s.length + t.length := by simp [insT]; omega
theorem delT_length {s : List UInt8} {i n : Nat} (h : i + n ≤ s.length) : (delT s i n).length = s.length - n := by simp [delT]; omega
theorem applyT_length {s : List UInt8} {e : Ed} (h : possE e s.length) : (e.k = 1 → (applyT s e).length = s.length + e.tx.length) ∧ (e.k = 2 → ((applyT s e).length : Int) = s.length - e.len) ∧ (e.k = 3 ∨ e.k = 4 → (applyT s e).length = s.length) := by
  unfold possE at h
  obtain ⟨h1, h2, h3⟩ := h
  unfold applyT
  refine ⟨fun h4 => ?_, fun h4 => ?_, fun h4 => ?_⟩
  · rw [if_pos h4, insT_length (by omega)]
  · rw [if_neg (by omega), if_pos h4, delT_length (by omega)]; omega
  · rcases h4 with h4 | h4
    · rw [if_neg (by omega), if_neg (by omega), if_pos h4, insT_length (by rw [delT_length (by omega)]; omega), delT_length (by omega)]
      simp; omega
    · rw [if_neg (by omega), if_neg (by omega), if_neg (by omega)]
theorem openM_bound {m : Mk} {a k : Int} (h : m.fr < m.to_) (hk : 0 ≤ k) : m.fr ≤ (openM m a k).fr ∧ (openM m a k).fr < (openM m a k).to_ ∧ (openM m a k).to_ ≤ m.to_ + k ∧ (openM m a k).id = m.id := by
  unfold openM
  by_cases h1 : m.to_ ≤ a
  · rw [if_pos h1]; omega
  · rw [if_neg h1]
    by_cases h2 : m.fr < a
    · rw [if_pos h2]; dsimp only; omega
    · rw [if_neg h2]; dsimp only; omega
theorem shutP_bound {p a n : Int} (h0 : 0 ≤ a) (hn : 0 ≤ n) (hp : 0 ≤ p) : 0 ≤ shutP p a n ∧ shutP p a n ≤ p := by
  unfold shutP
  split
  · omega
  · split <;> omega
theorem shutP_mono {p q a n : Int} (hn : 0 ≤ n) (h : p ≤ q) : shutP p a n ≤ shutP q a n := by
  unfold shutP
  split <;> split <;> (try split) <;> (try split) <;> omega
theorem shutP_le {p a n N : Int} (hn : 0 ≤ n) (ha : a ≤ N - n) (hp : p ≤ N) : shutP p a n ≤ N - n := by
  unfold shutP
  split
  · omega
  · split <;> omega
theorem carryM_ok {m : Mk} {e : Ed} {s : List UInt8} (hm : okM s.length m) (h : possE e s.length) (hc : (carryM m e).2 = true) : okM (applyT s e).length (carryM m e).1 ∧ (carryM m e).1.id = m.id := by
  have hl := applyT_length h
  unfold okM at *
  unfold possE at h
  obtain ⟨l1, l2, l3⟩ := hl
  generalize (applyT s e).length = La at *
  unfold carryM at *
  by_cases h1 : e.k = 1
  · rw [if_pos h1] at *
    have := openM_bound (m := m) (a := e.at_) (k := e.tx.length) hm.2.2.1 (by omega)
    have := l1 h1
    dsimp only
    omega
  · rw [if_neg h1] at *
    by_cases h2 : e.k = 4 ∨ e.len = 0
    · rw [if_pos h2] at *
      dsimp only
      by_cases h4 : e.k = 2
      · have := l2 h4; omega
      · have := l3 (by omega); omega
    · rw [if_neg h2] at *
      by_cases h3 : e.k = 3 ∧ e.at_ ≤ m.fr ∧ m.to_ ≤ e.at_ + e.len
      · rw [if_pos h3] at *
        have := l3 (by omega)
        dsimp only
        omega
      · rw [if_neg h3] at *
        have b1 := shutP_bound (p := m.fr) (a := e.at_) (n := e.len) (by omega) (by omega) (by omega)
        have b2 := shutP_mono (p := m.fr) (q := m.to_) (a := e.at_) (n := e.len) (by omega) (by omega)
        have b3 := shutP_le (p := m.to_) (a := e.at_) (n := e.len) (N := s.length) (by omega) (by omega) (by omega)
        have e1 : (withoutM m e.at_ e.len).fr = shutP m.fr e.at_ e.len := rfl
        have e2 : (withoutM m e.at_ e.len).to_ = shutP m.to_ e.at_ e.len := rfl
        have e3 : (withoutM m e.at_ e.len).id = m.id := rfl
        by_cases h4 : (withoutM m e.at_ e.len).fr = (withoutM m e.at_ e.len).to_
        · rw [if_pos h4] at hc; cases hc
        · rw [if_neg h4] at *
          by_cases h5 : e.k = 3
          · rw [if_pos h5] at *
            have := openM_bound (m := withoutM m e.at_ e.len) (a := e.to_) (k := e.len) (by omega) (by omega)
            have := l3 (by omega)
            dsimp only
            omega
          · rw [if_neg h5] at *
            have := l2 (by omega)
            dsimp only
            omega
theorem carryL_ok {ms : List Mk} {e : Ed} {s : List UInt8} (hm : ∀ m ∈ ms, okM s.length m) (h : possE e s.length) : ∀ m ∈ carryL ms e, okM (applyT s e).length m := by
  intro m hmem
  obtain ⟨x, hx, he⟩ := List.mem_filterMap.1 hmem
  split at he
  · rename_i hc
    injection he with he
    subst he
    exact (carryM_ok (hm x hx) h hc).1
  · cases he
theorem carryL_sorted {ms : List Mk} {e : Ed} {s : List UInt8} (hm : ∀ m ∈ ms, okM s.length m) (h : possE e s.length) (hs : ms.Pairwise (fun a b => a.id < b.id)) : (carryL ms e).Pairwise (fun a b => a.id < b.id) := by
  refine List.pairwise_filterMap.2 (List.Pairwise.imp_of_mem ?_ hs)
  intro a b ha hb hab x hx y hy
  split at hx
  · rename_i hc
    injection hx with hx
    subst hx
    split at hy
    · rename_i hc2
      injection hy with hy
      subst hy
      rw [(carryM_ok (hm a ha) h hc).2, (carryM_ok (hm b hb) h hc2).2]; exact hab
    · cases hy
  · cases hx
theorem plain_take {s : List UInt8} (h : plainP s) (n : Nat) : plainP (s.take n) := fun b hb => h b (List.mem_of_mem_take hb)
theorem plain_drop {s : List UInt8} (h : plainP s) (n : Nat) : plainP (s.drop n) := fun b hb => h b (List.mem_of_mem_drop hb)
theorem plain_app {s t : List UInt8} (h : plainP s) (h2 : plainP t) : plainP (s ++ t) := fun b hb => by
  rcases List.mem_append.1 hb with hb | hb
  · exact h b hb
  · exact h2 b hb
theorem applyT_plain {s : List UInt8} {e : Ed} (hs : plainP s) (h : possE e s.length) : plainP (applyT s e) := by
  unfold possE at h
  unfold applyT
  split
  · rename_i h1
    rcases h.2.2 with h3 | h3 | h3
    · exact plain_app (plain_app (plain_take hs _) h3.2.2.2) (plain_drop hs _)
    · omega
    · omega
  · split
    · exact plain_app (plain_take hs _) (plain_drop hs _)
    · split
      · have hd : plainP (delT s e.at_.toNat e.len.toNat) := plain_app (plain_take hs _) (plain_drop hs _)
        exact plain_app (plain_app (plain_take hd _) (plain_drop (plain_take hs _) _)) (plain_drop hd _)
      · exact hs
theorem carryL_length (ms : List Mk) (e : Ed) : (carryL ms e).length ≤ ms.length := List.length_filterMap_le _ _
theorem doD_valid {d : Dc} {e : Ed} (h : validD d) (h0 : (doD d e).2 = 0) : validD (doD d e).1 := by
  unfold doD at *
  split at h0
  · rename_i hp
    split at h0
    · simp at h0
    · rename_i hl
      rw [if_pos hp, if_neg hl]
      obtain ⟨a1, a2, a3, a4, a5⟩ := h
      exact ⟨applyT_plain a1 hp, by simpa using hl, Nat.le_trans (carryL_length _ _) a3, carryL_ok a4 hp, carryL_sorted a4 hp a5⟩
  · simp at h0
end Go.Proofs.Ytbiohkncdlhigaa
namespace Go.Proofs.Ytbiohkncdlhigaa
open Go Go.RowKit

theorem in_c {H : Snap} {x lo hi : Int} : Pure Try.prog 49 #[.int .i64 x, .int .i64 lo, .int .i64 hi] H (fun _ r => r = .bool (decide (lo ≤ x ∧ x ≤ hi))) := by
  refine Pure.intro Try.func49 rfl Try.ntmps49 rfl (fun E R hM hR => ?_)
  repeat (first | refine a1 ?_ | refine a4 ?_ | refine a5 ?_ | refine a6 ?_)
  refine RW.dec 10 rfl (fun h => ?_) (fun h => ?_)
  · repeat (first | refine a1 ?_ | refine a5 ?_)
    refine Runs.ret1 Try.func49 Try.results49 rfl (fun w hm => hR _ w _ H _ (List.mem_cons_self ..) (Snap.le.refl _) ?_ hm)
    simp [h]
  · repeat (first | refine a1 ?_ | refine a3 ?_ | refine a5 ?_)
    refine Runs.ret1 Try.func49 Try.results49 rfl (fun w hm => hR _ w _ H _ (List.mem_cons_self ..) (Snap.le.refl _) ?_ hm)
    simp [h]

theorem plain_no {s : List UInt8} {k : Nat} {b : UInt8} (hb : s[k]? = some b) (h : ¬ (32 ≤ b.toNat ∧ b.toNat ≤ 126)) : decide (plainP s) = false := decide_eq_false fun hp => h (hp b (List.mem_of_getElem? hb))
theorem plain_yes {s : List UInt8} {k : Nat} (hk : s.length ≤ k) (h : ∀ j b, j < k → s[j]? = some b → 32 ≤ b.toNat ∧ b.toNat ≤ 126) : decide (plainP s) = true := decide_eq_true fun b hb => by
  obtain ⟨j, hj⟩ := List.getElem?_of_mem hb
  exact h j b (by have := (List.getElem?_eq_some_iff.1 hj).1; omega) hj
theorem plain_c {H : Snap} {s : List UInt8} (hs : s.length ≤ 100000) : Pure Try.prog 92 #[str s] H (fun _ r => r = .bool (decide (plainP s))) := by
  refine Pure.intro Try.func92 rfl Try.ntmps92 rfl (fun E R hM hR => ?_)
  repeat (first | refine a1 ?_ | refine a4 ?_ | refine a5 ?_ | refine a6 ?_ | refine s_lenS ?_)
  refine Runs.loop (fun k : Nat => k ≤ s.length ∧ ∀ j b, j < k → s[j]? = some b → 32 ≤ b.toNat ∧ b.toNat ≤ 126) (fun k => s.length - k) (fun _ => [H]) (fun _ => []) (fun k => [(0, str s), (5, .int .i64 (s.length : Int)), (6, .int .i64 (k : Int))]) 0 ⟨Nat.zero_le _, by simp⟩
    (fun h => by refine Runs.weak (h) (by repeat (first | exact trivial | refine And.intro rfl ?_)) (fun x hx => List.mem_cons_of_mem _ (SubH.h x hx)) (by repeat (first | exact List.nil_sublist _ | exact List.Sublist.refl _ | refine List.Sublist.cons_cons _ ?_ | refine List.Sublist.cons _ ?_))) ?_
  rintro k ⟨hk, hI⟩ ih
  repeat (first | refine a1 ?_ | refine a4 ?_ | refine a5 ?_ | refine a6 ?_)
  refine Runs.cond_d rfl (fun hlt => ?_) (fun hlt => ?_)
  · obtain ⟨b, hb⟩ : ∃ b, s[k]? = some b := ⟨_, List.getElem?_eq_getElem (by omega)⟩
    repeat (first | refine a1 ?_ | refine a4 ?_ | refine a5 ?_ | refine a6 ?_ | refine s_indexS ?_ | refine s_lss ?_)
    refine RW.dec 13 rfl (fun h1 => ?_) (fun h1 => ?_)
    · repeat (first | refine a1 ?_ | refine a3 ?_ | refine a4 ?_ | refine a5 ?_ | refine a6 ?_ | refine a7 ?_)
      refine Runs.ret1 Try.func92 Try.results92 rfl (fun w hm => hR _ w _ H _ (List.mem_cons_self ..) (Snap.le.refl _) ?_ hm)
      rw [plain_no hb (by omega)]
    · repeat (first | refine a1 ?_ | refine a5 ?_ | refine s_indexS ?_ | refine s_gtr ?_)
      refine Runs.cond_d rfl (fun h2 => ?_) (fun h2 => ?_)
      · repeat (first | refine a1 ?_ | refine a4 ?_ | refine a5 ?_ | refine a6 ?_)
        refine Runs.ret1 Try.func92 Try.results92 rfl (fun w hm => hR _ w _ H _ (List.mem_cons_self ..) (Snap.le.refl _) ?_ hm)
        rw [plain_no hb (by omega)]
      · repeat (first | refine a1 ?_ | refine a4 ?_ | refine a5 ?_ | refine a6 ?_ | refine s_addI ?_)
        refine Runs.weak (ih (k + 1) ⟨by omega, ?_⟩ (by omega)) (by repeat (first | exact trivial | refine And.intro rfl ?_)) (fun x hx => List.mem_cons_of_mem _ (SubH.h x hx)) (by repeat (first | exact List.nil_sublist _ | exact List.Sublist.refl _ | refine List.Sublist.cons_cons _ ?_ | refine List.Sublist.cons _ ?_))
        intro j c hj hc
        by_cases e : j = k
        · subst e; rw [hb] at hc; rw [← Option.some.inj hc]; omega
        · exact hI j c (by omega) hc
  · repeat (first | refine a1 ?_ | refine a4 ?_ | refine a5 ?_ | refine a6 ?_)
    refine Runs.ret1 Try.func92 Try.results92 rfl (fun w hm => hR _ w _ H _ (List.mem_cons_self ..) (Snap.le.refl _) ?_ hm)
    rw [plain_yes (by omega) hI]
theorem rplain_c {H : Snap} {s : List UInt8} {lo hi : Int} (hs : s.length ≤ 100000) : Pure Try.prog 35 #[str s, .int .i64 lo, .int .i64 hi] H (fun _ r => r = .bool (decide (plainP s ∧ lo ≤ s.length ∧ s.length ≤ hi))) := by
  refine Pure.intro Try.func35 rfl Try.ntmps35 rfl (fun E R hM hR => ?_)
  repeat (first | refine a1 ?_ | refine a4 ?_ | refine a5 ?_ | refine a6 ?_)
  refine Runs.loop (fun k : Nat => k ≤ s.length ∧ ∀ j b, j < k → s[j]? = some b → 32 ≤ b.toNat ∧ b.toNat ≤ 126) (fun k => s.length - k) (fun _ => [H]) (fun _ => []) (fun k => [(0, str s), (1, .int .i64 lo), (2, .int .i64 hi), (7, .int .i64 (k : Int))]) 0 ⟨Nat.zero_le _, by simp⟩
    (fun h => by refine Runs.weak (h) (by repeat (first | exact trivial | refine And.intro rfl ?_)) (fun x hx => List.mem_cons_of_mem _ (SubH.h x hx)) (by repeat (first | exact List.nil_sublist _ | exact List.Sublist.refl _ | refine List.Sublist.cons_cons _ ?_ | refine List.Sublist.cons _ ?_))) ?_
  rintro k ⟨hk, hI⟩ ih
  repeat (first | refine a1 ?_ | refine a4 ?_ | refine a5 ?_ | refine a6 ?_ | refine s_lenS ?_)
  refine Runs.cond_d rfl (fun hlt => ?_) (fun hlt => ?_)
  · obtain ⟨b, hb⟩ : ∃ b, s[k]? = some b := ⟨_, List.getElem?_eq_getElem (by omega)⟩
    repeat (first | refine a1 ?_ | refine a4 ?_ | refine a6 ?_ | refine s_indexS ?_ | refine s_lss ?_)
    refine RW.dec 18 rfl (fun h1 => ?_) (fun h1 => ?_)
    · repeat (first | refine a1 ?_ | refine a3 ?_ | refine a4 ?_ | refine a5 ?_ | refine a6 ?_ | refine a7 ?_)
      refine Runs.ret1 Try.func35 Try.results35 rfl (fun w hm => hR _ w _ H _ (List.mem_cons_self ..) (Snap.le.refl _) ?_ hm)
      have := of_decide_eq_false (plain_no hb (by omega))
      simp [this]
    · repeat (first | refine a1 ?_ | refine a5 ?_ | refine s_indexS ?_ | refine s_gtr ?_)
      refine Runs.cond_d rfl (fun h2 => ?_) (fun h2 => ?_)
      · repeat (first | refine a1 ?_ | refine a4 ?_ | refine a5 ?_ | refine a6 ?_)
        refine Runs.ret1 Try.func35 Try.results35 rfl (fun w hm => hR _ w _ H _ (List.mem_cons_self ..) (Snap.le.refl _) ?_ hm)
        have := of_decide_eq_false (plain_no hb (by omega))
        simp [this]
      · repeat (first | refine a1 ?_ | refine a4 ?_ | refine a5 ?_ | refine a6 ?_ | refine s_addI ?_)
        refine Runs.weak (ih (k + 1) ⟨by omega, ?_⟩ (by omega)) (by repeat (first | exact trivial | refine And.intro rfl ?_)) (fun x hx => List.mem_cons_of_mem _ (SubH.h x hx)) (by repeat (first | exact List.nil_sublist _ | exact List.Sublist.refl _ | refine List.Sublist.cons_cons _ ?_ | refine List.Sublist.cons _ ?_))
        intro j c hj hc
        by_cases e : j = k
        · subst e; rw [hb] at hc; rw [← Option.some.inj hc]; omega
        · exact hI j c (by omega) hc
  · repeat (first | refine a1 ?_ | refine a4 ?_ | refine a6 ?_ | refine s_lenS ?_)
    refine RW.callV rfl (in_c (H := H)) rfl rfl ?_
    rintro _ _ rfl
    repeat (first | refine a1 ?_ | refine a5 ?_)
    refine Runs.ret1 Try.func35 Try.results35 rfl (fun w hm => hR _ w _ H _ (List.mem_cons_self ..) (Snap.le.refl _) ?_ hm)
    have := of_decide_eq_true (plain_yes (by omega) hI)
    simp [this]

set_option maxHeartbeats 1000000 in
theorem poss_c {H : Snap} {e : Ed} {n : Int} (ht : e.tx.length ≤ 100000) (hn : 0 ≤ n ∧ n ≤ 100000) : Pure Try.prog 90 #[edV e, .int .i64 n] H (fun _ r => r = .bool (decide (possE e n))) := by
  refine Pure.intro Try.func90 rfl Try.ntmps90 rfl (fun E R hM hR => ?_)
  repeat (first | refine a4 ?_ | refine a6 ?_)
  refine RW.box rfl rfl rfl rfl (fun b2 => ?_)
  repeat (first | refine a1 ?_ | refine a4 ?_ | refine a5 ?_ | refine a6 ?_ | refine s_fieldB ?_ | refine s_loadB ?_)
  refine RW.dec 8 rfl (fun h1 => ?_) (fun h1 => ?_)
  · repeat (first | refine a1 ?_ | refine a3 ?_ | refine a4 ?_ | refine a5 ?_ | refine a6 ?_ | refine a7 ?_)
    refine Runs.ret1 Try.func90 Try.results90 rfl (fun w hm => hR _ w _ H _ (List.mem_cons_self ..) (Snap.le.refl _) ?_ hm)
    rw [decide_eq_false (by unfold possE; omega)]
  repeat (first | refine a1 ?_ | refine a5 ?_ | refine s_fieldB ?_ | refine s_loadB ?_)
  refine Runs.cond_d rfl (fun h2 => ?_) (fun h2 => ?_)
  · repeat (first | refine a1 ?_ | refine a4 ?_ | refine a5 ?_ | refine a6 ?_)
    refine Runs.ret1 Try.func90 Try.results90 rfl (fun w hm => hR _ w _ H _ (List.mem_cons_self ..) (Snap.le.refl _) ?_ hm)
    rw [decide_eq_false (by unfold possE; omega)]
  repeat (first | refine a1 ?_ | refine a4 ?_ | refine a5 ?_ | refine a6 ?_ | refine s_fieldB ?_ | refine s_loadB ?_)
  refine Runs.cond_d rfl (fun hk1 => ?_) (fun hk1 => ?_)
  · repeat (first | refine a1 ?_ | refine a4 ?_ | refine a6 ?_ | refine s_fieldB ?_ | refine s_loadB ?_ | refine s_neqS ?_)
    refine RW.dec 21 rfl (fun h3 => ?_) (fun h3 => ?_)
    · have h3 : e.tx ≠ [] := h3
      repeat (first | refine a1 ?_ | refine s_fieldB ?_ | refine s_loadB ?_ | refine s_lenS ?_)
      refine RW.dec 27 rfl (fun h4 => ?_) (fun h4 => ?_)
      · repeat (first | refine s_fieldB ?_ | refine s_loadB ?_)
        refine RW.callV rfl (plain_c (H := H) ht) rfl rfl ?_
        rintro _ _ rfl
        repeat (first | refine a1 ?_ | refine a5 ?_)
        refine Runs.ret1 Try.func90 Try.results90 rfl (fun w hm => hR _ w _ H _ (List.mem_cons_self ..) (Snap.le.refl _) ?_ hm)
        congr 1
        rw [decide_eq_decide]
        unfold possE
        exact ⟨fun h => ⟨by omega, by omega, .inl ⟨hk1, h3, by omega, h⟩⟩, fun h => by
          rcases h.2.2 with h | h | h
          · exact h.2.2.2
          · omega
          · omega⟩
      · repeat (first | refine a1 ?_ | refine a3 ?_ | refine a5 ?_)
        refine Runs.ret1 Try.func90 Try.results90 rfl (fun w hm => hR _ w _ H _ (List.mem_cons_self ..) (Snap.le.refl _) ?_ hm)
        rw [decide_eq_false (by unfold possE; omega)]
    · have h3 : e.tx = [] := by simpa using h3
      repeat (first | refine a1 ?_ | refine a3 ?_ | refine a5 ?_)
      refine Runs.ret1 Try.func90 Try.results90 rfl (fun w hm => hR _ w _ H _ (List.mem_cons_self ..) (Snap.le.refl _) ?_ hm)
      rw [decide_eq_false (by unfold possE; simp [h3]; omega)]
  repeat (first | refine a1 ?_ | refine a4 ?_ | refine a5 ?_ | refine a6 ?_)
  refine Runs.cond_d rfl (fun hk2 => ?_) (fun hk2 => ?_)
  · rw [decide_eq_true hk2]
    repeat (first | refine a1 ?_ | refine a4 ?_ | refine a6 ?_ | refine s_fieldB ?_ | refine s_loadB ?_ | refine a7 ?_)
    refine RW.dec 38 rfl (fun h3 => ?_) (fun h3 => ?_)
    · repeat (first | refine a1 ?_ | refine a5 ?_ | refine s_fieldB ?_ | refine s_loadB ?_ | refine s_subI ?_)
      refine Runs.ret1 Try.func90 Try.results90 rfl (fun w hm => hR _ w _ H _ (List.mem_cons_self ..) (Snap.le.refl _) ?_ hm)
      congr 1
      rw [decide_eq_decide]
      unfold possE
      omega
    · repeat (first | refine a1 ?_ | refine a3 ?_ | refine a5 ?_)
      refine Runs.ret1 Try.func90 Try.results90 rfl (fun w hm => hR _ w _ H _ (List.mem_cons_self ..) (Snap.le.refl _) ?_ hm)
      rw [decide_eq_false (by unfold possE; omega)]
  repeat (first | refine a1 ?_ | refine a5 ?_ | refine a6 ?_)
  refine Runs.cond_d rfl (fun hk4 => ?_) (fun hk4 => ?_)
  · repeat (first | refine a1 ?_ | refine a4 ?_ | refine a6 ?_ | refine s_fieldB ?_ | refine s_loadB ?_)
    refine RW.dec 38 rfl (fun h3 => ?_) (fun h3 => ?_)
    · repeat (first | refine a1 ?_ | refine a5 ?_ | refine s_fieldB ?_ | refine s_loadB ?_ | refine s_subI ?_)
      refine Runs.ret1 Try.func90 Try.results90 rfl (fun w hm => hR _ w _ H _ (List.mem_cons_self ..) (Snap.le.refl _) ?_ hm)
      congr 1
      rw [decide_eq_decide]
      unfold possE
      omega
    · repeat (first | refine a1 ?_ | refine a3 ?_ | refine a5 ?_)
      refine Runs.ret1 Try.func90 Try.results90 rfl (fun w hm => hR _ w _ H _ (List.mem_cons_self ..) (Snap.le.refl _) ?_ hm)
      rw [decide_eq_false (by unfold possE; omega)]
  repeat (first | refine a1 ?_ | refine a4 ?_ | refine a5 ?_ | refine a6 ?_)
  refine Runs.cond_d rfl (fun hk3 => ?_) (fun hk3 => ?_)
  · repeat (first | refine a1 ?_ | refine a4 ?_ | refine a6 ?_ | refine s_fieldB ?_ | refine s_loadB ?_)
    refine RW.dec 52 rfl (fun h3 => ?_) (fun h3 => ?_)
    · repeat (first | refine a1 ?_ | refine s_fieldB ?_ | refine s_loadB ?_ | refine s_subI ?_)
      refine RW.dec 61 rfl (fun h4 => ?_) (fun h4 => ?_)
      · repeat (first | refine a1 ?_ | refine s_fieldB ?_ | refine s_loadB ?_)
        refine RW.dec 66 rfl (fun h5 => ?_) (fun h5 => ?_)
        · repeat (first | refine a1 ?_ | refine a5 ?_ | refine s_fieldB ?_ | refine s_loadB ?_ | refine s_subI ?_)
          refine Runs.ret1 Try.func90 Try.results90 rfl (fun w hm => hR _ w _ H _ (List.mem_cons_self ..) (Snap.le.refl _) ?_ hm)
          congr 1
          rw [decide_eq_decide]
          unfold possE
          omega
        · repeat (first | refine a1 ?_ | refine a3 ?_ | refine a5 ?_)
          refine Runs.ret1 Try.func90 Try.results90 rfl (fun w hm => hR _ w _ H _ (List.mem_cons_self ..) (Snap.le.refl _) ?_ hm)
          rw [decide_eq_false (by unfold possE; omega)]
      · repeat (first | refine a1 ?_ | refine a3 ?_ | refine a5 ?_)
        refine Runs.ret1 Try.func90 Try.results90 rfl (fun w hm => hR _ w _ H _ (List.mem_cons_self ..) (Snap.le.refl _) ?_ hm)
        rw [decide_eq_false (by unfold possE; omega)]
    · repeat (first | refine a1 ?_ | refine a3 ?_ | refine a5 ?_)
      refine Runs.ret1 Try.func90 Try.results90 rfl (fun w hm => hR _ w _ H _ (List.mem_cons_self ..) (Snap.le.refl _) ?_ hm)
      rw [decide_eq_false (by unfold possE; omega)]
  · repeat (first | refine a1 ?_ | refine a4 ?_ | refine a5 ?_ | refine a6 ?_)
    refine Runs.ret1 Try.func90 Try.results90 rfl (fun w hm => hR _ w _ H _ (List.mem_cons_self ..) (Snap.le.refl _) ?_ hm)
    rw [decide_eq_false (by unfold possE; omega)]
end Go.Proofs.Ytbiohkncdlhigaa

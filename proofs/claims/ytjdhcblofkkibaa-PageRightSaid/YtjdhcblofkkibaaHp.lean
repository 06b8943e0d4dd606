/-
  The plain law of the heap: lists in heap order, sifting up and down. Conditions: none.
-/
import Derived.Test.YtjdhcblofkkibaaMT1
namespace Go.Proofs.Ytjdhcblofkkibaa

theorem lexCmp_neg : ∀ a b : List Int, lexCmp b a = - lexCmp a b
  | [], [] => rfl
  | [], _ :: _ => rfl
  | _ :: _, [] => rfl
  | x :: xs, y :: ys => by
    simp only [lexCmp]
    have ih := lexCmp_neg xs ys
    by_cases h1 : x < y
    · have h2 : ¬ y < x := by omega
      simp [h1, h2]
    · by_cases h2 : y < x
      · simp [h1, h2]
      · simp [h1, h2, ih]
theorem lexCmp_trans : ∀ a b c : List Int, lexCmp a b ≤ 0 → lexCmp b c ≤ 0 → lexCmp a c ≤ 0
  | [], _, [], _, _ => by simp [lexCmp]
  | [], _, _ :: _, _, _ => by simp [lexCmp]
  | x :: xs, [], _, h, _ => by simp [lexCmp] at h
  | x :: xs, y :: ys, [], _, h => by simp [lexCmp] at h
  | x :: xs, y :: ys, z :: zs, h1, h2 => by
    have ih := lexCmp_trans xs ys zs
    simp only [lexCmp] at *
    by_cases a1 : x < y
    · by_cases a2 : y < z
      · have : x < z := by omega
        simp [this]
      · by_cases a3 : z < y
        · simp [a2, a3] at h2
        · have : x < z := by omega
          simp [this]
    · by_cases a2 : y < x
      · simp [a1, a2] at h1
      · have hxy : x = y := by omega
        subst hxy
        simp at h1
        by_cases a3 : x < z
        · simp [a3]
        · by_cases a4 : z < x
          · simp [a3, a4] at h2
          · simp [a3, a4] at h2 ⊢
            exact ih h1 h2
theorem lexCmp_eq : ∀ a b : List Int, lexCmp a b = 0 → a = b
  | [], [], _ => rfl
  | [], _ :: _, h => by simp [lexCmp] at h
  | _ :: _, [], h => by simp [lexCmp] at h
  | x :: xs, y :: ys, h => by
    simp only [lexCmp] at h
    by_cases h1 : x < y
    · simp [h1] at h
    · by_cases h2 : y < x
      · simp [h1, h2] at h
      · simp [h1, h2] at h
        rw [lexCmp_eq xs ys h, show x = y by omega]

structure Part where
  links : List Int
  at_ : Int
  cost : Int
  whole : Int
  deriving DecidableEq, Inhabited
def partLt (a b : Part) : Prop := a.whole < b.whole ∨ a.whole = b.whole ∧ lexCmp a.links b.links < 0
instance (a b : Part) : Decidable (partLt a b) := inferInstanceAs (Decidable (_ ∨ _))
theorem partLt_asymm {a b : Part} (h : partLt a b) : ¬ partLt b a := by
  unfold partLt at *
  have := lexCmp_neg a.links b.links
  omega
theorem partLt_neg {x y z : Part} (h1 : ¬ partLt x y) (h2 : ¬ partLt y z) : ¬ partLt x z := by
  unfold partLt at *
  have e1 := lexCmp_neg x.links y.links
  have e2 := lexCmp_neg y.links z.links
  have e3 := lexCmp_neg x.links z.links
  have e4 := lexCmp_trans z.links y.links x.links
  by_cases c1 : lexCmp z.links y.links ≤ 0
  · by_cases c2 : lexCmp y.links x.links ≤ 0
    · have := e4 c1 c2; omega
    · omega
  · omega
theorem partLt_trans {x y z : Part} (h1 : partLt x y) (h2 : partLt y z) : partLt x z := by
  by_cases h : partLt x z
  · exact h
  · exact absurd h1 (partLt_neg h (partLt_asymm h2))

def HeapO (q : List Part) : Prop := ∀ j x y, 0 < j → q[j]? = some x → q[(j - 1) / 2]? = some y → ¬ partLt x y
theorem HeapO.nil : HeapO [] := by intro j x y _ h; simp at h
theorem HeapO.root {q : List Part} (h : HeapO q) {r : Part} (hr : q[0]? = some r) : ∀ (j : Nat) (x : Part), q[j]? = some x → ¬ partLt x r := by
  intro j
  induction j using Nat.strongRecOn with
  | _ j ih =>
    intro x hx
    rcases Nat.eq_zero_or_pos j with rfl | hj
    · rw [hr] at hx; injection hx with hx; subst hx
      exact fun h => partLt_asymm h h
    · have hl := (List.getElem?_eq_some_iff.1 hx).1
      obtain ⟨y, hy⟩ : ∃ y, q[(j - 1) / 2]? = some y := ⟨_, List.getElem?_eq_getElem (by omega)⟩
      exact partLt_neg (h j x y hj hx hy) (ih _ (by omega) y hy)

/-- Exchange two elements. -/
def swp (q : List Part) (i j : Nat) (a b : Part) : List Part := (q.set i b).set j a
theorem swp_length (q : List Part) (i j : Nat) (a b : Part) : (swp q i j a b).length = q.length := by simp [swp]
theorem swp_perm {q : List Part} {i j : Nat} {a b : Part} (ha : q[i]? = some a) (hb : q[j]? = some b) : (swp q i j a b).Perm q := by
  obtain ⟨h1, h2⟩ := List.getElem?_eq_some_iff.1 ha
  obtain ⟨h3, h4⟩ := List.getElem?_eq_some_iff.1 hb
  unfold swp
  rw [← h2, ← h4]
  exact List.set_set_perm h1 h3
theorem swp_at {q : List Part} {i j : Nat} {a b : Part} (hij : i ≠ j) (hi : i < q.length) (hj : j < q.length) (k : Nat) : (swp q i j a b)[k]? = if k = i then some b else if k = j then some a else q[k]? := by
  unfold swp
  rw [List.getElem?_set, List.getElem?_set]
  by_cases h1 : j = k
  · subst h1
    rw [if_pos rfl, if_pos (by simpa using hj), if_neg (by omega), if_pos rfl]
  · rw [if_neg h1]
    by_cases h2 : i = k
    · subst h2; rw [if_pos rfl, if_pos hi, if_pos rfl]
    · rw [if_neg h2, if_neg (by omega), if_neg (by omega)]

def UpI (i : Nat) (q : List Part) : Prop :=
  (∀ j x y, 0 < j → j ≠ i → q[j]? = some x → q[(j - 1) / 2]? = some y → ¬ partLt x y) ∧
  (∀ j x y, 0 < i → 0 < j → (j - 1) / 2 = i → q[j]? = some x → q[(i - 1) / 2]? = some y → ¬ partLt x y)
theorem UpI.start {q : List Part} {x : Part} (h : HeapO q) : UpI q.length (q ++ [x]) := by
  refine ⟨fun j a b hj hji ha hb => ?_, fun j a b hi hj hp ha hb => ?_⟩
  · have hl := (List.getElem?_eq_some_iff.1 ha).1
    simp at hl
    rw [List.getElem?_append_left (by omega)] at ha hb
    exact h j a b hj ha hb
  · have hl := (List.getElem?_eq_some_iff.1 ha).1
    simp at hl
    omega
theorem UpI.step {q : List Part} {i : Nat} {a b : Part} (h : UpI i q) (hi : 0 < i) (ha : q[i]? = some a) (hb : q[(i - 1) / 2]? = some b) (hlt : partLt a b) : UpI ((i - 1) / 2) (swp q i ((i - 1) / 2) a b) := by
  have hil := (List.getElem?_eq_some_iff.1 ha).1
  have hat := fun k => swp_at (a := a) (b := b) (q := q) (i := i) (j := (i - 1) / 2) (by omega) hil (by omega) k
  generalize hu : (i - 1) / 2 = u at *
  obtain ⟨h1, h2⟩ := h
  refine ⟨fun j x y hj hju hx hy => ?_, fun j x y hup hj hp hx hy => ?_⟩
  · rw [hat] at hx hy
    by_cases e1 : j = i
    · subst e1
      rw [if_pos rfl] at hx
      rw [hu, if_neg (by omega), if_pos rfl] at hy
      injection hx with hx; injection hy with hy; subst hx; subst hy
      exact partLt_asymm hlt
    · rw [if_neg e1, if_neg hju] at hx
      by_cases e2 : (j - 1) / 2 = i
      · rw [if_pos e2] at hy
        injection hy with hy; subst hy
        exact h2 j x _ hi hj e2 hx (by rw [hu]; exact hb)
      · rw [if_neg e2] at hy
        by_cases e3 : (j - 1) / 2 = u
        · rw [if_pos e3] at hy
          injection hy with hy; subst hy
          intro hxa
          exact h1 j x b hj e1 hx (by rw [e3]; exact hb) (partLt_trans hxa hlt)
        · rw [if_neg e3] at hy
          exact h1 j x y hj e1 hx hy
  · rw [hat] at hx hy
    rw [if_neg (by omega), if_neg (by omega)] at hy
    have hub : ¬ partLt b y := h1 u b y hup (by omega) hb hy
    by_cases e1 : j = i
    · rw [if_pos e1] at hx
      injection hx with hx; subst hx
      exact hub
    · rw [if_neg e1, if_neg (by omega)] at hx
      exact partLt_neg (h1 j x b hj e1 hx (by rw [hp]; exact hb)) hub
theorem UpI.done {q : List Part} {i : Nat} (h : UpI i q) (hd : i = 0 ∨ ∀ a b, q[i]? = some a → q[(i - 1) / 2]? = some b → ¬ partLt a b) : HeapO q := by
  intro j x y hj hx hy
  by_cases e : j = i
  · subst e
    rcases hd with hd | hd
    · omega
    · exact hd x y hx hy
  · exact h.1 j x y hj e hx hy

def DownI (i : Nat) (q : List Part) : Prop :=
  (∀ j x y, 0 < j → (j - 1) / 2 ≠ i → q[j]? = some x → q[(j - 1) / 2]? = some y → ¬ partLt x y) ∧
  (∀ j x y, 0 < i → 0 < j → (j - 1) / 2 = i → q[j]? = some x → q[(i - 1) / 2]? = some y → ¬ partLt x y)
theorem DownI.start {q : List Part} {x : Part} {m : Nat} (h : HeapO q) : DownI 0 ((q.set 0 x).take m) := by
  refine ⟨fun j a b hj hji ha hb => ?_, fun j a b hi => by omega⟩
  rw [List.getElem?_take, List.getElem?_set_ne (by omega)] at ha hb
  split at ha
  · split at hb
    · exact h j a b hj ha hb
    · cases hb
  · cases ha
theorem DownI.step {q : List Part} {i k : Nat} {a c : Part} (h : DownI i q) (hk : k = 2 * i + 1 ∨ k = 2 * i + 2) (ha : q[i]? = some a) (hc : q[k]? = some c) (hlt : partLt c a)
    (ho : ∀ j x, (j = 2 * i + 1 ∨ j = 2 * i + 2) → j ≠ k → q[j]? = some x → ¬ partLt x c) : DownI k (swp q i k a c) := by
  have hil := (List.getElem?_eq_some_iff.1 ha).1
  have hkl := (List.getElem?_eq_some_iff.1 hc).1
  have hat := fun m => swp_at (a := a) (b := c) (q := q) (i := i) (j := k) (by omega) hil hkl m
  obtain ⟨h1, h2⟩ := h
  refine ⟨fun j x y hj hjk hx hy => ?_, fun j x y hkp hj hp hx hy => ?_⟩
  · rw [hat] at hx hy
    by_cases e1 : (j - 1) / 2 = i
    · rw [if_pos e1] at hy
      injection hy with hy; subst hy
      by_cases e2 : j = k
      · rw [if_neg (by omega), if_pos e2] at hx
        injection hx with hx; subst hx
        exact partLt_asymm hlt
      · rw [if_neg (by omega), if_neg e2] at hx
        exact ho j x (by omega) e2 hx
    · rw [if_neg e1, if_neg hjk] at hy
      by_cases e2 : j = i
      · subst e2
        rw [if_pos rfl] at hx
        injection hx with hx; subst hx
        exact h2 k _ y hj (by omega) (by omega) hc hy
      · rw [if_neg e2, if_neg (by omega)] at hx
        exact h1 j x y hj e1 hx hy
  · rw [hat] at hx hy
    rw [if_neg (by omega), if_neg (by omega)] at hx
    rw [if_pos (by omega)] at hy
    injection hy with hy; subst hy
    exact h1 j x _ hj (by omega) hx (by rw [hp]; exact hc)
theorem DownI.done {q : List Part} {i : Nat} (h : DownI i q) (hd : ∀ j x a, (j = 2 * i + 1 ∨ j = 2 * i + 2) → q[j]? = some x → q[i]? = some a → ¬ partLt x a) : HeapO q := by
  intro j x y hj hx hy
  by_cases e : (j - 1) / 2 = i
  · rw [e] at hy
    exact hd j x y (by omega) hx hy
  · exact h.1 j x y hj e hx hy
end Go.Proofs.Ytjdhcblofkkibaa

/-
  Check computes what the reference computes; the contracts of the reference's Check and First. Conditions: at most 2000 ways.
  The plain laws of pages: when a page is a beginning of another one; pages of as many candidates; what twice the costs make. Conditions: valid graphs, costs that are not below 0.
  The fixed examples of the layer of proofs, and the reference's First. Conditions: for First, at most 2000 ways.
  The law ProofChanges. Conditions: the arguments' form.
  The law ProofPages. Conditions: the arguments' form.
-/
import Derived.Test.YtjdhcblofkkibaaPi
import Derived.Test.YtjdhcblofkkibaaPk
import Derived.Test.YtjdhcblofkkibaaMTop
import Derived.Test.YtjdhcblofkkibaaT12
namespace Go.Proofs.Ytjdhcblofkkibaa
open Go Go.RowKit

def allW (gl : List Lnk) (N : Nat) : List Cand := ordered (waysG gl N N 0)
def commonN : List Cand → List Cand → Nat
  | x :: xs, y :: ys => if x = y then commonN xs ys + 1 else 0
  | _, _ => 0
theorem commonN_le : ∀ a b : List Cand, commonN a b ≤ a.length ∧ commonN a b ≤ b.length
  | [], b => by simp [commonN]
  | x :: xs, [] => by simp [commonN]
  | x :: xs, y :: ys => by
    simp only [commonN]
    split
    · have := commonN_le xs ys; simp; omega
    · simp
theorem commonN_at : ∀ (a b : List Cand) (k : Nat), k ≤ a.length → (∀ j, j < k → a[j]? = b[j]?) → (k = a.length ∨ a[k]? ≠ b[k]?) → commonN a b = k
  | [], b, k, hk, _, _ => by simp at hk; simp [commonN, hk]
  | x :: xs, [], k, hk, h1, h2 => by
    cases k with
    | zero => simp [commonN]
    | succ k => have := h1 0 (by omega); simp at this
  | x :: xs, y :: ys, 0, hk, h1, h2 => by
    have : x ≠ y := fun e => by rcases h2 with h2 | h2 <;> simp_all
    simp [commonN, this]
  | x :: xs, y :: ys, k + 1, hk, h1, h2 => by
    have e : x = y := by have := h1 0 (by omega); simpa using this
    simp only [commonN, if_pos e]
    rw [commonN_at xs ys k (by simpa using hk) (fun j hj => by have := h1 (j + 1) (by omega); simpa using this) (by
      rcases h2 with h2 | h2
      · exact .inl (by simpa using h2)
      · exact .inr (by simpa using h2))]
/-- What the reference's Check returns. -/
def rcheckR (N : Int) (gl : List Lnk) (h : List Int) (L : List Cand) (w : Bool) : Int × Int :=
  if ¬ validG N gl then (0, 150) else if ¬ rightP N gl h then (-1, 160) else
    if commonN L (allW gl N.toNat) < L.length ∨ w ≠ decide (L.length = (allW gl N.toNat).length) then ((commonN L (allW gl N.toNat) : Nat), 160) else (((commonN L (allW gl N.toNat) : Nat) : Int), 0)

section
variable {gl : List Lnk} {N : Nat} {h : List Int}
theorem strict_ne {L : List Cand} (hs : L.Pairwise candLt) {i j : Nat} {a b : Cand} (ha : L[i]? = some a) (hb : L[j]? = some b) (hij : i < j) : candLt a b := by
  obtain ⟨h1, e1⟩ := List.getElem?_eq_some_iff.1 ha
  obtain ⟨h2, e2⟩ := List.getElem?_eq_some_iff.1 hb
  subst e1; subst e2
  exact (List.pairwise_iff_getElem.1 hs) i j h1 h2 hij
theorem candLt_irrefl (a : Cand) : ¬ candLt a a := fun h => candLt_asymm h h
theorem not_taken {L : List Cand} (hs : L.Pairwise candLt) {k j : Nat} {a : Cand} (ha : L[j]? = some a) (hk : k ≤ j) : a ∉ L.take k := by
  intro hm
  obtain ⟨i, hi⟩ := List.getElem?_of_mem hm
  have hik : i < k := by have := (List.getElem?_eq_some_iff.1 hi).1; simp at this; omega
  rw [List.getElem?_take_of_lt hik] at hi
  exact candLt_irrefl a (strict_ne hs hi ha (by omega))
theorem next_at {k : Nat} {x : Cand} : IsNext gl N ((allW gl N).take k) x ↔ (allW gl N)[k]? = some x := by
  have hs := ordered_strict gl N N 0
  have hmem : ∀ w, w ∈ waysG gl N N 0 ↔ w ∈ allW gl N := fun w => (ordered_perm _).mem_iff.symm
  constructor
  · rintro ⟨h1, h2, h3⟩
    obtain ⟨j, hj⟩ := List.getElem?_of_mem ((hmem x).1 h1)
    have hjk : k ≤ j := by
      by_cases hjk : k ≤ j
      · exact hjk
      · exact absurd (List.mem_of_getElem? (by rw [List.getElem?_take_of_lt (show j < k by omega)]; exact hj)) h2
    by_cases e : j = k
    · rw [← e]; exact hj
    · have hjl := (List.getElem?_eq_some_iff.1 hj).1
      have hy : (allW gl N)[k]? = some (allW gl N)[k] := List.getElem?_eq_getElem (by omega)
      generalize (allW gl N)[k] = y at hy
      have hyx := strict_ne hs hy hj (by omega)
      rcases h3 y ((hmem y).2 (List.mem_of_getElem? hy)) (not_taken hs hy (Nat.le_refl _)) with rfl | h4
      · exact absurd hyx (candLt_irrefl _)
      · exact absurd h4 (candLt_asymm hyx)
  · intro hk
    refine ⟨(hmem x).2 (List.mem_of_getElem? hk), not_taken hs hk (Nat.le_refl _), fun w hw hwk => ?_⟩
    obtain ⟨j, hj⟩ := List.getElem?_of_mem ((hmem w).1 hw)
    have hjk : k ≤ j := by
      by_cases hjk : k ≤ j
      · exact hjk
      · exact absurd (List.mem_of_getElem? (by rw [List.getElem?_take_of_lt (show j < k by omega)]; exact hj)) hwk
    by_cases e : j = k
    · subst e; rw [hk] at hj; exact .inl (Option.some.inj hj).symm
    · exact .inr (strict_ne hs hk hj (by omega))
theorem known_ways (k : Nat) : ∀ x ∈ (allW gl N).take k, x ∈ waysG gl N N 0 := fun x hx => (ordered_perm _).mem_iff.1 (List.mem_of_mem_take hx)
theorem checkN_common (hg : ∀ x ∈ gl, okL (N : Int) x) (hN : 0 < N) (hp : IsPot N gl 0 h) : ∀ (L : List Cand) (k : Nat), k ≤ (allW gl N).length → checkN gl h N ((allW gl N).take k) L = k + commonN L ((allW gl N).drop k)
  | [], k, hk => by simp [checkN, commonN]; omega
  | x :: r, k, hk => by
    rw [checkN]
    by_cases ha : accR gl h N ((allW gl N).take k) x
    · have hx := next_at.1 ((acc_iff hg hN hp (known_ways k)).1 ha)
      have hkl := (List.getElem?_eq_some_iff.1 hx).1
      rw [if_pos ha, ← take_snoc_of hx, checkN_common hg hN hp r (k + 1) (by omega), drop_cons_of hx, commonN, if_pos rfl]
      omega
    · have hx : ¬ (allW gl N)[k]? = some x := fun e => ha ((acc_iff hg hN hp (known_ways k)).2 (next_at.2 e))
      rw [if_neg ha]
      by_cases hkl : k < (allW gl N).length
      · have hy : (allW gl N)[k]? = some (allW gl N)[k] := List.getElem?_eq_getElem hkl
        rw [drop_cons_of hy, commonN, if_neg (fun e => hx (by rw [hy, e]))]
        simp; omega
      · rw [List.drop_eq_nil_of_le (by omega)]
        simp [commonN]; omega
theorem left_empty (hg : ∀ x ∈ gl, okL (N : Int) x) (hN : 0 < N) (hp : IsPot N gl 0 h) {k : Nat} (hk : k ≤ (allW gl N).length) : (leftL gl h N ((allW gl N).take k)).isEmpty = decide (k = (allW gl N).length) := by
  by_cases e : k = (allW gl N).length
  · rw [decide_eq_true e]
    rw [List.isEmpty_iff]
    refine List.eq_nil_iff_forall_not_mem.2 fun y hy => ?_
    obtain ⟨⟨w, hw, hwp, _⟩, hyk, _⟩ := left_sound hg hN hp (known_ways k) hy
    refine hyk w ?_ hwp
    rw [e, List.take_length]
    exact (ordered_perm _).mem_iff.2 hw
  · rw [decide_eq_false e]
    have hy : (allW gl N)[k]? = some (allW gl N)[k] := List.getElem?_eq_getElem (by omega)
    generalize (allW gl N)[k] = x at hy
    obtain ⟨h1, h2, _⟩ := next_at.2 hy
    obtain ⟨y, hy, _⟩ := left_complete hg hN hp (known_ways k) h1 h2
    cases hl : leftL gl h N ((allW gl N).take k) with
    | nil => rw [hl] at hy; simp at hy
    | cons _ _ => rfl
theorem commonN_take : ∀ (a b : List Cand), a.take (commonN a b) = b.take (commonN a b)
  | [], b => by simp [commonN]
  | x :: xs, [] => by simp [commonN]
  | x :: xs, y :: ys => by
    simp only [commonN]
    split
    · rename_i e; subst e; simp only [List.take_succ_cons]; rw [commonN_take xs ys]
    · simp
theorem check_eq (N : Int) (gl : List Lnk) (h : List Int) (L : List Cand) (w : Bool) : checkR N gl h L w = rcheckR N gl h L w := by
  unfold checkR rcheckR
  by_cases hg : validG N gl
  · have hgn : ¬ ¬ validG N gl := fun h => h hg
    rw [if_neg hgn, if_neg hgn]
    by_cases hr : rightP N gl h
    · have hrn : ¬ ¬ rightP N gl h := fun h => h hr
      rw [if_neg hrn, if_neg hrn]
      obtain ⟨hN1, hN2, hlen, hall⟩ := hg
      obtain ⟨M, rfl⟩ : ∃ M : Nat, N = (M : Int) := ⟨N.toNat, by omega⟩
      have hp : IsPot M gl 0 h := by
        have := hr.2
        rw [Int.toNat_natCast] at this
        rw [this]; exact pot_is hall (by omega)
      rw [Int.toNat_natCast]
      have h1 := checkN_common hall (by omega) hp L 0 (Nat.zero_le _)
      rw [List.take_zero, List.drop_zero, Nat.zero_add] at h1
      rw [h1]
      have hle := commonN_le L (allW gl M)
      by_cases hc : commonN L (allW gl M) < L.length
      · rw [if_pos (.inl hc), if_pos (.inl hc)]
      · have hcl : commonN L (allW gl M) = L.length := by omega
        have h2 := left_empty hall (by omega) hp hle.2
        rw [← commonN_take] at h2
        rw [h2, hcl]
        by_cases hw : w = decide (L.length = (allW gl M).length)
        · rw [if_neg (fun h => h.elim (fun h => by omega) (fun h => h hw.symm)), if_neg (fun h => h.elim (fun h => by omega) (fun h => h hw))]
        · rw [if_pos (.inr (Ne.symm hw)), if_pos (.inr hw)]
    · rw [if_pos hr, if_pos hr]
  · rw [if_pos hg, if_pos hg]
end

end Go.Proofs.Ytjdhcblofkkibaa
namespace Go.Proofs.Ytjdhcblofkkibaa
open Go Go.RowKit

/-- Page A (whole: w) is a beginning of page B (whole: v). -/
def prefR (A : List Cand) (w : Bool) (B : List Cand) (v : Bool) : Bool := decide (A <+: B) && (if A.length = B.length then w == v else !w)
theorem prefR_iff {A B : List Cand} {w v : Bool} : prefR A w B v = true ↔ A <+: B ∧ (A.length = B.length → w = v) ∧ (A.length ≠ B.length → w = false) := by
  unfold prefR
  rw [Bool.and_eq_true, decide_eq_true_eq]
  refine and_congr_right fun _ => ?_
  split
  · rename_i h; simp [h]
  · rename_i h; simp [h]
theorem prefR_self (A : List Cand) (w : Bool) : prefR A w A w = true := prefR_iff.2 ⟨List.prefix_refl A, fun _ => rfl, fun h => absurd rfl h⟩
theorem prefR_trans {A B C : List Cand} {w v u : Bool} (h1 : prefR A w B v = true) (h2 : prefR B v C u = true) : prefR A w C u = true := by
  obtain ⟨a1, a2, a3⟩ := prefR_iff.1 h1
  obtain ⟨b1, b2, b3⟩ := prefR_iff.1 h2
  have ha := a1.length_le
  have hb := b1.length_le
  refine prefR_iff.2 ⟨a1.trans b1, fun h => (a2 (by omega)).trans (b2 (by omega)), fun h => ?_⟩
  by_cases e : A.length = B.length
  · rw [a2 e]; exact b3 (by omega)
  · exact a3 e
theorem prefR_anti {A B : List Cand} {w v : Bool} (h1 : prefR A w B v = true) (h2 : prefR B v A w = true) : A = B ∧ w = v := by
  obtain ⟨a1, a2, a3⟩ := prefR_iff.1 h1
  obtain ⟨b1, b2, b3⟩ := prefR_iff.1 h2
  have ha := a1.length_le
  have hb := b1.length_le
  exact ⟨a1.eq_of_length (by omega), a2 (by omega)⟩
/-- Whether the first n of all are all. -/
def wholeB (A : List Cand) (n : Nat) : Bool := decide (min n A.length = A.length)
theorem pref_takes {A : List Cand} {n m : Nat} (h : n ≤ m) : prefR (A.take n) (wholeB A n) (A.take m) (wholeB A m) = true := by
  refine prefR_iff.2 ⟨?_, fun e => ?_, fun e => ?_⟩
  · have e : A.take n = (A.take m).take n := by rw [List.take_take, Nat.min_eq_left h]
    rw [e]; exact List.take_prefix _ _
  · rw [List.length_take, List.length_take] at e
    unfold wholeB; rw [e]
  · rw [List.length_take, List.length_take] at e
    unfold wholeB; exact decide_eq_false (by omega)
theorem takes_eq {A : List Cand} {n m : Nat} (h : min n A.length = min m A.length) : A.take n = A.take m ∧ wholeB A n = wholeB A m := by
  refine ⟨?_, by unfold wholeB; rw [h]⟩
  rw [List.take_eq_take_iff]; exact h

/-! twice the costs -/
def scC (x : Cand) : Cand := ⟨x.links, 2 * x.cost⟩
def scL (lab : Int) (x : Lnk) : Lnk := ⟨x.f, x.t, lab, 2 * x.c⟩
def sc1 (a : Int) : Int := if a = -1 then -1 else 2 * a
theorem ways_sc (lab : Int) (gl : List Lnk) (N : Int) : ∀ (F : Nat) (n : Int), waysG (gl.map (scL lab)) N F n = (waysG gl N F n).map scC
  | 0, _ => rfl
  | F + 1, n => by
    unfold waysG
    split
    · rfl
    · rw [List.zipIdx_map, List.flatMap_map, List.map_flatMap]
      congr 1
      funext p
      by_cases hf : p.1.f = n
      · rw [if_pos hf, if_pos (show (Prod.map (scL lab) id p).1.f = n from hf)]
        show (waysG (gl.map (scL lab)) N F p.1.t).map (ext p.2 (2 * p.1.c)) = _
        rw [ways_sc lab gl N F p.1.t, List.map_map, List.map_map]
        congr 1
        funext w
        simp only [Function.comp, ext, scC]
        congr 1
        omega
      · rw [if_neg hf, if_neg (show ¬ (Prod.map (scL lab) id p).1.f = n from hf)]
        rfl
theorem candLt_sc (a b : Cand) : candLt (scC a) (scC b) ↔ candLt a b := by unfold candLt scC; dsimp only; omega
theorem insC_sc (x : Cand) (L : List Cand) : insC (scC x) (L.map scC) = (insC x L).map scC := by
  unfold insC
  rw [List.takeWhile_map, List.dropWhile_map, List.map_append, List.map_cons]
  have : ((fun y => decide (candLt y (scC x))) ∘ scC) = fun y => decide (candLt y x) := by
    funext y; simp only [Function.comp, decide_eq_decide]; exact candLt_sc y x
  rw [this]
theorem ordered_sc (L : List Cand) : ordered (L.map scC) = (ordered L).map scC := by
  have key : ∀ (L acc : List Cand), (L.map scC).foldl (fun L x => insC x L) (acc.map scC) = (L.foldl (fun L x => insC x L) acc).map scC := by
    intro L
    induction L with
    | nil => intro acc; rfl
    | cons x L ih => intro acc; rw [List.map_cons, List.foldl_cons, List.foldl_cons, insC_sc]; exact ih _
  exact key L []
theorem allW_sc (lab : Int) (gl : List Lnk) (N : Nat) : allW (gl.map (scL lab)) N = (allW gl N).map scC := by
  unfold allW; rw [ways_sc, ordered_sc]
theorem tv_sc (t : List Int) (j : Int) : tv (t.map sc1) j = sc1 (tv t j) := by
  unfold tv
  rw [List.getElem?_map]
  cases t[j.toNat]? <;> rfl
theorem potT_sc (lab : Int) {t : List Int} (ht : ∀ j, -1 ≤ tv t j) (n : Int) : ∀ (gl : List Lnk), (∀ x ∈ gl, 0 ≤ x.c) → ∀ a, -1 ≤ a →
    -1 ≤ gl.foldl (fun a x => if x.f = n then stepP t a x else a) a ∧ (gl.map (scL lab)).foldl (fun a x => if x.f = n then stepP (t.map sc1) a x else a) (sc1 a) = sc1 (gl.foldl (fun a x => if x.f = n then stepP t a x else a) a)
  | [], _, a, ha => ⟨ha, rfl⟩
  | x :: gl, hg, a, ha => by
    rw [List.map_cons, List.foldl_cons, List.foldl_cons]
    have hx := hg x (List.mem_cons_self ..)
    have h1 := ht x.t
    have key : -1 ≤ (if x.f = n then stepP t a x else a) ∧ (if (scL lab x).f = n then stepP (t.map sc1) (sc1 a) (scL lab x) else sc1 a) = sc1 (if x.f = n then stepP t a x else a) := by
      by_cases hf : x.f = n
      · rw [if_pos hf, if_pos (show (scL lab x).f = n from hf)]
        unfold stepP
        show _ ∧ (if tv (t.map sc1) x.t = -1 then sc1 a else if sc1 a = -1 ∨ 2 * x.c + tv (t.map sc1) x.t < sc1 a then 2 * x.c + tv (t.map sc1) x.t else sc1 a) = _
        rw [tv_sc]
        unfold sc1
        generalize tv t x.t = b at *
        constructor
        · repeat' split
          all_goals omega
        · repeat' split
          all_goals omega
      · rw [if_neg hf, if_neg (show ¬ (scL lab x).f = n from hf)]
        exact ⟨ha, rfl⟩
    rw [key.2]
    exact potT_sc lab ht n gl (fun y hy => hg y (List.mem_cons_of_mem _ hy)) _ key.1
theorem potGo_sc (lab : Int) {gl : List Lnk} (hg : ∀ x ∈ gl, 0 ≤ x.c) : ∀ (m : Nat) (t : List Int), (∀ j, -1 ≤ tv t j) → potGo (gl.map (scL lab)) m (t.map sc1) = (potGo gl m t).map sc1
  | 0, t, _ => rfl
  | m + 1, t, ht => by
    have h := potT_sc lab ht (m : Int) gl hg (-1) (by omega)
    have h2 : potT (gl.map (scL lab)) (t.map sc1) (m : Int) = sc1 (potT gl t (m : Int)) := h.2
    have h1 : -1 ≤ potT gl t (m : Int) := h.1
    unfold potGo
    rw [h2, ← List.map_set]
    refine potGo_sc lab hg m _ fun j => ?_
    have := ht j
    unfold tv at this ⊢
    rw [List.getElem?_set]
    split
    · split
      · simpa using h1
      · simp
    · exact this
theorem pot_sc (lab : Int) {gl : List Lnk} (hg : ∀ x ∈ gl, 0 ≤ x.c) (N : Nat) : pot (gl.map (scL lab)) N = (pot gl N).map sc1 := by
  unfold pot
  have := potGo_sc lab hg (N - 1) (List.replicate N 0) (fun j => by unfold tv; rw [List.getElem?_replicate]; split <;> simp)
  rw [List.map_replicate] at this
  exact this
end Go.Proofs.Ytjdhcblofkkibaa
namespace Go.Proofs.Ytjdhcblofkkibaa
open Go Go.RowKit

def g3 : List Lnk := [⟨0, 1, 0, 1⟩, ⟨1, 2, 0, 1⟩, ⟨0, 2, 0, 5⟩]
def cA : Cand := ⟨[0, 1], 2⟩
def cB : Cand := ⟨[2], 5⟩
theorem g3_valid : validG 3 g3 := by decide
theorem g3_pot : potL 3 g3 = [2, 1, 0] := by decide
theorem g3_potE : potE 3 g3 = 0 := by decide
theorem g0_pot : potL 0 [] = [] := by decide
theorem g0_potE : potE 0 [] = 150 := by decide
theorem k3a : checkR 3 g3 [2, 1, 0] [cA] false = (1, 0) := by rw [check_eq]; decide
theorem k3b : checkR 3 g3 [2, 1, 0] [cB] false = (0, 160) := by rw [check_eq]; decide
theorem k3c : checkR 3 g3 [2, 1, 0] [cA, cB] false = (2, 160) := by rw [check_eq]; decide
theorem k3d : checkR 3 g3 [2, 1, 1] [] false = (-1, 160) := by rw [check_eq]; decide
theorem k0e : checkR 0 [] [] [] false = (0, 150) := by rw [check_eq]; decide
theorem k3f : checkR 3 g3 [2, 1, 0] [cA, cB] true = (2, 0) := by rw [check_eq]; decide
theorem r3a : rightP 3 g3 [2, 1, 0] := by decide
theorem r3b : ¬ rightP 3 g3 [2, 1] := by decide
theorem r0c : ¬ rightP 0 [] [] := by decide

set_option maxHeartbeats 1000000 in
theorem first_c {H : Snap} {vl : Value} {N n : Nat} {gl : List Lnk} (hl : SliceRep H LinkL vl gl) (hg : validG N gl) (hfew : (waysG gl N N 0).length ≤ 2000) (hn : n ≤ 1000000) :
    Pure Try.prog 17 #[.agg #[.int .i64 (N : Int), vl], .int .i64 (n : Int)] H (fun H' r => ∃ v, r = .agg #[v, .bool (decide (min n (allW gl N).length = (allW gl N).length))] ∧ SliceRep H' CandL v ((allW gl N).take n)) := by
  have hao : (allW gl N).length = (waysG gl N N 0).length := ordered_length _
  have hN1 := hg.1
  refine Pure.intro Try.func17 rfl Try.ntmps17 rfl (fun E R hM hR => ?_)
  repeat (first | refine a1 ?_ | refine a3 ?_ | refine a4 ?_ | refine a5 ?_ | refine a6 ?_ | refine s_loadBs ?_ | refine s_loadHs ?_ | refine s_len ?_ | refine s_lenR ?_ | refine s_min ?_ | refine s_sliceHi ?_ | refine s_build ?_ | refine a7 ?_ | refine a8 ?_ | refine a9 ?_ | refine RW.storeR rfl rfl rfl rfl (by first | rfl | (simp [allOne, cellsL, one1]; done) | (simp [allOne, cellsL, one1]; first | assumption | (refine ⟨?_, ?_⟩ <;> assumption))) rfl ?_ | refine a10 ?_ | refine RW.storeR1 rfl rfl (by first | rfl | exact IsSl.one1 (by assumption) | exact IsSl.one1 (SliceRep.isSl (by assumption))) rfl rfl ?_)
  refine RW.box rfl rfl rfl rfl (fun b2 => ?_)
  refine RW.alloc rfl rfl rfl (fun b4 => ?_)
  repeat (first | refine a1 ?_ | refine a3 ?_ | refine a4 ?_ | refine a5 ?_ | refine a6 ?_ | refine s_loadBs ?_ | refine s_loadHs ?_ | refine s_len ?_ | refine s_lenR ?_ | refine s_min ?_ | refine s_sliceHi ?_ | refine s_build ?_ | refine a7 ?_ | refine a8 ?_ | refine a9 ?_ | refine RW.storeR rfl rfl rfl rfl (by first | rfl | (simp [allOne, cellsL, one1]; done) | (simp [allOne, cellsL, one1]; first | assumption | (refine ⟨?_, ?_⟩ <;> assumption))) rfl ?_ | refine a10 ?_ | refine RW.storeR1 rfl rfl (by first | rfl | exact IsSl.one1 (by assumption) | exact IsSl.one1 (SliceRep.isSl (by assumption))) rfl rfl ?_)
  refine RW.call rfl (ways_c (most := 2000) (by omega) hg N 0 H hl (by have := hg.2.1; omega) (by omega) (by omega) (by omega) hfew) rfl rfl ?_
  rintro va Ha hva hlea
  repeat (first | refine a1 ?_ | refine a3 ?_ | refine a4 ?_ | refine a5 ?_ | refine a6 ?_ | refine s_loadBs ?_ | refine s_loadHs ?_ | refine s_len ?_ | refine s_lenR ?_ | refine s_min ?_ | refine s_sliceHi ?_ | refine s_build ?_ | refine a7 ?_ | refine a8 ?_ | refine a9 ?_ | refine RW.storeR rfl rfl rfl rfl (by first | rfl | (simp [allOne, cellsL, one1]; done) | (simp [allOne, cellsL, one1]; first | assumption | (refine ⟨?_, ?_⟩ <;> assumption))) rfl ?_ | refine a10 ?_ | refine RW.storeR1 rfl rfl (by first | rfl | exact IsSl.one1 (by assumption) | exact IsSl.one1 (SliceRep.isSl (by assumption))) rfl rfl ?_)
  refine RW.call rfl (ordered_c hva (by omega)) rfl rfl ?_
  rintro vo Ho hvo hleo
  have hvo' : SliceRep Ho CandL vo (allW gl N) := hvo
  have hbo := hvo'.isSl
  repeat (first | refine a1 ?_ | refine a3 ?_ | refine a4 ?_ | refine a5 ?_ | refine a6 ?_ | refine s_loadBs ?_ | refine s_loadHs ?_ | refine s_len ?_ | refine s_lenR ?_ | refine s_min ?_ | refine s_sliceHi ?_ | refine s_build ?_ | refine a7 ?_ | refine a8 ?_ | refine a9 ?_ | refine RW.storeR rfl rfl rfl rfl (by first | rfl | (simp [allOne, cellsL, one1]; done) | (simp [allOne, cellsL, one1]; first | assumption | (refine ⟨?_, ?_⟩ <;> assumption))) rfl ?_ | refine a10 ?_ | refine RW.storeR1 rfl rfl (by first | rfl | exact IsSl.one1 (by assumption) | exact IsSl.one1 (SliceRep.isSl (by assumption))) rfl rfl ?_)
  rw [min_ite]
  have hm1 : min n (allW gl N).length ≤ (allW gl N).length := Nat.min_le_right ..
  have htk : (allW gl N).take n = (allW gl N).take (min n (allW gl N).length) := by
    rw [List.take_eq_take_iff]; omega
  rw [htk] at hR
  generalize min n (allW gl N).length = m at hm1 hR ⊢
  repeat (first | refine a1 ?_ | refine a3 ?_ | refine a4 ?_ | refine a5 ?_ | refine a6 ?_ | refine s_loadBs ?_ | refine s_loadHs ?_ | refine s_len ?_ | refine s_lenR ?_ | refine s_min ?_ | refine s_sliceHi ?_ | refine s_build ?_ | refine a7 ?_ | refine a8 ?_ | refine a9 ?_ | refine RW.storeR rfl rfl rfl rfl (by first | rfl | (simp [allOne, cellsL, one1]; done) | (simp [allOne, cellsL, one1]; first | assumption | (refine ⟨?_, ?_⟩ <;> assumption))) rfl ?_ | refine a10 ?_ | refine RW.storeR1 rfl rfl (by first | rfl | exact IsSl.one1 (by assumption) | exact IsSl.one1 (SliceRep.isSl (by assumption))) rfl rfl ?_)
  refine RW.buildSlice rfl rfl rfl rfl rfl rfl rfl (fun v14 hv14 => ?_)
  repeat (first | refine a1 ?_ | refine a3 ?_ | refine a4 ?_ | refine a5 ?_ | refine a6 ?_ | refine s_loadBs ?_ | refine s_loadHs ?_ | refine s_len ?_ | refine s_lenR ?_ | refine s_min ?_ | refine s_sliceHi ?_ | refine s_build ?_ | refine a7 ?_ | refine a8 ?_ | refine a9 ?_ | refine RW.storeR rfl rfl rfl rfl (by first | rfl | (simp [allOne, cellsL, one1]; done) | (simp [allOne, cellsL, one1]; first | assumption | (refine ⟨?_, ?_⟩ <;> assumption))) rfl ?_ | refine a10 ?_ | refine RW.storeR1 rfl rfl (by first | rfl | exact IsSl.one1 (by assumption) | exact IsSl.one1 (SliceRep.isSl (by assumption))) rfl rfl ?_)
  have hslo : SliceRep Ho CandL (slv vo 2 0 m (capOf vo)) (((allW gl N).drop 0).take (m - 0)) := hvo'.slv rfl (Nat.zero_le _) hm1 (Nat.le_trans hm1 hvo'.capOf_le) (Nat.le_refl _)
  have hl1 : (((allW gl N).drop 0).take (m - 0)).length = m := by simp only [List.drop_zero, Nat.sub_zero, List.length_take]; omega
  refine RW.appendH rfl rfl (hslo) (by rfl) rfl (by decide) (by omega) (by omega) (fun _ _ => inferInstance) rfl rfl (fun d1 v18 hd1 hv18 => ?_)
  obtain ⟨A18, c18, rfl, _, _⟩ := hv18
  have hdd : decide ((m : Int) = ((allW gl N).length : Int)) = decide (m = (allW gl N).length) := by rw [decide_eq_decide]; omega
  repeat (first | refine a1 ?_ | refine a3 ?_ | refine a4 ?_ | refine a5 ?_ | refine a6 ?_ | refine s_loadBs ?_ | refine s_loadHs ?_ | refine s_len ?_ | refine s_lenR ?_ | refine s_min ?_ | refine s_sliceHi ?_ | refine s_build ?_ | refine a7 ?_ | refine a8 ?_ | refine a9 ?_ | refine RW.storeR rfl rfl rfl rfl (by first | rfl | (simp [allOne, cellsL, one1]; done) | (simp [allOne, cellsL, one1]; first | assumption | (refine ⟨?_, ?_⟩ <;> assumption))) rfl ?_ | refine a10 ?_ | refine RW.storeR1 rfl rfl (by first | rfl | exact IsSl.one1 (by assumption) | exact IsSl.one1 (SliceRep.isSl (by assumption))) rfl rfl ?_)
  refine Runs.freeze (H := Ho) (.slice A18 (0 + (((allW gl N).drop 0).take (m - 0)).length) c18) hM (fun H1 hle1 hs1 hc1 => ?_)
  rw [hdd]
  refine Runs.retC Try.func17 Try.results17 rfl (fun w hm => hR _ w _ H1 _ (by simp) ((hlea.trans hleo).trans hle1) ?_ hm)
  refine ⟨_, rfl, SliceRep.of_row hs1 (by simp) ?_ (Snap.le.refl _) hc1⟩
  have := hd1.mono hle1
  rwa [List.drop_zero, Nat.sub_zero] at this

end Go.Proofs.Ytjdhcblofkkibaa
namespace Go.Proofs.Ytjdhcblofkkibaa
open Go Go.RowKit

theorem commonN_self_take (L : List Cand) (n : Nat) : commonN (L.take n) L = (L.take n).length := by
  refine commonN_at _ _ _ (Nat.le_refl _) (fun j hj => ?_) (.inl rfl)
  rw [List.getElem?_take_of_lt]
  simp at hj; omega
theorem check_first {N : Nat} {gl : List Lnk} (hg : validG N gl) (n : Nat) : checkR N gl (pot gl N) ((allW gl N).take n) (decide (min n (allW gl N).length = (allW gl N).length)) = (((min n (allW gl N).length : Nat) : Int), 0) := by
  have hr : rightP N gl (pot gl N) := ⟨hg, by rw [Int.toNat_natCast]⟩
  have hgn : ¬ ¬ validG N gl := fun h => h hg
  have hrn : ¬ ¬ rightP N gl (pot gl N) := fun h => h hr
  rw [check_eq, rcheckR, if_neg hgn, if_neg hrn, Int.toNat_natCast, commonN_self_take, List.length_take, if_neg]
  rintro (h | h)
  · omega
  · exact h rfl
theorem check_wrong {N : Nat} {gl : List Lnk} (hg : validG N gl) {h : List Int} {L : List Cand} {w : Bool} (hr : ¬ rightP N gl h) : checkR N gl h L w = (-1, 160) := by
  have hgn : ¬ ¬ validG N gl := fun h => h hg
  rw [check_eq, rcheckR, if_neg hgn, if_pos hr]
theorem potL_valid {N : Nat} {gl : List Lnk} (hg : validG N gl) : potL N gl = pot gl N := by unfold potL; rw [if_pos hg, Int.toNat_natCast]
theorem potE_valid {N : Nat} {gl : List Lnk} (hg : validG N gl) : potE N gl = 0 := by unfold potE; rw [if_pos hg]
theorem allW_links {N : Nat} {gl : List Lnk} (hg : ∀ x ∈ gl, okL (N : Int) x) {x : Cand} (hx : x ∈ allW gl N) : x.links.length ≤ N := (waysG_bound hg N 0 x ((ordered_perm _).mem_iff.1 hx)).1

end Go.Proofs.Ytjdhcblofkkibaa
namespace Go.Proofs.Ytjdhcblofkkibaa
open Go Go.RowKit

theorem check_first_not {N : Nat} {gl : List Lnk} (hg : validG N gl) (n : Nat) : checkR N gl (pot gl N) ((allW gl N).take n) (!decide (min n (allW gl N).length = (allW gl N).length)) = (((min n (allW gl N).length : Nat) : Int), 160) := by
  have hr : rightP N gl (pot gl N) := ⟨hg, by rw [Int.toNat_natCast]⟩
  have hgn : ¬ ¬ validG N gl := fun h => h hg
  have hrn : ¬ ¬ rightP N gl (pot gl N) := fun h => h hr
  rw [check_eq, rcheckR, if_neg hgn, if_neg hrn, Int.toNat_natCast, commonN_self_take, List.length_take, if_pos]
  refine .inr ?_
  cases decide (min n (allW gl N).length = (allW gl N).length) <;> simp
theorem listR_take {N k : Nat} {gl : List Lnk} (hg : validG N gl) (hk : k ≤ 50) : listR N gl k = (allW gl N).take k ∧ listE N gl k = 0 := by
  have hgn : ¬ ¬ validG N gl := fun h => h hg
  refine ⟨?_, ?_⟩
  · rw [listR, if_pos ⟨hg, by omega, by omega⟩, Int.toNat_natCast, Int.toNat_natCast]; rfl
  · rw [listE, if_neg hgn, if_neg (by omega)]

end Go.Proofs.Ytjdhcblofkkibaa

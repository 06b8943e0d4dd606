/-
  Check computes what the reference computes; the contracts of the reference's Check and First. Conditions: at most 2000 ways.
-/
import Derived.Test.YthlolpckgffebaaPi
import Derived.Test.YthlolpckgffebaaPk
namespace Go.Proofs.Ythlolpckgffebaa
open Go Go.RowKit

def allW (gl : List Lnk) (N : Nat) : List Cand := ordered (waysG gl N N 0)
def commonN : List Cand → List Cand → Nat
  | x :: xs, y :: ys => if x = y then commonN xs ys + 1 else 0
  | _, _ => 0
theorem commonN_le : ∀ a b : List Cand, commonN a b ≤ a.length ∧ commonN a b ≤ b.length
  | [], b => by simp [commonN]
  | x :: xs, [] => by simp [commonN]
  | x :: xs, y :: ys => by
    simp only [commonN]
    split
    · have := commonN_le xs ys; simp; omega
    · simp
theorem commonN_at : ∀ (a b : List Cand) (k : Nat), k ≤ a.length → (∀ j, j < k → a[j]? = b[j]?) → (k = a.length ∨ a[k]? ≠ b[k]?) → commonN a b = k
  | [], b, k, hk, _, _ => by simp at hk; simp [commonN, hk]
  | x :: xs, [], k, hk, h1, h2 => by
    cases k with
    | zero => simp [commonN]
    | succ k => have := h1 0 (by omega); simp at this
  | x :: xs, y :: ys, 0, hk, h1, h2 => by
    have : x ≠ y := fun e => by rcases h2 with h2 | h2 <;> simp_all
    simp [commonN, this]
  | x :: xs, y :: ys, k + 1, hk, h1, h2 => by
    have e : x = y := by have := h1 0 (by omega); simpa using this
    simp only [commonN, if_pos e]
    rw [commonN_at xs ys k (by simpa using hk) (fun j hj => by have := h1 (j + 1) (by omega); simpa using this) (by
      rcases h2 with h2 | h2
      · exact .inl (by simpa using h2)
      · exact .inr (by simpa using h2))]
/-- What the reference's Check returns. -/
def rcheckR (N : Int) (gl : List Lnk) (h : List Int) (L : List Cand) (w : Bool) : Int × Int :=
  if ¬ validG N gl then (0, 150) else if ¬ rightP N gl h then (-1, 160) else
    if commonN L (allW gl N.toNat) < L.length ∨ w ≠ decide (L.length = (allW gl N.toNat).length) then ((commonN L (allW gl N.toNat) : Nat), 160) else (((commonN L (allW gl N.toNat) : Nat) : Int), 0)

section
variable {gl : List Lnk} {N : Nat} {h : List Int}
theorem strict_ne {L : List Cand} (hs : L.Pairwise candLt) {i j : Nat} {a b : Cand} (ha : L[i]? = some a) (hb : L[j]? = some b) (hij : i < j) : candLt a b := by
  obtain ⟨h1, e1⟩ := List.getElem?_eq_some_iff.1 ha
  obtain ⟨h2, e2⟩ := List.getElem?_eq_some_iff.1 hb
  subst e1; subst e2
  exact (List.pairwise_iff_getElem.1 hs) i j h1 h2 hij
theorem candLt_irrefl (a : Cand) : ¬ candLt a a := fun h => candLt_asymm h h
theorem not_taken {L : List Cand} (hs : L.Pairwise candLt) {k j : Nat} {a : Cand} (ha : L[j]? = some a) (hk : k ≤ j) : a ∉ L.take k := by
  intro hm
  obtain ⟨i, hi⟩ := List.getElem?_of_mem hm
  have hik : i < k := by have := (List.getElem?_eq_some_iff.1 hi).1; simp at this; omega
  rw [List.getElem?_take_of_lt hik] at hi
  exact candLt_irrefl a (strict_ne hs hi ha (by omega))
theorem next_at {k : Nat} {x : Cand} : IsNext gl N ((allW gl N).take k) x ↔ (allW gl N)[k]? = some x := by
  have hs := ordered_strict gl N N 0
  have hmem : ∀ w, w ∈ waysG gl N N 0 ↔ w ∈ allW gl N := fun w => (ordered_perm _).mem_iff.symm
  constructor
  · rintro ⟨h1, h2, h3⟩
    obtain ⟨j, hj⟩ := List.getElem?_of_mem ((hmem x).1 h1)
    have hjk : k ≤ j := by
      by_cases hjk : k ≤ j
      · exact hjk
      · exact absurd (List.mem_of_getElem? (by rw [List.getElem?_take_of_lt (show j < k by omega)]; exact hj)) h2
    by_cases e : j = k
    · rw [← e]; exact hj
    · have hjl := (List.getElem?_eq_some_iff.1 hj).1
      have hy : (allW gl N)[k]? = some (allW gl N)[k] := List.getElem?_eq_getElem (by omega)
      generalize (allW gl N)[k] = y at hy
      have hyx := strict_ne hs hy hj (by omega)
      rcases h3 y ((hmem y).2 (List.mem_of_getElem? hy)) (not_taken hs hy (Nat.le_refl _)) with rfl | h4
      · exact absurd hyx (candLt_irrefl _)
      · exact absurd h4 (candLt_asymm hyx)
  · intro hk
    refine ⟨(hmem x).2 (List.mem_of_getElem? hk), not_taken hs hk (Nat.le_refl _), fun w hw hwk => ?_⟩
    obtain ⟨j, hj⟩ := List.getElem?_of_mem ((hmem w).1 hw)
    have hjk : k ≤ j := by
      by_cases hjk : k ≤ j
      · exact hjk
      · exact absurd (List.mem_of_getElem? (by rw [List.getElem?_take_of_lt (show j < k by omega)]; exact hj)) hwk
    by_cases e : j = k
    · subst e; rw [hk] at hj; exact .inl (Option.some.inj hj).symm
    · exact .inr (strict_ne hs hk hj (by omega))
theorem known_ways (k : Nat) : ∀ x ∈ (allW gl N).take k, x ∈ waysG gl N N 0 := fun x hx => (ordered_perm _).mem_iff.1 (List.mem_of_mem_take hx)
theorem checkN_common (hg : ∀ x ∈ gl, okL (N : Int) x) (hN : 0 < N) (hp : IsPot N gl 0 h) : ∀ (L : List Cand) (k : Nat), k ≤ (allW gl N).length → checkN gl h N ((allW gl N).take k) L = k + commonN L ((allW gl N).drop k)
  | [], k, hk => by simp [checkN, commonN]; omega
  | x :: r, k, hk => by
    rw [checkN]
    by_cases ha : accR gl h N ((allW gl N).take k) x
    · have hx := next_at.1 ((acc_iff hg hN hp (known_ways k)).1 ha)
      have hkl := (List.getElem?_eq_some_iff.1 hx).1
      rw [if_pos ha, ← take_snoc_of hx, checkN_common hg hN hp r (k + 1) (by omega), drop_cons_of hx, commonN, if_pos rfl]
      omega
    · have hx : ¬ (allW gl N)[k]? = some x := fun e => ha ((acc_iff hg hN hp (known_ways k)).2 (next_at.2 e))
      rw [if_neg ha]
      by_cases hkl : k < (allW gl N).length
      · have hy : (allW gl N)[k]? = some (allW gl N)[k] := List.getElem?_eq_getElem hkl
        rw [drop_cons_of hy, commonN, if_neg (fun e => hx (by rw [hy, e]))]
        simp; omega
      · rw [List.drop_eq_nil_of_le (by omega)]
        simp [commonN]; omega
theorem left_empty (hg : ∀ x ∈ gl, okL (N : Int) x) (hN : 0 < N) (hp : IsPot N gl 0 h) {k : Nat} (hk : k ≤ (allW gl N).length) : (leftL gl h N ((allW gl N).take k)).isEmpty = decide (k = (allW gl N).length) := by
  by_cases e : k = (allW gl N).length
  · rw [decide_eq_true e]
    rw [List.isEmpty_iff]
    refine List.eq_nil_iff_forall_not_mem.2 fun y hy => ?_
    obtain ⟨⟨w, hw, hwp, _⟩, hyk, _⟩ := left_sound hg hN hp (known_ways k) hy
    refine hyk w ?_ hwp
    rw [e, List.take_length]
    exact (ordered_perm _).mem_iff.2 hw
  · rw [decide_eq_false e]
    have hy : (allW gl N)[k]? = some (allW gl N)[k] := List.getElem?_eq_getElem (by omega)
    generalize (allW gl N)[k] = x at hy
    obtain ⟨h1, h2, _⟩ := next_at.2 hy
    obtain ⟨y, hy, _⟩ := left_complete hg hN hp (known_ways k) h1 h2
    cases hl : leftL gl h N ((allW gl N).take k) with
    | nil => rw [hl] at hy; simp at hy
    | cons _ _ => rfl
theorem commonN_take : ∀ (a b : List Cand), a.take (commonN a b) = b.take (commonN a b)
  | [], b => by simp [commonN]
  | x :: xs, [] => by simp [commonN]
  | x :: xs, y :: ys => by
    simp only [commonN]
    split
    · rename_i e; subst e; simp only [List.take_succ_cons]; rw [commonN_take xs ys]
    · simp
theorem check_eq (N : Int) (gl : List Lnk) (h : List Int) (L : List Cand) (w : Bool) : checkR N gl h L w = rcheckR N gl h L w := by
  unfold checkR rcheckR
  by_cases hg : validG N gl
  · have hgn : ¬ ¬ validG N gl := fun h => h hg
    rw [if_neg hgn, if_neg hgn]
    by_cases hr : rightP N gl h
    · have hrn : ¬ ¬ rightP N gl h := fun h => h hr
      rw [if_neg hrn, if_neg hrn]
      obtain ⟨hN1, hN2, hlen, hall⟩ := hg
      obtain ⟨M, rfl⟩ : ∃ M : Nat, N = (M : Int) := ⟨N.toNat, by omega⟩
      have hp : IsPot M gl 0 h := by
        have := hr.2
        rw [Int.toNat_natCast] at this
        rw [this]; exact pot_is hall (by omega)
      rw [Int.toNat_natCast]
      have h1 := checkN_common hall (by omega) hp L 0 (Nat.zero_le _)
      rw [List.take_zero, List.drop_zero, Nat.zero_add] at h1
      rw [h1]
      have hle := commonN_le L (allW gl M)
      by_cases hc : commonN L (allW gl M) < L.length
      · rw [if_pos (.inl hc), if_pos (.inl hc)]
      · have hcl : commonN L (allW gl M) = L.length := by omega
        have h2 := left_empty hall (by omega) hp hle.2
        rw [← commonN_take] at h2
        rw [h2, hcl]
        by_cases hw : w = decide (L.length = (allW gl M).length)
        · rw [if_neg (fun h => h.elim (fun h => by omega) (fun h => h hw.symm)), if_neg (fun h => h.elim (fun h => by omega) (fun h => h hw))]
        · rw [if_pos (.inr (Ne.symm hw)), if_pos (.inr hw)]
    · rw [if_pos hr, if_pos hr]
  · rw [if_pos hg, if_pos hg]
end

set_option maxHeartbeats 2000000 in
theorem rcheck_c {H : Snap} {vl vh vp : Value} {N : Int} {gl : List Lnk} {h : List Int} {L : List Cand} {w : Bool} (hl : SliceRep H LinkL vl gl) (hh : SliceRep H I64 vh h) (hp : SliceRep H CandL vp L) (hfew : validG N gl → (waysG gl N N.toNat 0).length ≤ 2000) :
    Pure Try.prog 20 #[.agg #[.int .i64 N, vl], vh, .agg #[vp, .bool w]] H (fun _ r => r = .tuple #[.int .i64 (checkR N gl h L w).1, .int .i64 (checkR N gl h L w).2]) := by
  have hbl := hl.isSl.bound
  have hbp := hp.isSl.bound
  rw [check_eq]
  by_cases hg : validG N gl
  case neg =>
    have e : rcheckR N gl h L w = (0, 150) := by unfold rcheckR; rw [if_pos hg]
    rw [e]
    refine Pure.intro Try.func20 rfl Try.ntmps20 rfl (fun E R hM hR => ?_)
    repeat (first | refine a1 ?_ | refine a3 ?_ | refine a4 ?_ | refine a5 ?_ | refine a6 ?_ | refine s_loadBs ?_ | refine s_loadHs ?_ | refine s_fieldB ?_ | refine s_fieldV ?_ | refine s_loadB ?_ | refine s_loadH ?_ | refine s_loadR ?_ | refine s_len ?_ | refine s_lenR ?_ | refine s_index ?_ | refine s_indexR ?_ | refine s_addI ?_ | refine s_neqB ?_ | refine a7 ?_ | refine a8 ?_)
    refine RW.box rfl rfl rfl rfl (fun b3 => ?_)
    refine RW.box rfl rfl rfl rfl (fun b5 => ?_)
    repeat (first | refine a1 ?_ | refine a3 ?_ | refine a4 ?_ | refine a5 ?_ | refine a6 ?_ | refine s_loadBs ?_ | refine s_loadHs ?_ | refine s_fieldB ?_ | refine s_fieldV ?_ | refine s_loadB ?_ | refine s_loadH ?_ | refine s_loadR ?_ | refine s_len ?_ | refine s_lenR ?_ | refine s_index ?_ | refine s_indexR ?_ | refine s_addI ?_ | refine s_neqB ?_ | refine a7 ?_ | refine a8 ?_)
    refine RW.callV rfl (rvalid_c hl) rfl rfl ?_
    rintro _ _ rfl
    rw [decide_eq_false hg]
    repeat (first | refine a1 ?_ | refine a3 ?_ | refine a4 ?_ | refine a5 ?_ | refine a6 ?_ | refine s_loadBs ?_ | refine s_loadHs ?_ | refine s_fieldB ?_ | refine s_fieldV ?_ | refine s_loadB ?_ | refine s_loadH ?_ | refine s_loadR ?_ | refine s_len ?_ | refine s_lenR ?_ | refine s_index ?_ | refine s_indexR ?_ | refine s_addI ?_ | refine s_neqB ?_ | refine a7 ?_ | refine a8 ?_)
    refine Runs.ret2 Try.func20 Try.results20 rfl rfl (fun w hm => hR _ w _ H _ (List.mem_cons_self ..) (Snap.le.refl _) ?_ hm)
    rfl
  by_cases hr : rightP N gl h
  case neg =>
    have e : rcheckR N gl h L w = (-1, 160) := by unfold rcheckR; rw [if_neg (fun h => h hg), if_pos hr]
    rw [e]
    refine Pure.intro Try.func20 rfl Try.ntmps20 rfl (fun E R hM hR => ?_)
    repeat (first | refine a1 ?_ | refine a3 ?_ | refine a4 ?_ | refine a5 ?_ | refine a6 ?_ | refine s_loadBs ?_ | refine s_loadHs ?_ | refine s_fieldB ?_ | refine s_fieldV ?_ | refine s_loadB ?_ | refine s_loadH ?_ | refine s_loadR ?_ | refine s_len ?_ | refine s_lenR ?_ | refine s_index ?_ | refine s_indexR ?_ | refine s_addI ?_ | refine s_neqB ?_ | refine a7 ?_ | refine a8 ?_)
    refine RW.box rfl rfl rfl rfl (fun b3 => ?_)
    refine RW.box rfl rfl rfl rfl (fun b5 => ?_)
    repeat (first | refine a1 ?_ | refine a3 ?_ | refine a4 ?_ | refine a5 ?_ | refine a6 ?_ | refine s_loadBs ?_ | refine s_loadHs ?_ | refine s_fieldB ?_ | refine s_fieldV ?_ | refine s_loadB ?_ | refine s_loadH ?_ | refine s_loadR ?_ | refine s_len ?_ | refine s_lenR ?_ | refine s_index ?_ | refine s_indexR ?_ | refine s_addI ?_ | refine s_neqB ?_ | refine a7 ?_ | refine a8 ?_)
    refine RW.callV rfl (rvalid_c hl) rfl rfl ?_
    rintro _ _ rfl
    rw [decide_eq_true hg]
    repeat (first | refine a1 ?_ | refine a3 ?_ | refine a4 ?_ | refine a5 ?_ | refine a6 ?_ | refine s_loadBs ?_ | refine s_loadHs ?_ | refine s_fieldB ?_ | refine s_fieldV ?_ | refine s_loadB ?_ | refine s_loadH ?_ | refine s_loadR ?_ | refine s_len ?_ | refine s_lenR ?_ | refine s_index ?_ | refine s_indexR ?_ | refine s_addI ?_ | refine s_neqB ?_ | refine a7 ?_ | refine a8 ?_)
    refine RW.callV rfl (rright_c hl hh) rfl rfl ?_
    rintro _ _ rfl
    rw [decide_eq_false hr]
    repeat (first | refine a1 ?_ | refine a3 ?_ | refine a4 ?_ | refine a5 ?_ | refine a6 ?_ | refine s_loadBs ?_ | refine s_loadHs ?_ | refine s_fieldB ?_ | refine s_fieldV ?_ | refine s_loadB ?_ | refine s_loadH ?_ | refine s_loadR ?_ | refine s_len ?_ | refine s_lenR ?_ | refine s_index ?_ | refine s_indexR ?_ | refine s_addI ?_ | refine s_neqB ?_ | refine a7 ?_ | refine a8 ?_)
    refine Runs.ret2 Try.func20 Try.results20 rfl rfl (fun w hm => hR _ w _ H _ (List.mem_cons_self ..) (Snap.le.refl _) ?_ hm)
    rfl
  have hg' := hg
  obtain ⟨hN1, hN2, hlen2, hall⟩ := hg
  obtain ⟨N, rfl⟩ : ∃ M : Nat, N = (M : Int) := ⟨N.toNat, by omega⟩
  have hfew := hfew hg'
  have e : rcheckR N gl h L w = if commonN L (allW gl N) < L.length ∨ w ≠ decide (L.length = (allW gl N).length) then (((commonN L (allW gl N) : Nat) : Int), 160) else (((commonN L (allW gl N) : Nat) : Int), 0) := by
    unfold rcheckR; rw [if_neg (fun h => h hg'), if_neg (fun h => h hr), Int.toNat_natCast]
  rw [e]
  rw [Int.toNat_natCast] at hfew
  refine Pure.intro Try.func20 rfl Try.ntmps20 rfl (fun E R hM hR => ?_)
  repeat (first | refine a1 ?_ | refine a3 ?_ | refine a4 ?_ | refine a5 ?_ | refine a6 ?_ | refine s_loadBs ?_ | refine s_loadHs ?_ | refine s_fieldB ?_ | refine s_fieldV ?_ | refine s_loadB ?_ | refine s_loadH ?_ | refine s_loadR ?_ | refine s_len ?_ | refine s_lenR ?_ | refine s_index ?_ | refine s_indexR ?_ | refine s_addI ?_ | refine s_neqB ?_ | refine a7 ?_ | refine a8 ?_)
  refine RW.box rfl rfl rfl rfl (fun b3 => ?_)
  refine RW.box rfl rfl rfl rfl (fun b5 => ?_)
  repeat (first | refine a1 ?_ | refine a3 ?_ | refine a4 ?_ | refine a5 ?_ | refine a6 ?_ | refine s_loadBs ?_ | refine s_loadHs ?_ | refine s_fieldB ?_ | refine s_fieldV ?_ | refine s_loadB ?_ | refine s_loadH ?_ | refine s_loadR ?_ | refine s_len ?_ | refine s_lenR ?_ | refine s_index ?_ | refine s_indexR ?_ | refine s_addI ?_ | refine s_neqB ?_ | refine a7 ?_ | refine a8 ?_)
  refine RW.callV rfl (rvalid_c hl) rfl rfl ?_
  rintro _ _ rfl
  rw [decide_eq_true hg']
  repeat (first | refine a1 ?_ | refine a3 ?_ | refine a4 ?_ | refine a5 ?_ | refine a6 ?_ | refine s_loadBs ?_ | refine s_loadHs ?_ | refine s_fieldB ?_ | refine s_fieldV ?_ | refine s_loadB ?_ | refine s_loadH ?_ | refine s_loadR ?_ | refine s_len ?_ | refine s_lenR ?_ | refine s_index ?_ | refine s_indexR ?_ | refine s_addI ?_ | refine s_neqB ?_ | refine a7 ?_ | refine a8 ?_)
  refine RW.callV rfl (rright_c hl hh) rfl rfl ?_
  rintro _ _ rfl
  rw [decide_eq_true hr]
  repeat (first | refine a1 ?_ | refine a3 ?_ | refine a4 ?_ | refine a5 ?_ | refine a6 ?_ | refine s_loadBs ?_ | refine s_loadHs ?_ | refine s_fieldB ?_ | refine s_fieldV ?_ | refine s_loadB ?_ | refine s_loadH ?_ | refine s_loadR ?_ | refine s_len ?_ | refine s_lenR ?_ | refine s_index ?_ | refine s_indexR ?_ | refine s_addI ?_ | refine s_neqB ?_ | refine a7 ?_ | refine a8 ?_)
  refine RW.call rfl (ways_c (most := 2000) (by omega) hg' N 0 H hl (by omega) (by omega) (by omega) (by omega) hfew) rfl rfl ?_
  rintro va Ha hva hlea
  repeat (first | refine a1 ?_ | refine a3 ?_ | refine a4 ?_ | refine a5 ?_ | refine a6 ?_ | refine s_loadBs ?_ | refine s_loadHs ?_ | refine s_fieldB ?_ | refine s_fieldV ?_ | refine s_loadB ?_ | refine s_loadH ?_ | refine s_loadR ?_ | refine s_len ?_ | refine s_lenR ?_ | refine s_index ?_ | refine s_indexR ?_ | refine s_addI ?_ | refine s_neqB ?_ | refine a7 ?_ | refine a8 ?_)
  refine RW.call rfl (ordered_c hva (by omega)) rfl rfl ?_
  rintro vo Ho hvo hleo
  have hao : (allW gl N).length = (waysG gl N N 0).length := ordered_length _
  have hvo' : SliceRep Ho CandL vo (allW gl N) := hvo
  have hbo := hvo'.isSl
  have hp1 := hp.mono (hlea.trans hleo)
  repeat (first | refine a1 ?_ | refine a3 ?_ | refine a4 ?_ | refine a5 ?_ | refine a6 ?_ | refine s_loadBs ?_ | refine s_loadHs ?_ | refine s_fieldB ?_ | refine s_fieldV ?_ | refine s_loadB ?_ | refine s_loadH ?_ | refine s_loadR ?_ | refine s_len ?_ | refine s_lenR ?_ | refine s_index ?_ | refine s_indexR ?_ | refine s_addI ?_ | refine s_neqB ?_ | refine a7 ?_ | refine a8 ?_)
  refine Runs.loop (fun k : Nat => k ≤ L.length ∧ ∀ j, j < k → L[j]? = (allW gl N)[j]?) (fun k => L.length - k) (fun _ => [Ho]) (fun _ => [.blk b5 44 [vp, .bool w]])
    (fun k => [(5, .pointer (some ⟨b5, 0, none⟩)), (10, vo), (11, .int .i64 (k : Int))]) 0 ⟨Nat.zero_le _, by simp⟩ (fun h => by
      refine Runs.weak (h) (by repeat (first | exact trivial | refine And.intro rfl ?_)) (fun x hx => List.mem_cons_of_mem _ (SubH.h x hx)) (by repeat (first | exact List.nil_sublist _ | exact List.Sublist.refl _ | refine List.Sublist.cons_cons _ ?_ | refine List.Sublist.cons _ ?_))) ?_
  rintro k ⟨hk, hI⟩ ih
  repeat (first | refine a1 ?_ | refine a3 ?_ | refine a4 ?_ | refine a5 ?_ | refine a6 ?_ | refine s_loadBs ?_ | refine s_loadHs ?_ | refine s_fieldB ?_ | refine s_fieldV ?_ | refine s_loadB ?_ | refine s_loadH ?_ | refine s_loadR ?_ | refine s_len ?_ | refine s_lenR ?_ | refine s_index ?_ | refine s_indexR ?_ | refine s_addI ?_ | refine s_neqB ?_ | refine a7 ?_ | refine a8 ?_)
  refine Runs.cond_d rfl (fun hlt => ?_) (fun hlt => ?_)
  · obtain ⟨x, hx⟩ : ∃ x, L[k]? = some x := ⟨_, List.getElem?_eq_getElem (by omega)⟩
    obtain ⟨vx, hvx, _, _, hx2⟩ := hp1.cand hx
    repeat (first | refine a1 ?_ | refine a3 ?_ | refine a4 ?_ | refine a5 ?_ | refine a6 ?_ | refine s_loadBs ?_ | refine s_loadHs ?_ | refine s_fieldB ?_ | refine s_fieldV ?_ | refine s_loadB ?_ | refine s_loadH ?_ | refine s_loadR ?_ | refine s_len ?_ | refine s_lenR ?_ | refine s_index ?_ | refine s_indexR ?_ | refine s_addI ?_ | refine s_neqB ?_ | refine a7 ?_ | refine a8 ?_)
    refine Runs.regionD _ _ [] (fun x hx => List.mem_cons_of_mem _ hx) (List.Sublist.refl _) (by kernel_rfl) ?_
    refine d1 0 2 ?_
    (first | refine t_len 2 ?_ | refine t_lenR 2 ?_)
    refine d1 3 2 ?_
    refine DW.dec 35 rfl (fun hko => ?_) (fun hko => ?_)
    · have hne : L[k]? ≠ (allW gl N)[k]? := by
        rw [hx, List.getElem?_eq_none (by omega)]; simp
      rw [commonN_at L (allW gl N) k hk hI (.inr hne), if_pos (.inl (by omega))] at hR
      refine d3 5 ?_
      refine d3 6 ?_
      refine d3 7 ?_
      refine d3 8 ?_
      refine d3 9 ?_
      refine d3 10 ?_
      refine d3 11 ?_
      refine d3 12 ?_
      refine d3 13 ?_
      refine d3 14 ?_
      refine d3 15 ?_
      refine d2 16 ?_
      refine DW.done (by kernel_rfl) ?_
      repeat (first | refine a1 ?_ | refine a3 ?_ | refine a4 ?_ | refine a5 ?_ | refine a6 ?_ | refine s_loadBs ?_ | refine s_loadHs ?_ | refine s_fieldB ?_ | refine s_fieldV ?_ | refine s_loadB ?_ | refine s_loadH ?_ | refine s_loadR ?_ | refine s_len ?_ | refine s_lenR ?_ | refine s_index ?_ | refine s_indexR ?_ | refine s_addI ?_ | refine s_neqB ?_ | refine a7 ?_ | refine a8 ?_)
      refine Runs.ret2 Try.func20 Try.results20 rfl rfl (fun w hm => hR _ w _ H _ (List.mem_cons_self ..) (Snap.le.refl _) ?_ hm)
      rfl
    · obtain ⟨y, hy⟩ : ∃ y, (allW gl N)[k]? = some y := ⟨_, List.getElem?_eq_getElem (by omega)⟩
      obtain ⟨vy, hvy, _, _, hy2⟩ := hvo'.cand hy
      (first | refine t_fieldB 5 ?_ | refine t_fieldV 5 ?_)
      (first | refine t_loadB 6 ?_ | refine t_loadH 6 ?_ | refine t_loadR 6 ?_)
      refine d2 7 ?_
      (first | refine t_index 8 ?_ | refine t_indexR 8 ?_)
      (first | refine t_loadBs 9 ?_ | refine t_loadHs 9 ?_)
      refine d1 10 2 ?_
      (first | refine t_index 12 ?_ | refine t_indexR 12 ?_)
      (first | refine t_loadBs 13 ?_ | refine t_loadHs 13 ?_)
      refine DW.callV 14 rfl (by kernel_rfl) rfl (candq_c hvx hvy) rfl rfl ?_
      rintro _ _ rfl
      refine d1 15 2 ?_
      refine DW.done (by kernel_rfl) ?_
      repeat (first | refine a1 ?_ | refine a3 ?_ | refine a4 ?_ | refine a5 ?_ | refine a6 ?_ | refine s_loadBs ?_ | refine s_loadHs ?_ | refine s_fieldB ?_ | refine s_fieldV ?_ | refine s_loadB ?_ | refine s_loadH ?_ | refine s_loadR ?_ | refine s_len ?_ | refine s_lenR ?_ | refine s_index ?_ | refine s_indexR ?_ | refine s_addI ?_ | refine s_neqB ?_ | refine a7 ?_ | refine a8 ?_)
      by_cases hxy : x = y
      · rw [decide_eq_true hxy]
        subst hxy
        repeat (first | refine a1 ?_ | refine a3 ?_ | refine a4 ?_ | refine a5 ?_ | refine a6 ?_ | refine s_loadBs ?_ | refine s_loadHs ?_ | refine s_fieldB ?_ | refine s_fieldV ?_ | refine s_loadB ?_ | refine s_loadH ?_ | refine s_loadR ?_ | refine s_len ?_ | refine s_lenR ?_ | refine s_index ?_ | refine s_indexR ?_ | refine s_addI ?_ | refine s_neqB ?_ | refine a7 ?_ | refine a8 ?_)
        refine Runs.weak (ih (k + 1) ⟨by omega, fun j hj => ?_⟩ (by omega)) (by repeat (first | exact trivial | refine And.intro rfl ?_)) (fun x hx => List.mem_cons_of_mem _ (SubH.h x hx)) (by repeat (first | exact List.nil_sublist _ | exact List.Sublist.refl _ | refine List.Sublist.cons_cons _ ?_ | refine List.Sublist.cons _ ?_))
        by_cases e2 : j = k
        · subst e2; rw [hx, hy]
        · exact hI j (by omega)
      · have hne : L[k]? ≠ (allW gl N)[k]? := by
          rw [hx, hy]; simpa using hxy
        rw [commonN_at L (allW gl N) k hk hI (.inr hne), if_pos (.inl (by omega))] at hR
        rw [decide_eq_false hxy]
        repeat (first | refine a1 ?_ | refine a3 ?_ | refine a4 ?_ | refine a5 ?_ | refine a6 ?_ | refine s_loadBs ?_ | refine s_loadHs ?_ | refine s_fieldB ?_ | refine s_fieldV ?_ | refine s_loadB ?_ | refine s_loadH ?_ | refine s_loadR ?_ | refine s_len ?_ | refine s_lenR ?_ | refine s_index ?_ | refine s_indexR ?_ | refine s_addI ?_ | refine s_neqB ?_ | refine a7 ?_ | refine a8 ?_)
        refine Runs.ret2 Try.func20 Try.results20 rfl rfl (fun w hm => hR _ w _ H _ (List.mem_cons_self ..) (Snap.le.refl _) ?_ hm)
        rfl
  · have hkl : k = L.length := by omega
    have hkc := commonN_at L (allW gl N) k hk hI (.inl hkl)
    rw [hkc] at hR
    have hdd : decide ((L.length : Int) = ((allW gl N).length : Int)) = decide (L.length = (allW gl N).length) := by rw [decide_eq_decide]; omega
    repeat (first | refine a1 ?_ | refine a3 ?_ | refine a4 ?_ | refine a5 ?_ | refine a6 ?_ | refine s_loadBs ?_ | refine s_loadHs ?_ | refine s_fieldB ?_ | refine s_fieldV ?_ | refine s_loadB ?_ | refine s_loadH ?_ | refine s_loadR ?_ | refine s_len ?_ | refine s_lenR ?_ | refine s_index ?_ | refine s_indexR ?_ | refine s_addI ?_ | refine s_neqB ?_ | refine a7 ?_ | refine a8 ?_)
    rw [hdd]
    cases hb : (w != decide (L.length = (allW gl N).length)) with
    | true =>
      rw [if_pos (.inr (by simpa using hb))] at hR
      repeat (first | refine a1 ?_ | refine a3 ?_ | refine a4 ?_ | refine a5 ?_ | refine a6 ?_ | refine s_loadBs ?_ | refine s_loadHs ?_ | refine s_fieldB ?_ | refine s_fieldV ?_ | refine s_loadB ?_ | refine s_loadH ?_ | refine s_loadR ?_ | refine s_len ?_ | refine s_lenR ?_ | refine s_index ?_ | refine s_indexR ?_ | refine s_addI ?_ | refine s_neqB ?_ | refine a7 ?_ | refine a8 ?_)
      refine Runs.ret2 Try.func20 Try.results20 rfl rfl (fun w hm => hR _ w _ H _ (List.mem_cons_self ..) (Snap.le.refl _) ?_ hm)
      rw [hkl]
    | false =>
      rw [if_neg (fun h1 => h1.elim (fun h2 => by omega) (fun h2 => by rw [bne_eq_false_iff_eq] at hb; exact h2 hb))] at hR
      repeat (first | refine a1 ?_ | refine a3 ?_ | refine a4 ?_ | refine a5 ?_ | refine a6 ?_ | refine s_loadBs ?_ | refine s_loadHs ?_ | refine s_fieldB ?_ | refine s_fieldV ?_ | refine s_loadB ?_ | refine s_loadH ?_ | refine s_loadR ?_ | refine s_len ?_ | refine s_lenR ?_ | refine s_index ?_ | refine s_indexR ?_ | refine s_addI ?_ | refine s_neqB ?_ | refine a7 ?_ | refine a8 ?_)
      refine Runs.ret2 Try.func20 Try.results20 rfl rfl (fun w hm => hR _ w _ H _ (List.mem_cons_self ..) (Snap.le.refl _) ?_ hm)
      rw [hkl]
end Go.Proofs.Ythlolpckgffebaa

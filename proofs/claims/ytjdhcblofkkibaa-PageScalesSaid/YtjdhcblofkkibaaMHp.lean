/-
  The reference's order of candidates, and its list. Conditions: there are not too many candidates.
  The plain law of the heap: lists in heap order, sifting up and down. Conditions: none.
-/
import Derived.Test.YtjdhcblofkkibaaT8
import Derived.Test.YtjdhcblofkkibaaMT1
namespace Go.Proofs.Ytjdhcblofkkibaa
open Go Go.RowKit

def insC (x : Cand) (L : List Cand) : List Cand := L.takeWhile (fun y => decide (candLt y x)) ++ x :: L.dropWhile (fun y => decide (candLt y x))
def ordered (xs : List Cand) : List Cand := xs.foldl (fun L x => insC x L) []
theorem insC_length (x : Cand) (L : List Cand) : (insC x L).length = L.length + 1 := by
  have := congrArg List.length (List.takeWhile_append_dropWhile (p := fun y => decide (candLt y x)) (l := L))
  simp only [insC, List.length_append, List.length_cons] at this ⊢
  omega
theorem while_at {α : Type} {p : α → Bool} : ∀ {L : List α} {k : Nat}, (∀ j y, j < k → L[j]? = some y → p y = true) → (∀ y, L[k]? = some y → p y = false) → L.takeWhile p = L.take k ∧ L.dropWhile p = L.drop k
  | [], k, _, _ => by simp
  | x :: L, 0, _, h => by
    have := h x rfl
    simp [this]
  | x :: L, k + 1, h1, h2 => by
    have hx := h1 0 x (Nat.succ_pos _) rfl
    obtain ⟨e1, e2⟩ := while_at (L := L) (k := k) (fun j y hj hy => h1 (j + 1) y (by omega) (by simpa using hy)) (fun y hy => h2 y (by simpa using hy))
    simp [hx, e1, e2]
theorem ordered_length : ∀ xs : List Cand, (ordered xs).length = xs.length := by
  have : ∀ (xs L : List Cand), (xs.foldl (fun L x => insC x L) L).length = L.length + xs.length := by
    intro xs
    induction xs with
    | nil => intro L; rfl
    | cons x xs ih => intro L; rw [List.foldl_cons, ih, insC_length, List.length_cons]; omega
  intro xs; rw [ordered, this]; simp

set_option maxHeartbeats 1000000 in
theorem ordered_c {H : Snap} {v : Value} {xs : List Cand} (hx : SliceRep H CandL v xs) (hlen : xs.length ≤ 1000000) :
    Pure Try.prog 31 #[v] H (fun H' r => SliceRep H' CandL r (ordered xs)) := by
  refine Pure.intro Try.func31 rfl Try.ntmps31 rfl (fun E R hM hR => ?_)
  repeat (first | refine a1 ?_ | refine a3 ?_ | refine a4 ?_ | refine a5 ?_ | refine a6 ?_ | refine s_len ?_ | refine s_lenR ?_ | refine s_index ?_ | refine s_indexR ?_ | refine s_loadBs ?_ | refine s_loadHs ?_ | refine s_addI ?_ | refine s_sliceHi ?_ | refine s_sliceLo ?_ | refine a7 ?_ | refine a8 ?_)
  refine RW.buildSlice rfl rfl rfl rfl rfl rfl rfl (fun v3 hv3 => ?_)
  repeat (first | refine a1 ?_ | refine a3 ?_ | refine a4 ?_ | refine a5 ?_ | refine a6 ?_ | refine s_len ?_ | refine s_lenR ?_ | refine s_index ?_ | refine s_indexR ?_ | refine s_loadBs ?_ | refine s_loadHs ?_ | refine s_addI ?_ | refine s_sliceHi ?_ | refine s_sliceLo ?_ | refine a7 ?_ | refine a8 ?_)
  refine Runs.freeze (H := H) v3 hM (fun H0 hle0 hs0 hc0 => ?_)
  refine Runs.loop (fun (s : Nat × Snap × Value) => s.1 ≤ xs.length ∧ H.le s.2.1 ∧ SliceRep s.2.1 CandL s.2.2 (ordered (xs.take s.1))) (fun s => xs.length - s.1) (fun s => [s.2.1, H]) (fun _ => [])
    (fun s => [(0, v), (3, s.2.2), (4, .int .i64 (s.1 : Int))]) (0, H0, v3) ⟨Nat.zero_le _, hle0, SliceRep.of_row hs0 rfl (by rfl) (Snap.le.refl _) hc0⟩ (fun h => by
      refine Runs.weak (h) (by repeat (first | exact trivial | refine And.intro rfl ?_)) (fun x hx => List.mem_cons_of_mem _ (SubH.h x hx)) (by repeat (first | exact List.nil_sublist _ | exact List.Sublist.refl _ | refine List.Sublist.cons_cons _ ?_ | refine List.Sublist.cons _ ?_))) ?_
  rintro ⟨k, Hc, v3⟩ ⟨hk, hle, hL⟩ ih
  dsimp only at hk hle hL ⊢
  repeat (first | refine a1 ?_ | refine a3 ?_ | refine a4 ?_ | refine a5 ?_ | refine a6 ?_ | refine s_len ?_ | refine s_lenR ?_ | refine s_index ?_ | refine s_indexR ?_ | refine s_loadBs ?_ | refine s_loadHs ?_ | refine s_addI ?_ | refine s_sliceHi ?_ | refine s_sliceLo ?_ | refine a7 ?_ | refine a8 ?_)
  refine Runs.cond_d rfl (fun hlt => ?_) (fun hlt => ?_)
  · obtain ⟨x, hxk⟩ : ∃ x, xs[k]? = some x := ⟨_, List.getElem?_eq_getElem (by omega)⟩
    obtain ⟨vx, hvx, hx0, hx1, hx2⟩ := hx.cand hxk
    have hLlen : (ordered (xs.take k)).length = k := by rw [ordered_length]; simp; omega
    have hnext : ordered (xs.take (k + 1)) = insC x (ordered (xs.take k)) := by
      unfold ordered; exact foldl_take_succ hxk
    generalize ordered (xs.take k) = L at *
    obtain ⟨Ax, capx, rfl, _, _⟩ := hvx.isSl
    repeat (first | refine a1 ?_ | refine a3 ?_ | refine a4 ?_ | refine a5 ?_ | refine a6 ?_ | refine s_len ?_ | refine s_lenR ?_ | refine s_index ?_ | refine s_indexR ?_ | refine s_loadBs ?_ | refine s_loadHs ?_ | refine s_addI ?_ | refine s_sliceHi ?_ | refine s_sliceLo ?_ | refine a7 ?_ | refine a8 ?_)
    refine Runs.loop (fun (j : Nat) => j ≤ L.length ∧ ∀ i y, i < j → L[i]? = some y → decide (candLt y x) = true) (fun j => L.length - j) (fun _ => [Hc, H]) (fun _ => [])
      (fun j => [(0, v), (3, v3), (4, .int .i64 (k : Int)), (5, .int .i64 (j : Int))]) 0 ⟨Nat.zero_le _, by simp⟩ (fun h => by
        refine Runs.weak (h) (by repeat (first | exact trivial | refine And.intro rfl ?_)) (fun x hx => List.mem_cons_of_mem _ (SubH.h x hx)) (by repeat (first | exact List.nil_sublist _ | exact List.Sublist.refl _ | refine List.Sublist.cons_cons _ ?_ | refine List.Sublist.cons _ ?_))) ?_
    rintro j ⟨hj, hI⟩ ih2

    repeat (first | refine a1 ?_ | refine a3 ?_ | refine a4 ?_ | refine a5 ?_ | refine a6 ?_ | refine s_len ?_ | refine s_lenR ?_ | refine s_index ?_ | refine s_indexR ?_ | refine s_loadBs ?_ | refine s_loadHs ?_ | refine s_addI ?_ | refine s_sliceHi ?_ | refine s_sliceLo ?_ | refine a7 ?_ | refine a8 ?_)
    refine Runs.regionD _ _ [] (fun x hx => List.mem_cons_of_mem _ hx) (List.Sublist.refl _) (by kernel_rfl) ?_
    refine d1 0 2 ?_
    (first | refine t_len 2 ?_ | refine t_lenR 2 ?_)
    refine d1 3 2 ?_
    refine DW.dec 18 rfl (fun hjl => ?_) (fun hjl => ?_)
    · obtain ⟨y, hy⟩ : ∃ y, L[j]? = some y := ⟨_, List.getElem?_eq_getElem (by omega)⟩
      obtain ⟨vy, hvy, hy0, hy1, hy2⟩ := hL.cand hy
      refine d1 5 2 ?_
      (first | refine t_index 7 ?_ | refine t_indexR 7 ?_)
      refine DW.q 8 rfl (by kernel_rfl) (QV.loadHs rfl (hy2)) rfl rfl ?_
      refine d1 9 2 ?_
      (first | refine t_index 11 ?_ | refine t_indexR 11 ?_)
      refine DW.q 12 rfl (by kernel_rfl) (QV.loadHs rfl (hx2)) rfl rfl ?_
      refine DW.callV 13 rfl (by kernel_rfl) rfl (rless_c hvy (hvx.mono hle)) rfl rfl ?_
      rintro _ _ rfl
      refine d2 14 ?_
      refine DW.done (by kernel_rfl) ?_
      repeat (first | refine a1 ?_ | refine a3 ?_ | refine a4 ?_ | refine a5 ?_ | refine a6 ?_ | refine s_len ?_ | refine s_lenR ?_ | refine s_index ?_ | refine s_indexR ?_ | refine s_loadBs ?_ | refine s_loadHs ?_ | refine s_addI ?_ | refine s_sliceHi ?_ | refine s_sliceLo ?_ | refine a7 ?_ | refine a8 ?_)
      refine Runs.cond_d rfl (fun hc => ?_) (fun hc => ?_)
      · repeat (first | refine a1 ?_ | refine a3 ?_ | refine a4 ?_ | refine a5 ?_ | refine a6 ?_ | refine s_len ?_ | refine s_lenR ?_ | refine s_index ?_ | refine s_indexR ?_ | refine s_loadBs ?_ | refine s_loadHs ?_ | refine s_addI ?_ | refine s_sliceHi ?_ | refine s_sliceLo ?_ | refine a7 ?_ | refine a8 ?_)
        refine Runs.weak (ih2 (j + 1) ⟨by omega, ?_⟩ (by omega)) (by repeat (first | exact trivial | refine And.intro rfl ?_)) (fun x hx => List.mem_cons_of_mem _ (SubH.h x hx)) (by repeat (first | exact List.nil_sublist _ | exact List.Sublist.refl _ | refine List.Sublist.cons_cons _ ?_ | refine List.Sublist.cons _ ?_))
        intro i z hi hz
        by_cases e : i = j
        · subst e; rw [hy] at hz; rw [← Option.some.inj hz]; simpa using hc
        · exact hI i z (by omega) hz
      · have hend : ∀ y, L[j]? = some y → decide (candLt y x) = false := by
          intro z hz
          rw [hy] at hz; rw [← Option.some.inj hz]; simpa using hc
        repeat (first | refine a1 ?_ | refine a3 ?_ | refine a4 ?_ | refine a5 ?_ | refine a6 ?_ | refine s_len ?_ | refine s_lenR ?_ | refine s_index ?_ | refine s_indexR ?_ | refine s_loadBs ?_ | refine s_loadHs ?_ | refine s_addI ?_ | refine s_sliceHi ?_ | refine s_sliceLo ?_ | refine a7 ?_ | refine a8 ?_)
        refine RW.buildSlice rfl rfl rfl rfl rfl rfl rfl (fun v31 hv31 => ?_)
        repeat (first | refine a1 ?_ | refine a3 ?_ | refine a4 ?_ | refine a5 ?_ | refine a6 ?_ | refine s_len ?_ | refine s_lenR ?_ | refine s_index ?_ | refine s_indexR ?_ | refine s_loadBs ?_ | refine s_loadHs ?_ | refine s_addI ?_ | refine s_sliceHi ?_ | refine s_sliceLo ?_ | refine a7 ?_ | refine a8 ?_)
        have hslo : SliceRep Hc CandL (slv v3 2 0 j (capOf v3)) ((L.drop 0).take (j - 0)) := hL.slv rfl (Nat.zero_le _) hj (Nat.le_trans hj hL.capOf_le) (Nat.le_refl _)
        have hshi : SliceRep Hc CandL (slv v3 2 j L.length (capOf v3)) ((L.drop j).take (L.length - j)) := hL.slv rfl hj (Nat.le_refl _) hL.capOf_le (Nat.le_refl _)
        have hl1 : ((L.drop 0).take (j - 0)).length = j := by simp; omega
        have hl2 : ((L.drop j).take (L.length - j)).length = L.length - j := by simp
        refine RW.appendH rfl rfl (hslo) (by rfl) rfl (by decide) (by omega) (by omega) (fun _ _ => inferInstance) rfl rfl (fun d1 v35 hd1 hv35 => ?_)
        repeat (first | refine a1 ?_ | refine a3 ?_ | refine a4 ?_ | refine a5 ?_ | refine a6 ?_ | refine s_len ?_ | refine s_lenR ?_ | refine s_index ?_ | refine s_indexR ?_ | refine s_loadBs ?_ | refine s_loadHs ?_ | refine s_addI ?_ | refine s_sliceHi ?_ | refine s_sliceLo ?_ | refine a7 ?_ | refine a8 ?_)
        try refine RW.q (QV.loadHs rfl (hx2)) rfl rfl ?_
        repeat (first | refine a1 ?_ | refine a3 ?_ | refine a4 ?_ | refine a5 ?_ | refine a6 ?_ | refine s_len ?_ | refine s_lenR ?_ | refine s_index ?_ | refine s_indexR ?_ | refine s_loadBs ?_ | refine s_loadHs ?_ | refine s_addI ?_ | refine s_sliceHi ?_ | refine s_sliceLo ?_ | refine a7 ?_ | refine a8 ?_)
        refine RW.buildSlice rfl rfl rfl rfl rfl rfl rfl (fun v41 hv41 => ?_)
        refine RW.appendR rfl rfl (by assumption) rfl rfl rfl (by decide) (by omega) (by omega) (fun _ => inferInstance) rfl rfl (fun v42 hv42 => ?_)
        repeat (first | refine a1 ?_ | refine a3 ?_ | refine a4 ?_ | refine a5 ?_ | refine a6 ?_ | refine s_len ?_ | refine s_lenR ?_ | refine s_index ?_ | refine s_indexR ?_ | refine s_loadBs ?_ | refine s_loadHs ?_ | refine s_addI ?_ | refine s_sliceHi ?_ | refine s_sliceLo ?_ | refine a7 ?_ | refine a8 ?_)
        refine RW.appendH rfl rfl (hshi) (by rfl) rfl (by decide) (by omega) (by omega) (fun _ _ => inferInstance) rfl rfl (fun d2 v47 hd2 hv47 => ?_)
        repeat (first | refine a1 ?_ | refine a3 ?_ | refine a4 ?_ | refine a5 ?_ | refine a6 ?_ | refine s_len ?_ | refine s_lenR ?_ | refine s_index ?_ | refine s_indexR ?_ | refine s_loadBs ?_ | refine s_loadHs ?_ | refine s_addI ?_ | refine s_sliceHi ?_ | refine s_sliceLo ?_ | refine a7 ?_ | refine a8 ?_)
        refine Runs.freeze (H := Hc) v47 hM (fun H1 hle1 hs1 hc1 => ?_)
        refine Runs.weak (ih (k + 1, H1, v47) ⟨by dsimp only; omega, hle.trans hle1, ?_⟩ (by dsimp only; omega)) (by repeat (first | exact trivial | refine And.intro rfl ?_)) (fun x hx => List.mem_cons_of_mem _ (SubH.h x hx)) (by repeat (first | exact List.nil_sublist _ | exact List.Sublist.refl _ | refine List.Sublist.cons_cons _ ?_ | refine List.Sublist.cons _ ?_))
        dsimp only
        rw [hnext]
        have e1 : insC x L = (L.drop 0).take (j - 0) ++ [x] ++ (L.drop j).take (L.length - j) := by
          unfold insC
          obtain ⟨w1, w2⟩ := while_at hI hend
          rw [w1, w2, List.drop_zero, Nat.sub_zero, ← List.length_drop, List.take_length]; simp
        rw [e1]
        refine SliceRep.of_row hs1 (by simp; omega) (((hd1.mono hle1).append (CellsRep.one ⟨_, rfl, (hvx.mono hle).mono hle1⟩)).append (hd2.mono hle1)) (Snap.le.refl _) hc1
    · refine d3 5 ?_
      refine d3 6 ?_
      refine d3 7 ?_
      refine d3 8 ?_
      refine d3 9 ?_
      refine d3 10 ?_
      refine d3 11 ?_
      refine d3 12 ?_
      refine d3 13 ?_
      refine d2 14 ?_
      refine DW.done (by kernel_rfl) ?_
      have hend : ∀ y, L[j]? = some y → decide (candLt y x) = false := by
        intro z hz
        rw [List.getElem?_eq_none (by omega)] at hz; cases hz
      repeat (first | refine a1 ?_ | refine a3 ?_ | refine a4 ?_ | refine a5 ?_ | refine a6 ?_ | refine s_len ?_ | refine s_lenR ?_ | refine s_index ?_ | refine s_indexR ?_ | refine s_loadBs ?_ | refine s_loadHs ?_ | refine s_addI ?_ | refine s_sliceHi ?_ | refine s_sliceLo ?_ | refine a7 ?_ | refine a8 ?_)
      refine RW.buildSlice rfl rfl rfl rfl rfl rfl rfl (fun v31 hv31 => ?_)
      repeat (first | refine a1 ?_ | refine a3 ?_ | refine a4 ?_ | refine a5 ?_ | refine a6 ?_ | refine s_len ?_ | refine s_lenR ?_ | refine s_index ?_ | refine s_indexR ?_ | refine s_loadBs ?_ | refine s_loadHs ?_ | refine s_addI ?_ | refine s_sliceHi ?_ | refine s_sliceLo ?_ | refine a7 ?_ | refine a8 ?_)
      have hslo : SliceRep Hc CandL (slv v3 2 0 j (capOf v3)) ((L.drop 0).take (j - 0)) := hL.slv rfl (Nat.zero_le _) hj (Nat.le_trans hj hL.capOf_le) (Nat.le_refl _)
      have hshi : SliceRep Hc CandL (slv v3 2 j L.length (capOf v3)) ((L.drop j).take (L.length - j)) := hL.slv rfl hj (Nat.le_refl _) hL.capOf_le (Nat.le_refl _)
      have hl1 : ((L.drop 0).take (j - 0)).length = j := by simp; omega
      have hl2 : ((L.drop j).take (L.length - j)).length = L.length - j := by simp
      refine RW.appendH rfl rfl (hslo) (by rfl) rfl (by decide) (by omega) (by omega) (fun _ _ => inferInstance) rfl rfl (fun d1 v35 hd1 hv35 => ?_)
      repeat (first | refine a1 ?_ | refine a3 ?_ | refine a4 ?_ | refine a5 ?_ | refine a6 ?_ | refine s_len ?_ | refine s_lenR ?_ | refine s_index ?_ | refine s_indexR ?_ | refine s_loadBs ?_ | refine s_loadHs ?_ | refine s_addI ?_ | refine s_sliceHi ?_ | refine s_sliceLo ?_ | refine a7 ?_ | refine a8 ?_)
      try refine RW.q (QV.loadHs rfl (hx2)) rfl rfl ?_
      repeat (first | refine a1 ?_ | refine a3 ?_ | refine a4 ?_ | refine a5 ?_ | refine a6 ?_ | refine s_len ?_ | refine s_lenR ?_ | refine s_index ?_ | refine s_indexR ?_ | refine s_loadBs ?_ | refine s_loadHs ?_ | refine s_addI ?_ | refine s_sliceHi ?_ | refine s_sliceLo ?_ | refine a7 ?_ | refine a8 ?_)
      refine RW.buildSlice rfl rfl rfl rfl rfl rfl rfl (fun v41 hv41 => ?_)
      refine RW.appendR rfl rfl (by assumption) rfl rfl rfl (by decide) (by omega) (by omega) (fun _ => inferInstance) rfl rfl (fun v42 hv42 => ?_)
      repeat (first | refine a1 ?_ | refine a3 ?_ | refine a4 ?_ | refine a5 ?_ | refine a6 ?_ | refine s_len ?_ | refine s_lenR ?_ | refine s_index ?_ | refine s_indexR ?_ | refine s_loadBs ?_ | refine s_loadHs ?_ | refine s_addI ?_ | refine s_sliceHi ?_ | refine s_sliceLo ?_ | refine a7 ?_ | refine a8 ?_)
      refine RW.appendH rfl rfl (hshi) (by rfl) rfl (by decide) (by omega) (by omega) (fun _ _ => inferInstance) rfl rfl (fun d2 v47 hd2 hv47 => ?_)
      repeat (first | refine a1 ?_ | refine a3 ?_ | refine a4 ?_ | refine a5 ?_ | refine a6 ?_ | refine s_len ?_ | refine s_lenR ?_ | refine s_index ?_ | refine s_indexR ?_ | refine s_loadBs ?_ | refine s_loadHs ?_ | refine s_addI ?_ | refine s_sliceHi ?_ | refine s_sliceLo ?_ | refine a7 ?_ | refine a8 ?_)
      refine Runs.freeze (H := Hc) v47 hM (fun H1 hle1 hs1 hc1 => ?_)
      refine Runs.weak (ih (k + 1, H1, v47) ⟨by dsimp only; omega, hle.trans hle1, ?_⟩ (by dsimp only; omega)) (by repeat (first | exact trivial | refine And.intro rfl ?_)) (fun x hx => List.mem_cons_of_mem _ (SubH.h x hx)) (by repeat (first | exact List.nil_sublist _ | exact List.Sublist.refl _ | refine List.Sublist.cons_cons _ ?_ | refine List.Sublist.cons _ ?_))
      dsimp only
      rw [hnext]
      have e1 : insC x L = (L.drop 0).take (j - 0) ++ [x] ++ (L.drop j).take (L.length - j) := by
        unfold insC
        obtain ⟨w1, w2⟩ := while_at hI hend
        rw [w1, w2, List.drop_zero, Nat.sub_zero, ← List.length_drop, List.take_length]; simp
      rw [e1]
      refine SliceRep.of_row hs1 (by simp; omega) (((hd1.mono hle1).append (CellsRep.one ⟨_, rfl, (hvx.mono hle).mono hle1⟩)).append (hd2.mono hle1)) (Snap.le.refl _) hc1
  · have hke : xs.take k = xs := List.take_of_length_le (by omega)
    rw [hke] at hL
    repeat (first | refine a1 ?_ | refine a3 ?_ | refine a4 ?_ | refine a5 ?_ | refine a6 ?_ | refine s_len ?_ | refine s_lenR ?_ | refine s_index ?_ | refine s_indexR ?_ | refine s_loadBs ?_ | refine s_loadHs ?_ | refine s_addI ?_ | refine s_sliceHi ?_ | refine s_sliceLo ?_ | refine a7 ?_ | refine a8 ?_)
    refine Runs.ret1 Try.func31 Try.results31 rfl (fun w hm => hR _ w _ Hc _ (by simp) (hle) ?_ hm)
    exact hL

def listR (N : Int) (gl : List Lnk) (k : Int) : List Cand := if validG N gl ∧ 0 ≤ k ∧ k ≤ 50 then (ordered (waysG gl N N.toNat 0)).take k.toNat else []
def listE (N : Int) (gl : List Lnk) (k : Int) : Int := if ¬ validG N gl then 150 else if k < 0 ∨ 50 < k then 1 else 0

end Go.Proofs.Ytjdhcblofkkibaa
namespace Go.Proofs.Ytjdhcblofkkibaa

theorem lexCmp_neg : ∀ a b : List Int, lexCmp b a = - lexCmp a b
  | [], [] => rfl
  | [], _ :: _ => rfl
  | _ :: _, [] => rfl
  | x :: xs, y :: ys => by
    simp only [lexCmp]
    have ih := lexCmp_neg xs ys
    by_cases h1 : x < y
    · have h2 : ¬ y < x := by omega
      simp [h1, h2]
    · by_cases h2 : y < x
      · simp [h1, h2]
      · simp [h1, h2, ih]
theorem lexCmp_trans : ∀ a b c : List Int, lexCmp a b ≤ 0 → lexCmp b c ≤ 0 → lexCmp a c ≤ 0
  | [], _, [], _, _ => by simp [lexCmp]
  | [], _, _ :: _, _, _ => by simp [lexCmp]
  | x :: xs, [], _, h, _ => by simp [lexCmp] at h
  | x :: xs, y :: ys, [], _, h => by simp [lexCmp] at h
  | x :: xs, y :: ys, z :: zs, h1, h2 => by
    have ih := lexCmp_trans xs ys zs
    simp only [lexCmp] at *
    by_cases a1 : x < y
    · by_cases a2 : y < z
      · have : x < z := by omega
        simp [this]
      · by_cases a3 : z < y
        · simp [a2, a3] at h2
        · have : x < z := by omega
          simp [this]
    · by_cases a2 : y < x
      · simp [a1, a2] at h1
      · have hxy : x = y := by omega
        subst hxy
        simp at h1
        by_cases a3 : x < z
        · simp [a3]
        · by_cases a4 : z < x
          · simp [a3, a4] at h2
          · simp [a3, a4] at h2 ⊢
            exact ih h1 h2
theorem lexCmp_eq : ∀ a b : List Int, lexCmp a b = 0 → a = b
  | [], [], _ => rfl
  | [], _ :: _, h => by simp [lexCmp] at h
  | _ :: _, [], h => by simp [lexCmp] at h
  | x :: xs, y :: ys, h => by
    simp only [lexCmp] at h
    by_cases h1 : x < y
    · simp [h1] at h
    · by_cases h2 : y < x
      · simp [h1, h2] at h
      · simp [h1, h2] at h
        rw [lexCmp_eq xs ys h, show x = y by omega]

structure Part where
  links : List Int
  at_ : Int
  cost : Int
  whole : Int
  deriving DecidableEq, Inhabited
def partLt (a b : Part) : Prop := a.whole < b.whole ∨ a.whole = b.whole ∧ lexCmp a.links b.links < 0
instance (a b : Part) : Decidable (partLt a b) := inferInstanceAs (Decidable (_ ∨ _))
theorem partLt_asymm {a b : Part} (h : partLt a b) : ¬ partLt b a := by
  unfold partLt at *
  have := lexCmp_neg a.links b.links
  omega
theorem partLt_neg {x y z : Part} (h1 : ¬ partLt x y) (h2 : ¬ partLt y z) : ¬ partLt x z := by
  unfold partLt at *
  have e1 := lexCmp_neg x.links y.links
  have e2 := lexCmp_neg y.links z.links
  have e3 := lexCmp_neg x.links z.links
  have e4 := lexCmp_trans z.links y.links x.links
  by_cases c1 : lexCmp z.links y.links ≤ 0
  · by_cases c2 : lexCmp y.links x.links ≤ 0
    · have := e4 c1 c2; omega
    · omega
  · omega
theorem partLt_trans {x y z : Part} (h1 : partLt x y) (h2 : partLt y z) : partLt x z := by
  by_cases h : partLt x z
  · exact h
  · exact absurd h1 (partLt_neg h (partLt_asymm h2))

def HeapO (q : List Part) : Prop := ∀ j x y, 0 < j → q[j]? = some x → q[(j - 1) / 2]? = some y → ¬ partLt x y
theorem HeapO.nil : HeapO [] := by intro j x y _ h; simp at h
theorem HeapO.root {q : List Part} (h : HeapO q) {r : Part} (hr : q[0]? = some r) : ∀ (j : Nat) (x : Part), q[j]? = some x → ¬ partLt x r := by
  intro j
  induction j using Nat.strongRecOn with
  | _ j ih =>
    intro x hx
    rcases Nat.eq_zero_or_pos j with rfl | hj
    · rw [hr] at hx; injection hx with hx; subst hx
      exact fun h => partLt_asymm h h
    · have hl := (List.getElem?_eq_some_iff.1 hx).1
      obtain ⟨y, hy⟩ : ∃ y, q[(j - 1) / 2]? = some y := ⟨_, List.getElem?_eq_getElem (by omega)⟩
      exact partLt_neg (h j x y hj hx hy) (ih _ (by omega) y hy)

/-- Exchange two elements. -/
def swp (q : List Part) (i j : Nat) (a b : Part) : List Part := (q.set i b).set j a
theorem swp_length (q : List Part) (i j : Nat) (a b : Part) : (swp q i j a b).length = q.length := by simp [swp]
theorem swp_perm {q : List Part} {i j : Nat} {a b : Part} (ha : q[i]? = some a) (hb : q[j]? = some b) : (swp q i j a b).Perm q := by
  obtain ⟨h1, h2⟩ := List.getElem?_eq_some_iff.1 ha
  obtain ⟨h3, h4⟩ := List.getElem?_eq_some_iff.1 hb
  unfold swp
  rw [← h2, ← h4]
  exact List.set_set_perm h1 h3
theorem swp_at {q : List Part} {i j : Nat} {a b : Part} (hij : i ≠ j) (hi : i < q.length) (hj : j < q.length) (k : Nat) : (swp q i j a b)[k]? = if k = i then some b else if k = j then some a else q[k]? := by
  unfold swp
  rw [List.getElem?_set, List.getElem?_set]
  by_cases h1 : j = k
  · subst h1
    rw [if_pos rfl, if_pos (by simpa using hj), if_neg (by omega), if_pos rfl]
  · rw [if_neg h1]
    by_cases h2 : i = k
    · subst h2; rw [if_pos rfl, if_pos hi, if_pos rfl]
    · rw [if_neg h2, if_neg (by omega), if_neg (by omega)]

def UpI (i : Nat) (q : List Part) : Prop :=
  (∀ j x y, 0 < j → j ≠ i → q[j]? = some x → q[(j - 1) / 2]? = some y → ¬ partLt x y) ∧
  (∀ j x y, 0 < i → 0 < j → (j - 1) / 2 = i → q[j]? = some x → q[(i - 1) / 2]? = some y → ¬ partLt x y)
theorem UpI.start {q : List Part} {x : Part} (h : HeapO q) : UpI q.length (q ++ [x]) := by
  refine ⟨fun j a b hj hji ha hb => ?_, fun j a b hi hj hp ha hb => ?_⟩
  · have hl := (List.getElem?_eq_some_iff.1 ha).1
    simp at hl
    rw [List.getElem?_append_left (by omega)] at ha hb
    exact h j a b hj ha hb
  · have hl := (List.getElem?_eq_some_iff.1 ha).1
    simp at hl
    omega
theorem UpI.step {q : List Part} {i : Nat} {a b : Part} (h : UpI i q) (hi : 0 < i) (ha : q[i]? = some a) (hb : q[(i - 1) / 2]? = some b) (hlt : partLt a b) : UpI ((i - 1) / 2) (swp q i ((i - 1) / 2) a b) := by
  have hil := (List.getElem?_eq_some_iff.1 ha).1
  have hat := fun k => swp_at (a := a) (b := b) (q := q) (i := i) (j := (i - 1) / 2) (by omega) hil (by omega) k
  generalize hu : (i - 1) / 2 = u at *
  obtain ⟨h1, h2⟩ := h
  refine ⟨fun j x y hj hju hx hy => ?_, fun j x y hup hj hp hx hy => ?_⟩
  · rw [hat] at hx hy
    by_cases e1 : j = i
    · subst e1
      rw [if_pos rfl] at hx
      rw [hu, if_neg (by omega), if_pos rfl] at hy
      injection hx with hx; injection hy with hy; subst hx; subst hy
      exact partLt_asymm hlt
    · rw [if_neg e1, if_neg hju] at hx
      by_cases e2 : (j - 1) / 2 = i
      · rw [if_pos e2] at hy
        injection hy with hy; subst hy
        exact h2 j x _ hi hj e2 hx (by rw [hu]; exact hb)
      · rw [if_neg e2] at hy
        by_cases e3 : (j - 1) / 2 = u
        · rw [if_pos e3] at hy
          injection hy with hy; subst hy
          intro hxa
          exact h1 j x b hj e1 hx (by rw [e3]; exact hb) (partLt_trans hxa hlt)
        · rw [if_neg e3] at hy
          exact h1 j x y hj e1 hx hy
  · rw [hat] at hx hy
    rw [if_neg (by omega), if_neg (by omega)] at hy
    have hub : ¬ partLt b y := h1 u b y hup (by omega) hb hy
    by_cases e1 : j = i
    · rw [if_pos e1] at hx
      injection hx with hx; subst hx
      exact hub
    · rw [if_neg e1, if_neg (by omega)] at hx
      exact partLt_neg (h1 j x b hj e1 hx (by rw [hp]; exact hb)) hub
theorem UpI.done {q : List Part} {i : Nat} (h : UpI i q) (hd : i = 0 ∨ ∀ a b, q[i]? = some a → q[(i - 1) / 2]? = some b → ¬ partLt a b) : HeapO q := by
  intro j x y hj hx hy
  by_cases e : j = i
  · subst e
    rcases hd with hd | hd
    · omega
    · exact hd x y hx hy
  · exact h.1 j x y hj e hx hy

def DownI (i : Nat) (q : List Part) : Prop :=
  (∀ j x y, 0 < j → (j - 1) / 2 ≠ i → q[j]? = some x → q[(j - 1) / 2]? = some y → ¬ partLt x y) ∧
  (∀ j x y, 0 < i → 0 < j → (j - 1) / 2 = i → q[j]? = some x → q[(i - 1) / 2]? = some y → ¬ partLt x y)
theorem DownI.start {q : List Part} {x : Part} {m : Nat} (h : HeapO q) : DownI 0 ((q.set 0 x).take m) := by
  refine ⟨fun j a b hj hji ha hb => ?_, fun j a b hi => by omega⟩
  rw [List.getElem?_take, List.getElem?_set_ne (by omega)] at ha hb
  split at ha
  · split at hb
    · exact h j a b hj ha hb
    · cases hb
  · cases ha
theorem DownI.step {q : List Part} {i k : Nat} {a c : Part} (h : DownI i q) (hk : k = 2 * i + 1 ∨ k = 2 * i + 2) (ha : q[i]? = some a) (hc : q[k]? = some c) (hlt : partLt c a)
    (ho : ∀ j x, (j = 2 * i + 1 ∨ j = 2 * i + 2) → j ≠ k → q[j]? = some x → ¬ partLt x c) : DownI k (swp q i k a c) := by
  have hil := (List.getElem?_eq_some_iff.1 ha).1
  have hkl := (List.getElem?_eq_some_iff.1 hc).1
  have hat := fun m => swp_at (a := a) (b := c) (q := q) (i := i) (j := k) (by omega) hil hkl m
  obtain ⟨h1, h2⟩ := h
  refine ⟨fun j x y hj hjk hx hy => ?_, fun j x y hkp hj hp hx hy => ?_⟩
  · rw [hat] at hx hy
    by_cases e1 : (j - 1) / 2 = i
    · rw [if_pos e1] at hy
      injection hy with hy; subst hy
      by_cases e2 : j = k
      · rw [if_neg (by omega), if_pos e2] at hx
        injection hx with hx; subst hx
        exact partLt_asymm hlt
      · rw [if_neg (by omega), if_neg e2] at hx
        exact ho j x (by omega) e2 hx
    · rw [if_neg e1, if_neg hjk] at hy
      by_cases e2 : j = i
      · subst e2
        rw [if_pos rfl] at hx
        injection hx with hx; subst hx
        exact h2 k _ y hj (by omega) (by omega) hc hy
      · rw [if_neg e2, if_neg (by omega)] at hx
        exact h1 j x y hj e1 hx hy
  · rw [hat] at hx hy
    rw [if_neg (by omega), if_neg (by omega)] at hx
    rw [if_pos (by omega)] at hy
    injection hy with hy; subst hy
    exact h1 j x _ hj (by omega) hx (by rw [hp]; exact hc)
theorem DownI.done {q : List Part} {i : Nat} (h : DownI i q) (hd : ∀ j x a, (j = 2 * i + 1 ∨ j = 2 * i + 2) → q[j]? = some x → q[i]? = some a → ¬ partLt x a) : HeapO q := by
  intro j x y hj hx hy
  by_cases e : (j - 1) / 2 = i
  · rw [e] at hy
    exact hd j x y (by omega) hx hy
  · exact h.1 j x y hj e hx hy
end Go.Proofs.Ytjdhcblofkkibaa

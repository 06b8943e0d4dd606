/-
  The reference's order of candidates, and its list. Conditions: there are not too many candidates.
-/
import Derived.Test.YtjdhcblofkkibaaT8
namespace Go.Proofs.Ytjdhcblofkkibaa
open Go Go.RowKit

def insC (x : Cand) (L : List Cand) : List Cand := L.takeWhile (fun y => decide (candLt y x)) ++ x :: L.dropWhile (fun y => decide (candLt y x))
def ordered (xs : List Cand) : List Cand := xs.foldl (fun L x => insC x L) []
theorem insC_length (x : Cand) (L : List Cand) : (insC x L).length = L.length + 1 := by
  have := congrArg List.length (List.takeWhile_append_dropWhile (p := fun y => decide (candLt y x)) (l := L))
  simp only [insC, List.length_append, List.length_cons] at this ⊢
  omega
theorem while_at {α : Type} {p : α → Bool} : ∀ {L : List α} {k : Nat}, (∀ j y, j < k → L[j]? = some y → p y = true) → (∀ y, L[k]? = some y → p y = false) → L.takeWhile p = L.take k ∧ L.dropWhile p = L.drop k
  | [], k, _, _ => by simp
  | x :: L, 0, _, h => by
    have := h x rfl
    simp [this]
  | x :: L, k + 1, h1, h2 => by
    have hx := h1 0 x (Nat.succ_pos _) rfl
    obtain ⟨e1, e2⟩ := while_at (L := L) (k := k) (fun j y hj hy => h1 (j + 1) y (by omega) (by simpa using hy)) (fun y hy => h2 y (by simpa using hy))
    simp [hx, e1, e2]
theorem ordered_length : ∀ xs : List Cand, (ordered xs).length = xs.length := by
  have : ∀ (xs L : List Cand), (xs.foldl (fun L x => insC x L) L).length = L.length + xs.length := by
    intro xs
    induction xs with
    | nil => intro L; rfl
    | cons x xs ih => intro L; rw [List.foldl_cons, ih, insC_length, List.length_cons]; omega
  intro xs; rw [ordered, this]; simp

set_option maxHeartbeats 1000000 in
theorem ordered_c {H : Snap} {v : Value} {xs : List Cand} (hx : SliceRep H CandL v xs) (hlen : xs.length ≤ 1000000) :
    Pure Try.prog 31 #[v] H (fun H' r => SliceRep H' CandL r (ordered xs)) := by
  refine Pure.intro Try.func31 rfl Try.ntmps31 rfl (fun E R hM hR => ?_)
  repeat (first | refine a1 ?_ | refine a3 ?_ | refine a4 ?_ | refine a5 ?_ | refine a6 ?_ | refine s_len ?_ | refine s_lenR ?_ | refine s_index ?_ | refine s_indexR ?_ | refine s_loadBs ?_ | refine s_loadHs ?_ | refine s_addI ?_ | refine s_sliceHi ?_ | refine s_sliceLo ?_ | refine a7 ?_ | refine a8 ?_)
  refine RW.buildSlice rfl rfl rfl rfl rfl rfl rfl (fun v3 hv3 => ?_)
  repeat (first | refine a1 ?_ | refine a3 ?_ | refine a4 ?_ | refine a5 ?_ | refine a6 ?_ | refine s_len ?_ | refine s_lenR ?_ | refine s_index ?_ | refine s_indexR ?_ | refine s_loadBs ?_ | refine s_loadHs ?_ | refine s_addI ?_ | refine s_sliceHi ?_ | refine s_sliceLo ?_ | refine a7 ?_ | refine a8 ?_)
  refine Runs.freeze (H := H) v3 hM (fun H0 hle0 hs0 hc0 => ?_)
  refine Runs.loop (fun (s : Nat × Snap × Value) => s.1 ≤ xs.length ∧ H.le s.2.1 ∧ SliceRep s.2.1 CandL s.2.2 (ordered (xs.take s.1))) (fun s => xs.length - s.1) (fun s => [s.2.1, H]) (fun _ => [])
    (fun s => [(0, v), (3, s.2.2), (4, .int .i64 (s.1 : Int))]) (0, H0, v3) ⟨Nat.zero_le _, hle0, SliceRep.of_row hs0 rfl (by rfl) (Snap.le.refl _) hc0⟩ (fun h => by
      refine Runs.weak (h) (by repeat (first | exact trivial | refine And.intro rfl ?_)) (fun x hx => List.mem_cons_of_mem _ (SubH.h x hx)) (by repeat (first | exact List.nil_sublist _ | exact List.Sublist.refl _ | refine List.Sublist.cons_cons _ ?_ | refine List.Sublist.cons _ ?_))) ?_
  rintro ⟨k, Hc, v3⟩ ⟨hk, hle, hL⟩ ih
  dsimp only at hk hle hL ⊢
  repeat (first | refine a1 ?_ | refine a3 ?_ | refine a4 ?_ | refine a5 ?_ | refine a6 ?_ | refine s_len ?_ | refine s_lenR ?_ | refine s_index ?_ | refine s_indexR ?_ | refine s_loadBs ?_ | refine s_loadHs ?_ | refine s_addI ?_ | refine s_sliceHi ?_ | refine s_sliceLo ?_ | refine a7 ?_ | refine a8 ?_)
  refine Runs.cond_d rfl (fun hlt => ?_) (fun hlt => ?_)
  · obtain ⟨x, hxk⟩ : ∃ x, xs[k]? = some x := ⟨_, List.getElem?_eq_getElem (by omega)⟩
    obtain ⟨vx, hvx, hx0, hx1, hx2⟩ := hx.cand hxk
    have hLlen : (ordered (xs.take k)).length = k := by rw [ordered_length]; simp; omega
    have hnext : ordered (xs.take (k + 1)) = insC x (ordered (xs.take k)) := by
      unfold ordered; exact foldl_take_succ hxk
    generalize ordered (xs.take k) = L at *
    obtain ⟨Ax, capx, rfl, _, _⟩ := hvx.isSl
    repeat (first | refine a1 ?_ | refine a3 ?_ | refine a4 ?_ | refine a5 ?_ | refine a6 ?_ | refine s_len ?_ | refine s_lenR ?_ | refine s_index ?_ | refine s_indexR ?_ | refine s_loadBs ?_ | refine s_loadHs ?_ | refine s_addI ?_ | refine s_sliceHi ?_ | refine s_sliceLo ?_ | refine a7 ?_ | refine a8 ?_)
    refine Runs.loop (fun (j : Nat) => j ≤ L.length ∧ ∀ i y, i < j → L[i]? = some y → decide (candLt y x) = true) (fun j => L.length - j) (fun _ => [Hc, H]) (fun _ => [])
      (fun j => [(0, v), (3, v3), (4, .int .i64 (k : Int)), (5, .int .i64 (j : Int))]) 0 ⟨Nat.zero_le _, by simp⟩ (fun h => by
        refine Runs.weak (h) (by repeat (first | exact trivial | refine And.intro rfl ?_)) (fun x hx => List.mem_cons_of_mem _ (SubH.h x hx)) (by repeat (first | exact List.nil_sublist _ | exact List.Sublist.refl _ | refine List.Sublist.cons_cons _ ?_ | refine List.Sublist.cons _ ?_))) ?_
    rintro j ⟨hj, hI⟩ ih2

    repeat (first | refine a1 ?_ | refine a3 ?_ | refine a4 ?_ | refine a5 ?_ | refine a6 ?_ | refine s_len ?_ | refine s_lenR ?_ | refine s_index ?_ | refine s_indexR ?_ | refine s_loadBs ?_ | refine s_loadHs ?_ | refine s_addI ?_ | refine s_sliceHi ?_ | refine s_sliceLo ?_ | refine a7 ?_ | refine a8 ?_)
    refine Runs.regionD _ _ [] (fun x hx => List.mem_cons_of_mem _ hx) (List.Sublist.refl _) (by kernel_rfl) ?_
    refine d1 0 2 ?_
    (first | refine t_len 2 ?_ | refine t_lenR 2 ?_)
    refine d1 3 2 ?_
    refine DW.dec 18 rfl (fun hjl => ?_) (fun hjl => ?_)
    · obtain ⟨y, hy⟩ : ∃ y, L[j]? = some y := ⟨_, List.getElem?_eq_getElem (by omega)⟩
      obtain ⟨vy, hvy, hy0, hy1, hy2⟩ := hL.cand hy
      refine d1 5 2 ?_
      (first | refine t_index 7 ?_ | refine t_indexR 7 ?_)
      refine DW.q 8 rfl (by kernel_rfl) (QV.loadHs rfl (hy2)) rfl rfl ?_
      refine d1 9 2 ?_
      (first | refine t_index 11 ?_ | refine t_indexR 11 ?_)
      refine DW.q 12 rfl (by kernel_rfl) (QV.loadHs rfl (hx2)) rfl rfl ?_
      refine DW.callV 13 rfl (by kernel_rfl) rfl (rless_c hvy (hvx.mono hle)) rfl rfl ?_
      rintro _ _ rfl
      refine d2 14 ?_
      refine DW.done (by kernel_rfl) ?_
      repeat (first | refine a1 ?_ | refine a3 ?_ | refine a4 ?_ | refine a5 ?_ | refine a6 ?_ | refine s_len ?_ | refine s_lenR ?_ | refine s_index ?_ | refine s_indexR ?_ | refine s_loadBs ?_ | refine s_loadHs ?_ | refine s_addI ?_ | refine s_sliceHi ?_ | refine s_sliceLo ?_ | refine a7 ?_ | refine a8 ?_)
      refine Runs.cond_d rfl (fun hc => ?_) (fun hc => ?_)
      · repeat (first | refine a1 ?_ | refine a3 ?_ | refine a4 ?_ | refine a5 ?_ | refine a6 ?_ | refine s_len ?_ | refine s_lenR ?_ | refine s_index ?_ | refine s_indexR ?_ | refine s_loadBs ?_ | refine s_loadHs ?_ | refine s_addI ?_ | refine s_sliceHi ?_ | refine s_sliceLo ?_ | refine a7 ?_ | refine a8 ?_)
        refine Runs.weak (ih2 (j + 1) ⟨by omega, ?_⟩ (by omega)) (by repeat (first | exact trivial | refine And.intro rfl ?_)) (fun x hx => List.mem_cons_of_mem _ (SubH.h x hx)) (by repeat (first | exact List.nil_sublist _ | exact List.Sublist.refl _ | refine List.Sublist.cons_cons _ ?_ | refine List.Sublist.cons _ ?_))
        intro i z hi hz
        by_cases e : i = j
        · subst e; rw [hy] at hz; rw [← Option.some.inj hz]; simpa using hc
        · exact hI i z (by omega) hz
      · have hend : ∀ y, L[j]? = some y → decide (candLt y x) = false := by
          intro z hz
          rw [hy] at hz; rw [← Option.some.inj hz]; simpa using hc
        repeat (first | refine a1 ?_ | refine a3 ?_ | refine a4 ?_ | refine a5 ?_ | refine a6 ?_ | refine s_len ?_ | refine s_lenR ?_ | refine s_index ?_ | refine s_indexR ?_ | refine s_loadBs ?_ | refine s_loadHs ?_ | refine s_addI ?_ | refine s_sliceHi ?_ | refine s_sliceLo ?_ | refine a7 ?_ | refine a8 ?_)
        refine RW.buildSlice rfl rfl rfl rfl rfl rfl rfl (fun v31 hv31 => ?_)
        repeat (first | refine a1 ?_ | refine a3 ?_ | refine a4 ?_ | refine a5 ?_ | refine a6 ?_ | refine s_len ?_ | refine s_lenR ?_ | refine s_index ?_ | refine s_indexR ?_ | refine s_loadBs ?_ | refine s_loadHs ?_ | refine s_addI ?_ | refine s_sliceHi ?_ | refine s_sliceLo ?_ | refine a7 ?_ | refine a8 ?_)
        have hslo : SliceRep Hc CandL (slv v3 2 0 j (capOf v3)) ((L.drop 0).take (j - 0)) := hL.slv rfl (Nat.zero_le _) hj (Nat.le_trans hj hL.capOf_le) (Nat.le_refl _)
        have hshi : SliceRep Hc CandL (slv v3 2 j L.length (capOf v3)) ((L.drop j).take (L.length - j)) := hL.slv rfl hj (Nat.le_refl _) hL.capOf_le (Nat.le_refl _)
        have hl1 : ((L.drop 0).take (j - 0)).length = j := by simp; omega
        have hl2 : ((L.drop j).take (L.length - j)).length = L.length - j := by simp
        refine RW.appendH rfl rfl (hslo) (by rfl) rfl (by decide) (by omega) (by omega) (fun _ _ => inferInstance) rfl rfl (fun d1 v35 hd1 hv35 => ?_)
        repeat (first | refine a1 ?_ | refine a3 ?_ | refine a4 ?_ | refine a5 ?_ | refine a6 ?_ | refine s_len ?_ | refine s_lenR ?_ | refine s_index ?_ | refine s_indexR ?_ | refine s_loadBs ?_ | refine s_loadHs ?_ | refine s_addI ?_ | refine s_sliceHi ?_ | refine s_sliceLo ?_ | refine a7 ?_ | refine a8 ?_)
        try refine RW.q (QV.loadHs rfl (hx2)) rfl rfl ?_
        repeat (first | refine a1 ?_ | refine a3 ?_ | refine a4 ?_ | refine a5 ?_ | refine a6 ?_ | refine s_len ?_ | refine s_lenR ?_ | refine s_index ?_ | refine s_indexR ?_ | refine s_loadBs ?_ | refine s_loadHs ?_ | refine s_addI ?_ | refine s_sliceHi ?_ | refine s_sliceLo ?_ | refine a7 ?_ | refine a8 ?_)
        refine RW.buildSlice rfl rfl rfl rfl rfl rfl rfl (fun v41 hv41 => ?_)
        refine RW.appendR rfl rfl (by assumption) rfl rfl rfl (by decide) (by omega) (by omega) (fun _ => inferInstance) rfl rfl (fun v42 hv42 => ?_)
        repeat (first | refine a1 ?_ | refine a3 ?_ | refine a4 ?_ | refine a5 ?_ | refine a6 ?_ | refine s_len ?_ | refine s_lenR ?_ | refine s_index ?_ | refine s_indexR ?_ | refine s_loadBs ?_ | refine s_loadHs ?_ | refine s_addI ?_ | refine s_sliceHi ?_ | refine s_sliceLo ?_ | refine a7 ?_ | refine a8 ?_)
        refine RW.appendH rfl rfl (hshi) (by rfl) rfl (by decide) (by omega) (by omega) (fun _ _ => inferInstance) rfl rfl (fun d2 v47 hd2 hv47 => ?_)
        repeat (first | refine a1 ?_ | refine a3 ?_ | refine a4 ?_ | refine a5 ?_ | refine a6 ?_ | refine s_len ?_ | refine s_lenR ?_ | refine s_index ?_ | refine s_indexR ?_ | refine s_loadBs ?_ | refine s_loadHs ?_ | refine s_addI ?_ | refine s_sliceHi ?_ | refine s_sliceLo ?_ | refine a7 ?_ | refine a8 ?_)
        refine Runs.freeze (H := Hc) v47 hM (fun H1 hle1 hs1 hc1 => ?_)
        refine Runs.weak (ih (k + 1, H1, v47) ⟨by dsimp only; omega, hle.trans hle1, ?_⟩ (by dsimp only; omega)) (by repeat (first | exact trivial | refine And.intro rfl ?_)) (fun x hx => List.mem_cons_of_mem _ (SubH.h x hx)) (by repeat (first | exact List.nil_sublist _ | exact List.Sublist.refl _ | refine List.Sublist.cons_cons _ ?_ | refine List.Sublist.cons _ ?_))
        dsimp only
        rw [hnext]
        have e1 : insC x L = (L.drop 0).take (j - 0) ++ [x] ++ (L.drop j).take (L.length - j) := by
          unfold insC
          obtain ⟨w1, w2⟩ := while_at hI hend
          rw [w1, w2, List.drop_zero, Nat.sub_zero, ← List.length_drop, List.take_length]; simp
        rw [e1]
        refine SliceRep.of_row hs1 (by simp; omega) (((hd1.mono hle1).append (CellsRep.one ⟨_, rfl, (hvx.mono hle).mono hle1⟩)).append (hd2.mono hle1)) (Snap.le.refl _) hc1
    · refine d3 5 ?_
      refine d3 6 ?_
      refine d3 7 ?_
      refine d3 8 ?_
      refine d3 9 ?_
      refine d3 10 ?_
      refine d3 11 ?_
      refine d3 12 ?_
      refine d3 13 ?_
      refine d2 14 ?_
      refine DW.done (by kernel_rfl) ?_
      have hend : ∀ y, L[j]? = some y → decide (candLt y x) = false := by
        intro z hz
        rw [List.getElem?_eq_none (by omega)] at hz; cases hz
      repeat (first | refine a1 ?_ | refine a3 ?_ | refine a4 ?_ | refine a5 ?_ | refine a6 ?_ | refine s_len ?_ | refine s_lenR ?_ | refine s_index ?_ | refine s_indexR ?_ | refine s_loadBs ?_ | refine s_loadHs ?_ | refine s_addI ?_ | refine s_sliceHi ?_ | refine s_sliceLo ?_ | refine a7 ?_ | refine a8 ?_)
      refine RW.buildSlice rfl rfl rfl rfl rfl rfl rfl (fun v31 hv31 => ?_)
      repeat (first | refine a1 ?_ | refine a3 ?_ | refine a4 ?_ | refine a5 ?_ | refine a6 ?_ | refine s_len ?_ | refine s_lenR ?_ | refine s_index ?_ | refine s_indexR ?_ | refine s_loadBs ?_ | refine s_loadHs ?_ | refine s_addI ?_ | refine s_sliceHi ?_ | refine s_sliceLo ?_ | refine a7 ?_ | refine a8 ?_)
      have hslo : SliceRep Hc CandL (slv v3 2 0 j (capOf v3)) ((L.drop 0).take (j - 0)) := hL.slv rfl (Nat.zero_le _) hj (Nat.le_trans hj hL.capOf_le) (Nat.le_refl _)
      have hshi : SliceRep Hc CandL (slv v3 2 j L.length (capOf v3)) ((L.drop j).take (L.length - j)) := hL.slv rfl hj (Nat.le_refl _) hL.capOf_le (Nat.le_refl _)
      have hl1 : ((L.drop 0).take (j - 0)).length = j := by simp; omega
      have hl2 : ((L.drop j).take (L.length - j)).length = L.length - j := by simp
      refine RW.appendH rfl rfl (hslo) (by rfl) rfl (by decide) (by omega) (by omega) (fun _ _ => inferInstance) rfl rfl (fun d1 v35 hd1 hv35 => ?_)
      repeat (first | refine a1 ?_ | refine a3 ?_ | refine a4 ?_ | refine a5 ?_ | refine a6 ?_ | refine s_len ?_ | refine s_lenR ?_ | refine s_index ?_ | refine s_indexR ?_ | refine s_loadBs ?_ | refine s_loadHs ?_ | refine s_addI ?_ | refine s_sliceHi ?_ | refine s_sliceLo ?_ | refine a7 ?_ | refine a8 ?_)
      try refine RW.q (QV.loadHs rfl (hx2)) rfl rfl ?_
      repeat (first | refine a1 ?_ | refine a3 ?_ | refine a4 ?_ | refine a5 ?_ | refine a6 ?_ | refine s_len ?_ | refine s_lenR ?_ | refine s_index ?_ | refine s_indexR ?_ | refine s_loadBs ?_ | refine s_loadHs ?_ | refine s_addI ?_ | refine s_sliceHi ?_ | refine s_sliceLo ?_ | refine a7 ?_ | refine a8 ?_)
      refine RW.buildSlice rfl rfl rfl rfl rfl rfl rfl (fun v41 hv41 => ?_)
      refine RW.appendR rfl rfl (by assumption) rfl rfl rfl (by decide) (by omega) (by omega) (fun _ => inferInstance) rfl rfl (fun v42 hv42 => ?_)
      repeat (first | refine a1 ?_ | refine a3 ?_ | refine a4 ?_ | refine a5 ?_ | refine a6 ?_ | refine s_len ?_ | refine s_lenR ?_ | refine s_index ?_ | refine s_indexR ?_ | refine s_loadBs ?_ | refine s_loadHs ?_ | refine s_addI ?_ | refine s_sliceHi ?_ | refine s_sliceLo ?_ | refine a7 ?_ | refine a8 ?_)
      refine RW.appendH rfl rfl (hshi) (by rfl) rfl (by decide) (by omega) (by omega) (fun _ _ => inferInstance) rfl rfl (fun d2 v47 hd2 hv47 => ?_)
      repeat (first | refine a1 ?_ | refine a3 ?_ | refine a4 ?_ | refine a5 ?_ | refine a6 ?_ | refine s_len ?_ | refine s_lenR ?_ | refine s_index ?_ | refine s_indexR ?_ | refine s_loadBs ?_ | refine s_loadHs ?_ | refine s_addI ?_ | refine s_sliceHi ?_ | refine s_sliceLo ?_ | refine a7 ?_ | refine a8 ?_)
      refine Runs.freeze (H := Hc) v47 hM (fun H1 hle1 hs1 hc1 => ?_)
      refine Runs.weak (ih (k + 1, H1, v47) ⟨by dsimp only; omega, hle.trans hle1, ?_⟩ (by dsimp only; omega)) (by repeat (first | exact trivial | refine And.intro rfl ?_)) (fun x hx => List.mem_cons_of_mem _ (SubH.h x hx)) (by repeat (first | exact List.nil_sublist _ | exact List.Sublist.refl _ | refine List.Sublist.cons_cons _ ?_ | refine List.Sublist.cons _ ?_))
      dsimp only
      rw [hnext]
      have e1 : insC x L = (L.drop 0).take (j - 0) ++ [x] ++ (L.drop j).take (L.length - j) := by
        unfold insC
        obtain ⟨w1, w2⟩ := while_at hI hend
        rw [w1, w2, List.drop_zero, Nat.sub_zero, ← List.length_drop, List.take_length]; simp
      rw [e1]
      refine SliceRep.of_row hs1 (by simp; omega) (((hd1.mono hle1).append (CellsRep.one ⟨_, rfl, (hvx.mono hle).mono hle1⟩)).append (hd2.mono hle1)) (Snap.le.refl _) hc1
  · have hke : xs.take k = xs := List.take_of_length_le (by omega)
    rw [hke] at hL
    repeat (first | refine a1 ?_ | refine a3 ?_ | refine a4 ?_ | refine a5 ?_ | refine a6 ?_ | refine s_len ?_ | refine s_lenR ?_ | refine s_index ?_ | refine s_indexR ?_ | refine s_loadBs ?_ | refine s_loadHs ?_ | refine s_addI ?_ | refine s_sliceHi ?_ | refine s_sliceLo ?_ | refine a7 ?_ | refine a8 ?_)
    refine Runs.ret1 Try.func31 Try.results31 rfl (fun w hm => hR _ w _ Hc _ (by simp) (hle) ?_ hm)
    exact hL

def listR (N : Int) (gl : List Lnk) (k : Int) : List Cand := if validG N gl ∧ 0 ≤ k ∧ k ≤ 50 then (ordered (waysG gl N N.toNat 0)).take k.toNat else []
def listE (N : Int) (gl : List Lnk) (k : Int) : Int := if ¬ validG N gl then 150 else if k < 0 ∨ 50 < k then 1 else 0

end Go.Proofs.Ytjdhcblofkkibaa

/-
  Contracts of small functions of the layer of graphs and its reference. Conditions: none but the arguments' form.
-/
import Derived.Test.YthlolpckgffebaaTy
import Derived.Test.YthlolpckgffebaaG15
namespace Go.Proofs.Ythlolpckgffebaa
open Go Go.RowKit

theorem ints_c {H : Snap} {va vb : Value} {xs ys : List Int} (ha : SliceRep H I64 va xs) (hb : SliceRep H I64 vb ys) :
    Pure Try.prog 14 #[va, vb] H (fun _ r => r = .bool (decide (xs = ys))) := by
  have hba := ha.isSl.bound
  refine Pure.intro Try.func14 rfl Try.ntmps14 rfl (fun E R hM hR => ?_)
  repeat (first | refine a1 ?_ | refine a3 ?_ | refine a4 ?_ | refine a5 ?_ | refine a6 ?_ | refine s_len ?_ | refine s_lenR ?_ | refine s_index ?_ | refine s_indexR ?_ | refine s_loadB ?_ | refine s_loadH ?_ | refine s_loadR ?_ | refine s_addI ?_ | refine a7 ?_ | refine a8 ?_)
  refine Runs.cond_d rfl (fun h => ?_) (fun h => ?_)
  · repeat (first | refine a1 ?_ | refine a3 ?_ | refine a4 ?_ | refine a5 ?_ | refine a6 ?_ | refine s_len ?_ | refine s_lenR ?_ | refine s_index ?_ | refine s_indexR ?_ | refine s_loadB ?_ | refine s_loadH ?_ | refine s_loadR ?_ | refine s_addI ?_ | refine a7 ?_ | refine a8 ?_)
    refine Runs.ret1 Try.func14 Try.results14 rfl (fun w hm => hR _ w _ H _ (List.mem_cons_self ..) (Snap.le.refl _) ?_ hm)
    have : xs ≠ ys := fun e => h (by rw [e])
    simp [this]
  · have h : xs.length = ys.length := by omega
    repeat (first | refine a1 ?_ | refine a3 ?_ | refine a4 ?_ | refine a5 ?_ | refine a6 ?_ | refine s_len ?_ | refine s_lenR ?_ | refine s_index ?_ | refine s_indexR ?_ | refine s_loadB ?_ | refine s_loadH ?_ | refine s_loadR ?_ | refine s_addI ?_ | refine a7 ?_ | refine a8 ?_)
    refine Runs.loop (fun k : Nat => k ≤ xs.length ∧ ∀ j, j < k → xs[j]? = ys[j]?) (fun k => xs.length - k) (fun _ => [H]) (fun _ => []) (fun k => [(0, va), (1, vb), (5, .int .i64 (k : Int))]) 0 ⟨Nat.zero_le _, by simp⟩
      (fun h => Runs.back h ⟨rfl, rfl, rfl, trivial⟩) ?_
    rintro k ⟨hk, hI⟩ ih
    repeat (first | refine a1 ?_ | refine a3 ?_ | refine a4 ?_ | refine a5 ?_ | refine a6 ?_ | refine s_len ?_ | refine s_lenR ?_ | refine s_index ?_ | refine s_indexR ?_ | refine s_loadB ?_ | refine s_loadH ?_ | refine s_loadR ?_ | refine s_addI ?_ | refine a7 ?_ | refine a8 ?_)
    refine Runs.cond_d rfl (fun hlt => ?_) (fun hlt => ?_)
    · obtain ⟨x, hx⟩ : ∃ x, xs[k]? = some x := ⟨_, List.getElem?_eq_getElem (by omega)⟩
      obtain ⟨y, hy⟩ : ∃ y, ys[k]? = some y := ⟨_, List.getElem?_eq_getElem (by omega)⟩
      repeat (first | refine a1 ?_ | refine a3 ?_ | refine a4 ?_ | refine a5 ?_ | refine a6 ?_ | refine s_len ?_ | refine s_lenR ?_ | refine s_index ?_ | refine s_indexR ?_ | refine s_loadB ?_ | refine s_loadH ?_ | refine s_loadR ?_ | refine s_addI ?_ | refine a7 ?_ | refine a8 ?_)
      refine Runs.regionD _ _ [] (fun x hx => List.mem_cons_of_mem _ hx) (List.Sublist.refl _) (by kernel_rfl) ?_
      refine d1 0 2 ?_
      (first | refine t_index 2 ?_ | refine t_indexR 2 ?_)
      (first | refine t_loadB 3 ?_ | refine t_loadH 3 ?_ | refine t_loadR 3 ?_)
      refine d1 4 2 ?_
      (first | refine t_index 6 ?_ | refine t_indexR 6 ?_)
      (first | refine t_loadB 7 ?_ | refine t_loadH 7 ?_ | refine t_loadR 7 ?_)
      refine d2 8 ?_
      refine DW.done (by kernel_rfl) ?_
      repeat (first | refine a1 ?_ | refine a3 ?_ | refine a4 ?_ | refine a5 ?_ | refine a6 ?_ | refine s_len ?_ | refine s_lenR ?_ | refine s_index ?_ | refine s_indexR ?_ | refine s_loadB ?_ | refine s_loadH ?_ | refine s_loadR ?_ | refine s_addI ?_ | refine a7 ?_ | refine a8 ?_)
      refine Runs.cond_d rfl (fun hne => ?_) (fun hne => ?_)
      · repeat (first | refine a1 ?_ | refine a3 ?_ | refine a4 ?_ | refine a5 ?_ | refine a6 ?_ | refine s_len ?_ | refine s_lenR ?_ | refine s_index ?_ | refine s_indexR ?_ | refine s_loadB ?_ | refine s_loadH ?_ | refine s_loadR ?_ | refine s_addI ?_ | refine a7 ?_ | refine a8 ?_)
        refine Runs.ret1 Try.func14 Try.results14 rfl (fun w hm => hR _ w _ H _ (List.mem_cons_self ..) (Snap.le.refl _) ?_ hm)
        have : xs ≠ ys := fun e => by subst e; rw [hx] at hy; exact hne (Option.some.inj hy)
        simp [this]
      · have hxy : x = y := by omega
        subst hxy
        repeat (first | refine a1 ?_ | refine a3 ?_ | refine a4 ?_ | refine a5 ?_ | refine a6 ?_ | refine s_len ?_ | refine s_lenR ?_ | refine s_index ?_ | refine s_indexR ?_ | refine s_loadB ?_ | refine s_loadH ?_ | refine s_loadR ?_ | refine s_addI ?_ | refine a7 ?_ | refine a8 ?_)
        refine Runs.back (ih (k + 1) ⟨by omega, fun j hj => ?_⟩ (by omega)) ⟨rfl, rfl, rfl, trivial⟩
        by_cases e : j = k
        · subst e; rw [hx, hy]
        · exact hI j (by omega)
    · repeat (first | refine a1 ?_ | refine a3 ?_ | refine a4 ?_ | refine a5 ?_ | refine a6 ?_ | refine s_len ?_ | refine s_lenR ?_ | refine s_index ?_ | refine s_indexR ?_ | refine s_loadB ?_ | refine s_loadH ?_ | refine s_loadR ?_ | refine s_addI ?_ | refine a7 ?_ | refine a8 ?_)
      refine Runs.ret1 Try.func14 Try.results14 rfl (fun w hm => hR _ w _ H _ (List.mem_cons_self ..) (Snap.le.refl _) ?_ hm)
      have : xs = ys := List.ext_getElem? fun j => by
        by_cases hj : j < k
        · exact hI j hj
        · rw [List.getElem?_eq_none (by omega), List.getElem?_eq_none (by omega)]
      simp [this]

theorem before_c {H : Snap} {va vb : Value} {xs ys : List Int} (ha : SliceRep H I64 va xs) (hb : SliceRep H I64 vb ys) :
    Pure Try.prog 51 #[va, vb] H (fun _ r => r = .bool (decide (lexCmp xs ys < 0))) := by
  have hba := ha.isSl.bound
  have hbb := hb.isSl.bound
  refine Pure.intro Try.func51 rfl Try.ntmps51 rfl (fun E R hM hR => ?_)
  repeat (first | refine a1 ?_ | refine a3 ?_ | refine a4 ?_ | refine a5 ?_ | refine a6 ?_ | refine s_len ?_ | refine s_lenR ?_ | refine s_index ?_ | refine s_indexR ?_ | refine s_loadB ?_ | refine s_loadH ?_ | refine s_loadR ?_ | refine s_addI ?_ | refine a7 ?_ | refine a8 ?_)
  refine Runs.loop (fun k : Nat => k ≤ xs.length ∧ k ≤ ys.length ∧ lexCmp xs ys = lexCmp (xs.drop k) (ys.drop k)) (fun k => xs.length - k) (fun _ => [H]) (fun _ => []) (fun k => [(0, va), (1, vb), (5, .int .i64 (k : Int))]) 0 ⟨Nat.zero_le _, Nat.zero_le _, rfl⟩
    (fun h => Runs.back h ⟨rfl, rfl, rfl, trivial⟩) ?_
  rintro k ⟨hk, hk2, hI⟩ ih
  repeat (first | refine a1 ?_ | refine a3 ?_ | refine a4 ?_ | refine a5 ?_ | refine a6 ?_ | refine s_len ?_ | refine s_lenR ?_ | refine s_index ?_ | refine s_indexR ?_ | refine s_loadB ?_ | refine s_loadH ?_ | refine s_loadR ?_ | refine s_addI ?_ | refine a7 ?_ | refine a8 ?_)
  refine RW.dec 10 rfl (fun hlt => ?_) (fun hlt => ?_)
  · repeat (first | refine a1 ?_ | refine a3 ?_ | refine a4 ?_ | refine a5 ?_ | refine a6 ?_ | refine s_len ?_ | refine s_lenR ?_ | refine s_index ?_ | refine s_indexR ?_ | refine s_loadB ?_ | refine s_loadH ?_ | refine s_loadR ?_ | refine s_addI ?_ | refine a7 ?_ | refine a8 ?_)
    refine Runs.cond_d rfl (fun hlt2 => ?_) (fun hlt2 => ?_)
    · obtain ⟨x, hx⟩ : ∃ x, xs[k]? = some x := ⟨_, List.getElem?_eq_getElem (by omega)⟩
      obtain ⟨y, hy⟩ : ∃ y, ys[k]? = some y := ⟨_, List.getElem?_eq_getElem (by omega)⟩
      have hst := lexCmp_step hx hy
      repeat (first | refine a1 ?_ | refine a3 ?_ | refine a4 ?_ | refine a5 ?_ | refine a6 ?_ | refine s_len ?_ | refine s_lenR ?_ | refine s_index ?_ | refine s_indexR ?_ | refine s_loadB ?_ | refine s_loadH ?_ | refine s_loadR ?_ | refine s_addI ?_ | refine a7 ?_ | refine a8 ?_)
      refine Runs.regionD _ _ [] (fun x hx => List.mem_cons_of_mem _ hx) (List.Sublist.refl _) (by kernel_rfl) ?_
      refine d1 0 2 ?_
      (first | refine t_index 2 ?_ | refine t_indexR 2 ?_)
      (first | refine t_loadB 3 ?_ | refine t_loadH 3 ?_ | refine t_loadR 3 ?_)
      refine d1 4 2 ?_
      (first | refine t_index 6 ?_ | refine t_indexR 6 ?_)
      (first | refine t_loadB 7 ?_ | refine t_loadH 7 ?_ | refine t_loadR 7 ?_)
      refine d2 8 ?_
      refine DW.done (by kernel_rfl) ?_
      repeat (first | refine a1 ?_ | refine a3 ?_ | refine a4 ?_ | refine a5 ?_ | refine a6 ?_ | refine s_len ?_ | refine s_lenR ?_ | refine s_index ?_ | refine s_indexR ?_ | refine s_loadB ?_ | refine s_loadH ?_ | refine s_loadR ?_ | refine s_addI ?_ | refine a7 ?_ | refine a8 ?_)
      refine Runs.cond_d rfl (fun hne => ?_) (fun hne => ?_)
      · repeat (first | refine a1 ?_ | refine a3 ?_ | refine a4 ?_ | refine a5 ?_ | refine a6 ?_ | refine s_len ?_ | refine s_lenR ?_ | refine s_index ?_ | refine s_indexR ?_ | refine s_loadB ?_ | refine s_loadH ?_ | refine s_loadR ?_ | refine s_addI ?_ | refine a7 ?_ | refine a8 ?_)
        refine Runs.regionD _ _ [] (fun x hx => List.mem_cons_of_mem _ hx) (List.Sublist.refl _) (by kernel_rfl) ?_
        refine d1 0 2 ?_
        (first | refine t_index 2 ?_ | refine t_indexR 2 ?_)
        (first | refine t_loadB 3 ?_ | refine t_loadH 3 ?_ | refine t_loadR 3 ?_)
        refine d1 4 2 ?_
        (first | refine t_index 6 ?_ | refine t_indexR 6 ?_)
        (first | refine t_loadB 7 ?_ | refine t_loadH 7 ?_ | refine t_loadR 7 ?_)
        refine d1 8 2 ?_
        refine DW.done (by kernel_rfl) ?_
        repeat (first | refine a1 ?_ | refine a3 ?_ | refine a4 ?_ | refine a5 ?_ | refine a6 ?_ | refine s_len ?_ | refine s_lenR ?_ | refine s_index ?_ | refine s_indexR ?_ | refine s_loadB ?_ | refine s_loadH ?_ | refine s_loadR ?_ | refine s_addI ?_ | refine a7 ?_ | refine a8 ?_)
        refine Runs.ret1 Try.func51 Try.results51 rfl (fun w hm => hR _ w _ H _ (List.mem_cons_self ..) (Snap.le.refl _) ?_ hm)
        rw [hI, hst]
        by_cases h1 : x < y
        · simp [h1]
        · have h2 : y < x := by omega
          simp [h1, h2]
      · have hxy : x = y := by omega
        subst hxy
        repeat (first | refine a1 ?_ | refine a3 ?_ | refine a4 ?_ | refine a5 ?_ | refine a6 ?_ | refine s_len ?_ | refine s_lenR ?_ | refine s_index ?_ | refine s_indexR ?_ | refine s_loadB ?_ | refine s_loadH ?_ | refine s_loadR ?_ | refine s_addI ?_ | refine a7 ?_ | refine a8 ?_)
        refine Runs.back (ih (k + 1) ⟨by omega, by omega, ?_⟩ (by omega)) ⟨rfl, rfl, rfl, trivial⟩
        rw [hI, hst]; simp
    · repeat (first | refine a1 ?_ | refine a3 ?_ | refine a4 ?_ | refine a5 ?_ | refine a6 ?_ | refine s_len ?_ | refine s_lenR ?_ | refine s_index ?_ | refine s_indexR ?_ | refine s_loadB ?_ | refine s_loadH ?_ | refine s_loadR ?_ | refine s_addI ?_ | refine a7 ?_ | refine a8 ?_)
      refine Runs.ret1 Try.func51 Try.results51 rfl (fun w hm => hR _ w _ H _ (List.mem_cons_self ..) (Snap.le.refl _) ?_ hm)
      rw [hI]; simp [(lexCmp_end (xs := xs) (ys := ys) (.inr (by omega)) hk hk2).1]
  · repeat (first | refine a1 ?_ | refine a3 ?_ | refine a4 ?_ | refine a5 ?_ | refine a6 ?_ | refine s_len ?_ | refine s_lenR ?_ | refine s_index ?_ | refine s_indexR ?_ | refine s_loadB ?_ | refine s_loadH ?_ | refine s_loadR ?_ | refine s_addI ?_ | refine a7 ?_ | refine a8 ?_)
    refine Runs.ret1 Try.func51 Try.results51 rfl (fun w hm => hR _ w _ H _ (List.mem_cons_self ..) (Snap.le.refl _) ?_ hm)
    rw [hI]; simp [(lexCmp_end (xs := xs) (ys := ys) (.inl (by omega)) hk hk2).1]

end Go.Proofs.Ythlolpckgffebaa

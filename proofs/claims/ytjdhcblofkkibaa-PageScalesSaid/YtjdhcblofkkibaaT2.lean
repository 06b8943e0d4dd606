/-
  Contracts of small functions of the layer of graphs and its reference, second part. Conditions: none but the arguments' form.
-/
import Derived.Test.YtjdhcblofkkibaaMT1
namespace Go.Proofs.Ytjdhcblofkkibaa
open Go Go.RowKit

theorem isNaN_c {H : Snap} {x : Int} : Pure Try.prog 58 #[.int .i64 x] H (fun _ r => r = .bool false) := by
  refine Pure.intro Try.func58 rfl Try.ntmps58 rfl (fun E R hM hR => ?_)
  repeat (first | refine a1 ?_ | refine a3 ?_ | refine a4 ?_ | refine a5 ?_ | refine a6 ?_ | refine a7 ?_ | refine a8 ?_)
  refine Runs.ret1 Try.func58 Try.results58 rfl (fun w hm => hR _ w _ H _ (List.mem_cons_self ..) (Snap.le.refl _) ?_ hm)
  simp

theorem cmpInt_c {H : Snap} {x y : Int} : Pure Try.prog 48 #[.int .i64 x, .int .i64 y] H (fun _ r => r = .int .i64 (if x < y then -1 else if y < x then 1 else 0)) := by
  refine Pure.intro Try.func48 rfl Try.ntmps48 rfl (fun E R hM hR => ?_)
  repeat (first | refine a1 ?_ | refine a3 ?_ | refine a4 ?_ | refine a5 ?_ | refine a6 ?_ | refine a7 ?_ | refine a8 ?_)
  refine RW.callV rfl (isNaN_c (H := H)) rfl rfl ?_
  rintro _ _ rfl
  repeat (first | refine a1 ?_ | refine a3 ?_ | refine a4 ?_ | refine a5 ?_ | refine a6 ?_ | refine a7 ?_ | refine a8 ?_)
  refine RW.callV rfl (isNaN_c (H := H)) rfl rfl ?_
  rintro _ _ rfl
  repeat (first | refine a1 ?_ | refine a3 ?_ | refine a4 ?_ | refine a5 ?_ | refine a6 ?_ | refine a7 ?_ | refine a8 ?_)
  refine Runs.cond_d rfl (fun h => ?_) (fun h => ?_)
  · repeat (first | refine a1 ?_ | refine a3 ?_ | refine a4 ?_ | refine a5 ?_ | refine a6 ?_ | refine a7 ?_ | refine a8 ?_)
    refine Runs.ret1 Try.func48 Try.results48 rfl (fun w hm => hR _ w _ H _ (List.mem_cons_self ..) (Snap.le.refl _) ?_ hm)
    simp [h]
  · repeat (first | refine a1 ?_ | refine a3 ?_ | refine a4 ?_ | refine a5 ?_ | refine a6 ?_ | refine a7 ?_ | refine a8 ?_)
    refine Runs.cond_d rfl (fun h2 => ?_) (fun h2 => ?_)
    · repeat (first | refine a1 ?_ | refine a3 ?_ | refine a4 ?_ | refine a5 ?_ | refine a6 ?_ | refine a7 ?_ | refine a8 ?_)
      refine Runs.ret1 Try.func48 Try.results48 rfl (fun w hm => hR _ w _ H _ (List.mem_cons_self ..) (Snap.le.refl _) ?_ hm)
      simp [h, h2]
    · repeat (first | refine a1 ?_ | refine a3 ?_ | refine a4 ?_ | refine a5 ?_ | refine a6 ?_ | refine a7 ?_ | refine a8 ?_)
      refine Runs.ret1 Try.func48 Try.results48 rfl (fun w hm => hR _ w _ H _ (List.mem_cons_self ..) (Snap.le.refl _) ?_ hm)
      simp [h, h2]

theorem compare_c {H : Snap} {va vb : Value} {xs ys : List Int} (ha : SliceRep H I64 va xs) (hb : SliceRep H I64 vb ys) :
    Pure Try.prog 38 #[va, vb] H (fun _ r => r = .int .i64 (lexCmp xs ys)) := by
  have hba := ha.isSl.bound
  have hbb := hb.isSl.bound
  refine Pure.intro Try.func38 rfl Try.ntmps38 rfl (fun E R hM hR => ?_)
  repeat (first | refine a1 ?_ | refine a3 ?_ | refine a4 ?_ | refine a5 ?_ | refine a6 ?_ | refine s_len ?_ | refine s_lenR ?_ | refine s_index ?_ | refine s_indexR ?_ | refine s_loadB ?_ | refine s_loadH ?_ | refine s_loadR ?_ | refine s_addI ?_ | refine a7 ?_ | refine a8 ?_)
  refine Runs.loop (fun k : Nat => k ≤ xs.length ∧ k ≤ ys.length ∧ lexCmp xs ys = lexCmp (xs.drop k) (ys.drop k)) (fun k => xs.length - k) (fun _ => [H]) (fun _ => []) (fun k => [(0, va), (1, vb), (9, va), (10, .int .i64 (xs.length : Int)), (11, .int .i64 (k : Int))]) 0 ⟨Nat.zero_le _, Nat.zero_le _, rfl⟩
    (fun h => Runs.back h ⟨rfl, rfl, rfl, rfl, rfl, trivial⟩) ?_
  rintro k ⟨hk, hk2, hI⟩ ih
  repeat (first | refine a1 ?_ | refine a3 ?_ | refine a4 ?_ | refine a5 ?_ | refine a6 ?_ | refine s_len ?_ | refine s_lenR ?_ | refine s_index ?_ | refine s_indexR ?_ | refine s_loadB ?_ | refine s_loadH ?_ | refine s_loadR ?_ | refine s_addI ?_ | refine a7 ?_ | refine a8 ?_)
  refine Runs.cond_d rfl (fun hlt => ?_) (fun hlt => ?_)
  · obtain ⟨x, hx⟩ : ∃ x, xs[k]? = some x := ⟨_, List.getElem?_eq_getElem (by omega)⟩
    repeat (first | refine a1 ?_ | refine a3 ?_ | refine a4 ?_ | refine a5 ?_ | refine a6 ?_ | refine s_len ?_ | refine s_lenR ?_ | refine s_index ?_ | refine s_indexR ?_ | refine s_loadB ?_ | refine s_loadH ?_ | refine s_loadR ?_ | refine s_addI ?_ | refine a7 ?_ | refine a8 ?_)
    refine Runs.cond_d rfl (fun hlt2 => ?_) (fun hlt2 => ?_)
    · repeat (first | refine a1 ?_ | refine a3 ?_ | refine a4 ?_ | refine a5 ?_ | refine a6 ?_ | refine s_len ?_ | refine s_lenR ?_ | refine s_index ?_ | refine s_indexR ?_ | refine s_loadB ?_ | refine s_loadH ?_ | refine s_loadR ?_ | refine s_addI ?_ | refine a7 ?_ | refine a8 ?_)
      refine Runs.ret1 Try.func38 Try.results38 rfl (fun w hm => hR _ w _ H _ (List.mem_cons_self ..) (Snap.le.refl _) ?_ hm)
      have h1 : ¬ xs.length < ys.length := by omega
      have h2 : ys.length < xs.length := by omega
      rw [hI, (lexCmp_end (xs := xs) (ys := ys) (.inr (by omega)) hk hk2).2]; simp [h1, h2]
    · obtain ⟨y, hy⟩ : ∃ y, ys[k]? = some y := ⟨_, List.getElem?_eq_getElem (by omega)⟩
      have hst := lexCmp_step hx hy
      repeat (first | refine a1 ?_ | refine a3 ?_ | refine a4 ?_ | refine a5 ?_ | refine a6 ?_ | refine s_len ?_ | refine s_lenR ?_ | refine s_index ?_ | refine s_indexR ?_ | refine s_loadB ?_ | refine s_loadH ?_ | refine s_loadR ?_ | refine s_addI ?_ | refine a7 ?_ | refine a8 ?_)
      refine RW.callV rfl (cmpInt_c (H := H)) rfl rfl ?_
      rintro _ _ rfl
      repeat (first | refine a1 ?_ | refine a3 ?_ | refine a4 ?_ | refine a5 ?_ | refine a6 ?_ | refine s_len ?_ | refine s_lenR ?_ | refine s_index ?_ | refine s_indexR ?_ | refine s_loadB ?_ | refine s_loadH ?_ | refine s_loadR ?_ | refine s_addI ?_ | refine a7 ?_ | refine a8 ?_)
      refine Runs.cond_d rfl (fun hne => ?_) (fun hne => ?_)
      · repeat (first | refine a1 ?_ | refine a3 ?_ | refine a4 ?_ | refine a5 ?_ | refine a6 ?_ | refine s_len ?_ | refine s_lenR ?_ | refine s_index ?_ | refine s_indexR ?_ | refine s_loadB ?_ | refine s_loadH ?_ | refine s_loadR ?_ | refine s_addI ?_ | refine a7 ?_ | refine a8 ?_)
        refine Runs.ret1 Try.func38 Try.results38 rfl (fun w hm => hR _ w _ H _ (List.mem_cons_self ..) (Snap.le.refl _) ?_ hm)
        rw [hI, hst]
        split
        · rfl
        · split
          · rfl
          · rename_i h1 h2; simp [h1, h2] at hne
      · repeat (first | refine a1 ?_ | refine a3 ?_ | refine a4 ?_ | refine a5 ?_ | refine a6 ?_ | refine s_len ?_ | refine s_lenR ?_ | refine s_index ?_ | refine s_indexR ?_ | refine s_loadB ?_ | refine s_loadH ?_ | refine s_loadR ?_ | refine s_addI ?_ | refine a7 ?_ | refine a8 ?_)
        refine Runs.back (ih (k + 1) ⟨by omega, by omega, ?_⟩ (by omega)) ⟨rfl, rfl, rfl, rfl, rfl, trivial⟩
        rw [hI, hst]
        by_cases h1 : x < y
        · simp [h1] at hne
        · by_cases h2 : y < x
          · simp [h1, h2] at hne
          · simp [h1, h2]
  · repeat (first | refine a1 ?_ | refine a3 ?_ | refine a4 ?_ | refine a5 ?_ | refine a6 ?_ | refine s_len ?_ | refine s_lenR ?_ | refine s_index ?_ | refine s_indexR ?_ | refine s_loadB ?_ | refine s_loadH ?_ | refine s_loadR ?_ | refine s_addI ?_ | refine a7 ?_ | refine a8 ?_)
    refine Runs.cond_d rfl (fun h3 => ?_) (fun h3 => ?_)
    · repeat (first | refine a1 ?_ | refine a3 ?_ | refine a4 ?_ | refine a5 ?_ | refine a6 ?_ | refine s_len ?_ | refine s_lenR ?_ | refine s_index ?_ | refine s_indexR ?_ | refine s_loadB ?_ | refine s_loadH ?_ | refine s_loadR ?_ | refine s_addI ?_ | refine a7 ?_ | refine a8 ?_)
      refine Runs.ret1 Try.func38 Try.results38 rfl (fun w hm => hR _ w _ H _ (List.mem_cons_self ..) (Snap.le.refl _) ?_ hm)
      rw [hI, (lexCmp_end (xs := xs) (ys := ys) (.inl (by omega)) hk hk2).2]
      have h4 : xs.length < ys.length := by omega
      simp [h4]
    · repeat (first | refine a1 ?_ | refine a3 ?_ | refine a4 ?_ | refine a5 ?_ | refine a6 ?_ | refine s_len ?_ | refine s_lenR ?_ | refine s_index ?_ | refine s_indexR ?_ | refine s_loadB ?_ | refine s_loadH ?_ | refine s_loadR ?_ | refine s_addI ?_ | refine a7 ?_ | refine a8 ?_)
      refine Runs.ret1 Try.func38 Try.results38 rfl (fun w hm => hR _ w _ H _ (List.mem_cons_self ..) (Snap.le.refl _) ?_ hm)
      rw [hI, (lexCmp_end (xs := xs) (ys := ys) (.inl (by omega)) hk hk2).2]
      have h4 : ¬ xs.length < ys.length := by omega
      have h5 : ¬ ys.length < xs.length := by omega
      simp [h4, h5]

def candLt (a b : Cand) : Prop := a.cost < b.cost ∨ a.cost = b.cost ∧ lexCmp a.links b.links < 0
instance (a b : Cand) : Decidable (candLt a b) := inferInstanceAs (Decidable (_ ∨ _))

theorem rless_c {H : Snap} {va vb : Value} {a b : Cand} (ha : SliceRep H I64 va a.links) (hb : SliceRep H I64 vb b.links) :
    Pure Try.prog 47 #[.agg #[va, .int .i64 a.cost], .agg #[vb, .int .i64 b.cost]] H (fun _ r => r = .bool (decide (candLt a b))) := by
  refine Pure.intro Try.func47 rfl Try.ntmps47 rfl (fun E R hM hR => ?_)
  repeat (first | refine a1 ?_ | refine a3 ?_ | refine a4 ?_ | refine a5 ?_ | refine a6 ?_ | refine s_fieldB ?_ | refine s_fieldV ?_ | refine s_loadB ?_ | refine s_loadH ?_ | refine s_loadR ?_ | refine a7 ?_ | refine a8 ?_)
  refine RW.box rfl rfl rfl rfl (fun b1 => ?_)
  refine RW.box rfl rfl rfl rfl (fun b2 => ?_)
  repeat (first | refine a1 ?_ | refine a3 ?_ | refine a4 ?_ | refine a5 ?_ | refine a6 ?_ | refine s_fieldB ?_ | refine s_fieldV ?_ | refine s_loadB ?_ | refine s_loadH ?_ | refine s_loadR ?_ | refine a7 ?_ | refine a8 ?_)
  refine RW.dec 10 rfl (fun h1 => ?_) (fun h1 => ?_)
  · repeat (first | refine a1 ?_ | refine a3 ?_ | refine a4 ?_ | refine a5 ?_ | refine a6 ?_ | refine s_fieldB ?_ | refine s_fieldV ?_ | refine s_loadB ?_ | refine s_loadH ?_ | refine s_loadR ?_ | refine a7 ?_ | refine a8 ?_)
    refine Runs.ret1 Try.func47 Try.results47 rfl (fun w hm => hR _ w _ H _ (List.mem_cons_self ..) (Snap.le.refl _) ?_ hm)
    simp [candLt, h1]
  · repeat (first | refine a1 ?_ | refine a3 ?_ | refine a4 ?_ | refine a5 ?_ | refine a6 ?_ | refine s_fieldB ?_ | refine s_fieldV ?_ | refine s_loadB ?_ | refine s_loadH ?_ | refine s_loadR ?_ | refine a7 ?_ | refine a8 ?_)
    refine RW.dec 16 rfl (fun h2 => ?_) (fun h2 => ?_)
    · repeat (first | refine a1 ?_ | refine a3 ?_ | refine a4 ?_ | refine a5 ?_ | refine a6 ?_ | refine s_fieldB ?_ | refine s_fieldV ?_ | refine s_loadB ?_ | refine s_loadH ?_ | refine s_loadR ?_ | refine a7 ?_ | refine a8 ?_)
      refine RW.callV rfl (before_c ha hb) rfl rfl ?_
      rintro _ _ rfl
      repeat (first | refine a1 ?_ | refine a3 ?_ | refine a4 ?_ | refine a5 ?_ | refine a6 ?_ | refine s_fieldB ?_ | refine s_fieldV ?_ | refine s_loadB ?_ | refine s_loadH ?_ | refine s_loadR ?_ | refine a7 ?_ | refine a8 ?_)
      refine Runs.ret1 Try.func47 Try.results47 rfl (fun w hm => hR _ w _ H _ (List.mem_cons_self ..) (Snap.le.refl _) ?_ hm)
      simp [candLt, h2]
    · repeat (first | refine a1 ?_ | refine a3 ?_ | refine a4 ?_ | refine a5 ?_ | refine a6 ?_ | refine s_fieldB ?_ | refine s_fieldV ?_ | refine s_loadB ?_ | refine s_loadH ?_ | refine s_loadR ?_ | refine a7 ?_ | refine a8 ?_)
      refine Runs.ret1 Try.func47 Try.results47 rfl (fun w hm => hR _ w _ H _ (List.mem_cons_self ..) (Snap.le.refl _) ?_ hm)
      simp [candLt, h1, h2]

theorem same_c {H : Snap} {va vb : Value} {xs ys : List Cand} (ha : SliceRep H CandL va xs) (hb : SliceRep H CandL vb ys) :
    Pure Try.prog 27 #[va, vb] H (fun _ r => r = .bool (decide (xs = ys))) := by
  have hba := ha.isSl.bound
  refine Pure.intro Try.func27 rfl Try.ntmps27 rfl (fun E R hM hR => ?_)
  repeat (first | refine a1 ?_ | refine a3 ?_ | refine a4 ?_ | refine a5 ?_ | refine a6 ?_ | refine s_len ?_ | refine s_lenR ?_ | refine s_index ?_ | refine s_indexR ?_ | refine s_fieldB ?_ | refine s_fieldV ?_ | refine s_loadB ?_ | refine s_loadH ?_ | refine s_loadR ?_ | refine s_addI ?_ | refine a7 ?_ | refine a8 ?_)
  refine Runs.cond_d rfl (fun h => ?_) (fun h => ?_)
  · repeat (first | refine a1 ?_ | refine a3 ?_ | refine a4 ?_ | refine a5 ?_ | refine a6 ?_ | refine s_len ?_ | refine s_lenR ?_ | refine s_index ?_ | refine s_indexR ?_ | refine s_fieldB ?_ | refine s_fieldV ?_ | refine s_loadB ?_ | refine s_loadH ?_ | refine s_loadR ?_ | refine s_addI ?_ | refine a7 ?_ | refine a8 ?_)
    refine Runs.ret1 Try.func27 Try.results27 rfl (fun w hm => hR _ w _ H _ (List.mem_cons_self ..) (Snap.le.refl _) ?_ hm)
    have : xs ≠ ys := fun e => h (by rw [e])
    simp [this]
  · have h : xs.length = ys.length := by omega
    repeat (first | refine a1 ?_ | refine a3 ?_ | refine a4 ?_ | refine a5 ?_ | refine a6 ?_ | refine s_len ?_ | refine s_lenR ?_ | refine s_index ?_ | refine s_indexR ?_ | refine s_fieldB ?_ | refine s_fieldV ?_ | refine s_loadB ?_ | refine s_loadH ?_ | refine s_loadR ?_ | refine s_addI ?_ | refine a7 ?_ | refine a8 ?_)
    refine Runs.loop (fun k : Nat => k ≤ xs.length ∧ ∀ j, j < k → xs[j]? = ys[j]?) (fun k => xs.length - k) (fun _ => [H]) (fun _ => []) (fun k => [(0, va), (1, vb), (5, .int .i64 (k : Int))]) 0 ⟨Nat.zero_le _, by simp⟩
      (fun h => Runs.back h ⟨rfl, rfl, rfl, trivial⟩) ?_
    rintro k ⟨hk, hI⟩ ih
    repeat (first | refine a1 ?_ | refine a3 ?_ | refine a4 ?_ | refine a5 ?_ | refine a6 ?_ | refine s_len ?_ | refine s_lenR ?_ | refine s_index ?_ | refine s_indexR ?_ | refine s_fieldB ?_ | refine s_fieldV ?_ | refine s_loadB ?_ | refine s_loadH ?_ | refine s_loadR ?_ | refine s_addI ?_ | refine a7 ?_ | refine a8 ?_)
    refine Runs.cond_d rfl (fun hlt => ?_) (fun hlt => ?_)
    · obtain ⟨x, hx⟩ : ∃ x, xs[k]? = some x := ⟨_, List.getElem?_eq_getElem (by omega)⟩
      obtain ⟨y, hy⟩ : ∃ y, ys[k]? = some y := ⟨_, List.getElem?_eq_getElem (by omega)⟩
      obtain ⟨vx, hvx, hx0, hx1, _⟩ := ha.cand hx
      obtain ⟨vy, hvy, hy0, hy1, _⟩ := hb.cand hy
      have hno : ¬ x = y → xs ≠ ys := fun hne e => by subst e; rw [hx] at hy; exact hne (Option.some.inj hy)
      repeat (first | refine a1 ?_ | refine a3 ?_ | refine a4 ?_ | refine a5 ?_ | refine a6 ?_ | refine s_len ?_ | refine s_lenR ?_ | refine s_index ?_ | refine s_indexR ?_ | refine s_fieldB ?_ | refine s_fieldV ?_ | refine s_loadB ?_ | refine s_loadH ?_ | refine s_loadR ?_ | refine s_addI ?_ | refine a7 ?_ | refine a8 ?_)
      refine Runs.regionD _ _ [] (fun x hx => List.mem_cons_of_mem _ hx) (List.Sublist.refl _) (by kernel_rfl) ?_
      refine d1 0 2 ?_
      (first | refine t_index 2 ?_ | refine t_indexR 2 ?_)
      (first | refine t_fieldB 3 ?_ | refine t_fieldV 3 ?_)
      (first | refine t_loadB 4 ?_ | refine t_loadH 4 ?_ | refine t_loadR 4 ?_)
      refine d1 5 2 ?_
      (first | refine t_index 7 ?_ | refine t_indexR 7 ?_)
      (first | refine t_fieldB 8 ?_ | refine t_fieldV 8 ?_)
      (first | refine t_loadB 9 ?_ | refine t_loadH 9 ?_ | refine t_loadR 9 ?_)
      refine d1 10 2 ?_
      refine DW.dec 28 rfl (fun hne => ?_) (fun hne => ?_)
      · refine d3 12 ?_
        refine d3 13 ?_
        refine d3 14 ?_
        refine d3 15 ?_
        refine d3 16 ?_
        refine d3 17 ?_
        refine d3 18 ?_
        refine d3 19 ?_
        refine d3 20 ?_
        refine d3 21 ?_
        refine d3 22 ?_
        refine d3 23 ?_
        refine d2 24 ?_
        refine DW.done (by kernel_rfl) ?_
        repeat (first | refine a1 ?_ | refine a3 ?_ | refine a4 ?_ | refine a5 ?_ | refine a6 ?_ | refine s_len ?_ | refine s_lenR ?_ | refine s_index ?_ | refine s_indexR ?_ | refine s_fieldB ?_ | refine s_fieldV ?_ | refine s_loadB ?_ | refine s_loadH ?_ | refine s_loadR ?_ | refine s_addI ?_ | refine a7 ?_ | refine a8 ?_)
        refine Runs.ret1 Try.func27 Try.results27 rfl (fun w hm => hR _ w _ H _ (List.mem_cons_self ..) (Snap.le.refl _) ?_ hm)
        simp [hno (fun e => hne (by rw [e]))]
      · refine d1 12 2 ?_
        (first | refine t_index 14 ?_ | refine t_indexR 14 ?_)
        (first | refine t_fieldB 15 ?_ | refine t_fieldV 15 ?_)
        (first | refine t_loadB 16 ?_ | refine t_loadH 16 ?_ | refine t_loadR 16 ?_)
        refine d1 17 2 ?_
        (first | refine t_index 19 ?_ | refine t_indexR 19 ?_)
        (first | refine t_fieldB 20 ?_ | refine t_fieldV 20 ?_)
        (first | refine t_loadB 21 ?_ | refine t_loadH 21 ?_ | refine t_loadR 21 ?_)
        refine DW.callV 22 rfl (by kernel_rfl) rfl (ints_c hvx hvy) rfl rfl ?_
        rintro _ _ rfl
        refine d1 23 2 ?_
        refine DW.done (by kernel_rfl) ?_
        repeat (first | refine a1 ?_ | refine a3 ?_ | refine a4 ?_ | refine a5 ?_ | refine a6 ?_ | refine s_len ?_ | refine s_lenR ?_ | refine s_index ?_ | refine s_indexR ?_ | refine s_fieldB ?_ | refine s_fieldV ?_ | refine s_loadB ?_ | refine s_loadH ?_ | refine s_loadR ?_ | refine s_addI ?_ | refine a7 ?_ | refine a8 ?_)
        refine Runs.cond rfl (fun hn => ?_) (fun hn => ?_)
        · repeat (first | refine a1 ?_ | refine a3 ?_ | refine a4 ?_ | refine a5 ?_ | refine a6 ?_ | refine s_len ?_ | refine s_lenR ?_ | refine s_index ?_ | refine s_indexR ?_ | refine s_fieldB ?_ | refine s_fieldV ?_ | refine s_loadB ?_ | refine s_loadH ?_ | refine s_loadR ?_ | refine s_addI ?_ | refine a7 ?_ | refine a8 ?_)
          refine Runs.ret1 Try.func27 Try.results27 rfl (fun w hm => hR _ w _ H _ (List.mem_cons_self ..) (Snap.le.refl _) ?_ hm)
          have hn : ¬ x.links = y.links := by simpa using hn
          simp [hno (fun e => hn (by rw [e]))]
        · have hn : x.links = y.links := by simpa using hn
          have hxy : x = y := by
            cases x; cases y
            simp only [Cand.mk.injEq] at *
            exact ⟨hn, by omega⟩
          subst hxy
          repeat (first | refine a1 ?_ | refine a3 ?_ | refine a4 ?_ | refine a5 ?_ | refine a6 ?_ | refine s_len ?_ | refine s_lenR ?_ | refine s_index ?_ | refine s_indexR ?_ | refine s_fieldB ?_ | refine s_fieldV ?_ | refine s_loadB ?_ | refine s_loadH ?_ | refine s_loadR ?_ | refine s_addI ?_ | refine a7 ?_ | refine a8 ?_)
          refine Runs.back (ih (k + 1) ⟨by omega, fun j hj => ?_⟩ (by omega)) ⟨rfl, rfl, rfl, trivial⟩
          by_cases e : j = k
          · subst e; rw [hx, hy]
          · exact hI j (by omega)
    · repeat (first | refine a1 ?_ | refine a3 ?_ | refine a4 ?_ | refine a5 ?_ | refine a6 ?_ | refine s_len ?_ | refine s_lenR ?_ | refine s_index ?_ | refine s_indexR ?_ | refine s_fieldB ?_ | refine s_fieldV ?_ | refine s_loadB ?_ | refine s_loadH ?_ | refine s_loadR ?_ | refine s_addI ?_ | refine a7 ?_ | refine a8 ?_)
      refine Runs.ret1 Try.func27 Try.results27 rfl (fun w hm => hR _ w _ H _ (List.mem_cons_self ..) (Snap.le.refl _) ?_ hm)
      have : xs = ys := List.ext_getElem? fun j => by
        by_cases hj : j < k
        · exact hI j hj
        · rw [List.getElem?_eq_none (by omega), List.getElem?_eq_none (by omega)]
      simp [this]

end Go.Proofs.Ytjdhcblofkkibaa

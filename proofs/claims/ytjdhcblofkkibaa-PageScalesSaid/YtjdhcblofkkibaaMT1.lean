/-
  The plain side of the layer of graphs: links, graphs, candidates, the order of lists, the cost of a way. Conditions: none.
  Contracts of small functions of the layer of graphs and its reference. Conditions: none but the arguments' form.
-/
import Derived.Test.YtjdhcblofkkibaaAs
import Derived.Test.YtjdhcblofkkibaaTy
namespace Go.Proofs.Ytjdhcblofkkibaa
open Go Go.RowKit

structure Lnk where
  f : Int
  t : Int
  lab : Int
  c : Int
  deriving DecidableEq
structure Cand where
  links : List Int
  cost : Int
  deriving DecidableEq

abbrev LinkL : Lay Lnk := Lay.flat 4 (fun x => [.int .i64 x.f, .int .i64 x.t, .int .i64 x.lab, .int .i64 x.c]) (fun _ => rfl) (by simp [one1])
def CandL : Lay Cand where
  sz := 2
  rep H x c := ∃ v, c = [v, .int .i64 x.cost] ∧ SliceRep H I64 v x.links
  mono := by rintro H H' x c hle ⟨v, h1, h2⟩; exact ⟨v, h1, h2.mono hle⟩
  len := by rintro H x c ⟨v, rfl, _⟩; rfl
  one := by
    rintro H x c ⟨v, rfl, ⟨⟨A, cap, rfl, _⟩, _⟩⟩ u hu
    simp at hu
    rcases hu with rfl | rfl <;> rfl

theorem SliceRep.cand {H : Snap} {v : Value} {xs : List Cand} (h : SliceRep H CandL v xs) {k : Nat} {x : Cand} (hx : xs[k]? = some x) :
    ∃ vl, SliceRep H I64 vl x.links ∧ H.cell (vat v (k * 2 + 0)) = some vl ∧ H.cell (vat v (k * 2 + 1)) = some (.int .i64 x.cost) ∧ (∀ j u, [vl, .int .i64 x.cost][j]? = some u → H.cell (vat v (k * 2 + j)) = some u) := by
  obtain ⟨c, ⟨vl, rfl, h1⟩, h2⟩ := h.at hx
  exact ⟨vl, h1, h2 0 vl rfl, h2 1 _ rfl, h2⟩

def lexCmp : List Int → List Int → Int
  | [], [] => 0
  | [], _ :: _ => -1
  | _ :: _, [] => 1
  | x :: xs, y :: ys => if x < y then -1 else if y < x then 1 else lexCmp xs ys

theorem lexCmp_step {xs ys : List Int} {k : Nat} {x y : Int} (hx : xs[k]? = some x) (hy : ys[k]? = some y) : lexCmp (xs.drop k) (ys.drop k) = if x < y then -1 else if y < x then 1 else lexCmp (xs.drop (k + 1)) (ys.drop (k + 1)) := by
  rw [drop_cons_of hx, drop_cons_of hy]; rfl
theorem lexCmp_range (xs ys : List Int) : -1 ≤ lexCmp xs ys ∧ lexCmp xs ys ≤ 1 := by
  induction xs generalizing ys with
  | nil => cases ys <;> simp [lexCmp]
  | cons x xs ih =>
    cases ys with
    | nil => simp [lexCmp]
    | cons y ys =>
      simp only [lexCmp]
      split
      · omega
      · split
        · omega
        · exact ih ys
theorem lexCmp_end {xs ys : List Int} {k : Nat} (h : xs.length ≤ k ∨ ys.length ≤ k) (hx : k ≤ xs.length) (hy : k ≤ ys.length) : (lexCmp (xs.drop k) (ys.drop k) < 0 ↔ xs.length < ys.length) ∧ (lexCmp (xs.drop k) (ys.drop k) = if xs.length < ys.length then -1 else if ys.length < xs.length then 1 else 0) := by
  cases e : xs.drop k with
  | nil =>
    have h1 : xs.length ≤ k := List.drop_eq_nil_iff.1 e
    cases e2 : ys.drop k with
    | nil => have h2 : ys.length ≤ k := List.drop_eq_nil_iff.1 e2; simp [lexCmp]; omega
    | cons y r =>
      have h2 : ¬ ys.length ≤ k := fun h => by rw [List.drop_eq_nil_iff.2 h] at e2; cases e2
      have : xs.length < ys.length := by omega
      simp [lexCmp, this]
  | cons x r =>
    have h1 : ¬ xs.length ≤ k := fun h => by rw [List.drop_eq_nil_iff.2 h] at e; cases e
    have h2 : ys.length ≤ k := by omega
    rw [List.drop_eq_nil_iff.2 h2]
    have h3 : ¬ xs.length < ys.length := by omega
    have h4 : ys.length < xs.length := by omega
    simp [lexCmp, h3, h4]

/-- The cost of a way: node and sum so far. -/
def costGo (gl : List Lnk) : Int → Int → List Int → Option (Int × Int)
  | at_, sum, [] => some (at_, sum)
  | at_, sum, i :: r => if i < 0 ∨ (gl.length : Int) ≤ i then none else
    match gl[i.toNat]? with
    | none => none
    | some l => if l.f ≠ at_ then none else costGo gl l.t (sum + l.c) r
def costOf (N : Int) (gl : List Lnk) (way : List Int) : Option Int :=
  match costGo gl 0 0 way with
  | some (at_, sum) => if at_ = N - 1 then some sum else none
  | none => none

end Go.Proofs.Ytjdhcblofkkibaa
namespace Go.Proofs.Ytjdhcblofkkibaa
open Go Go.RowKit

theorem ints_c {H : Snap} {va vb : Value} {xs ys : List Int} (ha : SliceRep H I64 va xs) (hb : SliceRep H I64 vb ys) :
    Pure Try.prog 14 #[va, vb] H (fun _ r => r = .bool (decide (xs = ys))) := by
  have hba := ha.isSl.bound
  refine Pure.intro Try.func14 rfl Try.ntmps14 rfl (fun E R hM hR => ?_)
  repeat (first | refine a1 ?_ | refine a3 ?_ | refine a4 ?_ | refine a5 ?_ | refine a6 ?_ | refine s_len ?_ | refine s_lenR ?_ | refine s_index ?_ | refine s_indexR ?_ | refine s_loadB ?_ | refine s_loadH ?_ | refine s_loadR ?_ | refine s_addI ?_ | refine a7 ?_ | refine a8 ?_)
  refine Runs.cond_d rfl (fun h => ?_) (fun h => ?_)
  · repeat (first | refine a1 ?_ | refine a3 ?_ | refine a4 ?_ | refine a5 ?_ | refine a6 ?_ | refine s_len ?_ | refine s_lenR ?_ | refine s_index ?_ | refine s_indexR ?_ | refine s_loadB ?_ | refine s_loadH ?_ | refine s_loadR ?_ | refine s_addI ?_ | refine a7 ?_ | refine a8 ?_)
    refine Runs.ret1 Try.func14 Try.results14 rfl (fun w hm => hR _ w _ H _ (List.mem_cons_self ..) (Snap.le.refl _) ?_ hm)
    have : xs ≠ ys := fun e => h (by rw [e])
    simp [this]
  · have h : xs.length = ys.length := by omega
    repeat (first | refine a1 ?_ | refine a3 ?_ | refine a4 ?_ | refine a5 ?_ | refine a6 ?_ | refine s_len ?_ | refine s_lenR ?_ | refine s_index ?_ | refine s_indexR ?_ | refine s_loadB ?_ | refine s_loadH ?_ | refine s_loadR ?_ | refine s_addI ?_ | refine a7 ?_ | refine a8 ?_)
    refine Runs.loop (fun k : Nat => k ≤ xs.length ∧ ∀ j, j < k → xs[j]? = ys[j]?) (fun k => xs.length - k) (fun _ => [H]) (fun _ => []) (fun k => [(0, va), (1, vb), (5, .int .i64 (k : Int))]) 0 ⟨Nat.zero_le _, by simp⟩
      (fun h => Runs.back h ⟨rfl, rfl, rfl, trivial⟩) ?_
    rintro k ⟨hk, hI⟩ ih
    repeat (first | refine a1 ?_ | refine a3 ?_ | refine a4 ?_ | refine a5 ?_ | refine a6 ?_ | refine s_len ?_ | refine s_lenR ?_ | refine s_index ?_ | refine s_indexR ?_ | refine s_loadB ?_ | refine s_loadH ?_ | refine s_loadR ?_ | refine s_addI ?_ | refine a7 ?_ | refine a8 ?_)
    refine Runs.cond_d rfl (fun hlt => ?_) (fun hlt => ?_)
    · obtain ⟨x, hx⟩ : ∃ x, xs[k]? = some x := ⟨_, List.getElem?_eq_getElem (by omega)⟩
      obtain ⟨y, hy⟩ : ∃ y, ys[k]? = some y := ⟨_, List.getElem?_eq_getElem (by omega)⟩
      repeat (first | refine a1 ?_ | refine a3 ?_ | refine a4 ?_ | refine a5 ?_ | refine a6 ?_ | refine s_len ?_ | refine s_lenR ?_ | refine s_index ?_ | refine s_indexR ?_ | refine s_loadB ?_ | refine s_loadH ?_ | refine s_loadR ?_ | refine s_addI ?_ | refine a7 ?_ | refine a8 ?_)
      refine Runs.regionD _ _ [] (fun x hx => List.mem_cons_of_mem _ hx) (List.Sublist.refl _) (by kernel_rfl) ?_
      refine d1 0 2 ?_
      (first | refine t_index 2 ?_ | refine t_indexR 2 ?_)
      (first | refine t_loadB 3 ?_ | refine t_loadH 3 ?_ | refine t_loadR 3 ?_)
      refine d1 4 2 ?_
      (first | refine t_index 6 ?_ | refine t_indexR 6 ?_)
      (first | refine t_loadB 7 ?_ | refine t_loadH 7 ?_ | refine t_loadR 7 ?_)
      refine d2 8 ?_
      refine DW.done (by kernel_rfl) ?_
      repeat (first | refine a1 ?_ | refine a3 ?_ | refine a4 ?_ | refine a5 ?_ | refine a6 ?_ | refine s_len ?_ | refine s_lenR ?_ | refine s_index ?_ | refine s_indexR ?_ | refine s_loadB ?_ | refine s_loadH ?_ | refine s_loadR ?_ | refine s_addI ?_ | refine a7 ?_ | refine a8 ?_)
      refine Runs.cond_d rfl (fun hne => ?_) (fun hne => ?_)
      · repeat (first | refine a1 ?_ | refine a3 ?_ | refine a4 ?_ | refine a5 ?_ | refine a6 ?_ | refine s_len ?_ | refine s_lenR ?_ | refine s_index ?_ | refine s_indexR ?_ | refine s_loadB ?_ | refine s_loadH ?_ | refine s_loadR ?_ | refine s_addI ?_ | refine a7 ?_ | refine a8 ?_)
        refine Runs.ret1 Try.func14 Try.results14 rfl (fun w hm => hR _ w _ H _ (List.mem_cons_self ..) (Snap.le.refl _) ?_ hm)
        have : xs ≠ ys := fun e => by subst e; rw [hx] at hy; exact hne (Option.some.inj hy)
        simp [this]
      · have hxy : x = y := by omega
        subst hxy
        repeat (first | refine a1 ?_ | refine a3 ?_ | refine a4 ?_ | refine a5 ?_ | refine a6 ?_ | refine s_len ?_ | refine s_lenR ?_ | refine s_index ?_ | refine s_indexR ?_ | refine s_loadB ?_ | refine s_loadH ?_ | refine s_loadR ?_ | refine s_addI ?_ | refine a7 ?_ | refine a8 ?_)
        refine Runs.back (ih (k + 1) ⟨by omega, fun j hj => ?_⟩ (by omega)) ⟨rfl, rfl, rfl, trivial⟩
        by_cases e : j = k
        · subst e; rw [hx, hy]
        · exact hI j (by omega)
    · repeat (first | refine a1 ?_ | refine a3 ?_ | refine a4 ?_ | refine a5 ?_ | refine a6 ?_ | refine s_len ?_ | refine s_lenR ?_ | refine s_index ?_ | refine s_indexR ?_ | refine s_loadB ?_ | refine s_loadH ?_ | refine s_loadR ?_ | refine s_addI ?_ | refine a7 ?_ | refine a8 ?_)
      refine Runs.ret1 Try.func14 Try.results14 rfl (fun w hm => hR _ w _ H _ (List.mem_cons_self ..) (Snap.le.refl _) ?_ hm)
      have : xs = ys := List.ext_getElem? fun j => by
        by_cases hj : j < k
        · exact hI j hj
        · rw [List.getElem?_eq_none (by omega), List.getElem?_eq_none (by omega)]
      simp [this]

theorem before_c {H : Snap} {va vb : Value} {xs ys : List Int} (ha : SliceRep H I64 va xs) (hb : SliceRep H I64 vb ys) :
    Pure Try.prog 57 #[va, vb] H (fun _ r => r = .bool (decide (lexCmp xs ys < 0))) := by
  have hba := ha.isSl.bound
  have hbb := hb.isSl.bound
  refine Pure.intro Try.func57 rfl Try.ntmps57 rfl (fun E R hM hR => ?_)
  repeat (first | refine a1 ?_ | refine a3 ?_ | refine a4 ?_ | refine a5 ?_ | refine a6 ?_ | refine s_len ?_ | refine s_lenR ?_ | refine s_index ?_ | refine s_indexR ?_ | refine s_loadB ?_ | refine s_loadH ?_ | refine s_loadR ?_ | refine s_addI ?_ | refine a7 ?_ | refine a8 ?_)
  refine Runs.loop (fun k : Nat => k ≤ xs.length ∧ k ≤ ys.length ∧ lexCmp xs ys = lexCmp (xs.drop k) (ys.drop k)) (fun k => xs.length - k) (fun _ => [H]) (fun _ => []) (fun k => [(0, va), (1, vb), (5, .int .i64 (k : Int))]) 0 ⟨Nat.zero_le _, Nat.zero_le _, rfl⟩
    (fun h => Runs.back h ⟨rfl, rfl, rfl, trivial⟩) ?_
  rintro k ⟨hk, hk2, hI⟩ ih
  repeat (first | refine a1 ?_ | refine a3 ?_ | refine a4 ?_ | refine a5 ?_ | refine a6 ?_ | refine s_len ?_ | refine s_lenR ?_ | refine s_index ?_ | refine s_indexR ?_ | refine s_loadB ?_ | refine s_loadH ?_ | refine s_loadR ?_ | refine s_addI ?_ | refine a7 ?_ | refine a8 ?_)
  refine RW.dec 10 rfl (fun hlt => ?_) (fun hlt => ?_)
  · repeat (first | refine a1 ?_ | refine a3 ?_ | refine a4 ?_ | refine a5 ?_ | refine a6 ?_ | refine s_len ?_ | refine s_lenR ?_ | refine s_index ?_ | refine s_indexR ?_ | refine s_loadB ?_ | refine s_loadH ?_ | refine s_loadR ?_ | refine s_addI ?_ | refine a7 ?_ | refine a8 ?_)
    refine Runs.cond_d rfl (fun hlt2 => ?_) (fun hlt2 => ?_)
    · obtain ⟨x, hx⟩ : ∃ x, xs[k]? = some x := ⟨_, List.getElem?_eq_getElem (by omega)⟩
      obtain ⟨y, hy⟩ : ∃ y, ys[k]? = some y := ⟨_, List.getElem?_eq_getElem (by omega)⟩
      have hst := lexCmp_step hx hy
      repeat (first | refine a1 ?_ | refine a3 ?_ | refine a4 ?_ | refine a5 ?_ | refine a6 ?_ | refine s_len ?_ | refine s_lenR ?_ | refine s_index ?_ | refine s_indexR ?_ | refine s_loadB ?_ | refine s_loadH ?_ | refine s_loadR ?_ | refine s_addI ?_ | refine a7 ?_ | refine a8 ?_)
      refine Runs.regionD _ _ [] (fun x hx => List.mem_cons_of_mem _ hx) (List.Sublist.refl _) (by kernel_rfl) ?_
      refine d1 0 2 ?_
      (first | refine t_index 2 ?_ | refine t_indexR 2 ?_)
      (first | refine t_loadB 3 ?_ | refine t_loadH 3 ?_ | refine t_loadR 3 ?_)
      refine d1 4 2 ?_
      (first | refine t_index 6 ?_ | refine t_indexR 6 ?_)
      (first | refine t_loadB 7 ?_ | refine t_loadH 7 ?_ | refine t_loadR 7 ?_)
      refine d2 8 ?_
      refine DW.done (by kernel_rfl) ?_
      repeat (first | refine a1 ?_ | refine a3 ?_ | refine a4 ?_ | refine a5 ?_ | refine a6 ?_ | refine s_len ?_ | refine s_lenR ?_ | refine s_index ?_ | refine s_indexR ?_ | refine s_loadB ?_ | refine s_loadH ?_ | refine s_loadR ?_ | refine s_addI ?_ | refine a7 ?_ | refine a8 ?_)
      refine Runs.cond_d rfl (fun hne => ?_) (fun hne => ?_)
      · repeat (first | refine a1 ?_ | refine a3 ?_ | refine a4 ?_ | refine a5 ?_ | refine a6 ?_ | refine s_len ?_ | refine s_lenR ?_ | refine s_index ?_ | refine s_indexR ?_ | refine s_loadB ?_ | refine s_loadH ?_ | refine s_loadR ?_ | refine s_addI ?_ | refine a7 ?_ | refine a8 ?_)
        refine Runs.regionD _ _ [] (fun x hx => List.mem_cons_of_mem _ hx) (List.Sublist.refl _) (by kernel_rfl) ?_
        refine d1 0 2 ?_
        (first | refine t_index 2 ?_ | refine t_indexR 2 ?_)
        (first | refine t_loadB 3 ?_ | refine t_loadH 3 ?_ | refine t_loadR 3 ?_)
        refine d1 4 2 ?_
        (first | refine t_index 6 ?_ | refine t_indexR 6 ?_)
        (first | refine t_loadB 7 ?_ | refine t_loadH 7 ?_ | refine t_loadR 7 ?_)
        refine d1 8 2 ?_
        refine DW.done (by kernel_rfl) ?_
        repeat (first | refine a1 ?_ | refine a3 ?_ | refine a4 ?_ | refine a5 ?_ | refine a6 ?_ | refine s_len ?_ | refine s_lenR ?_ | refine s_index ?_ | refine s_indexR ?_ | refine s_loadB ?_ | refine s_loadH ?_ | refine s_loadR ?_ | refine s_addI ?_ | refine a7 ?_ | refine a8 ?_)
        refine Runs.ret1 Try.func57 Try.results57 rfl (fun w hm => hR _ w _ H _ (List.mem_cons_self ..) (Snap.le.refl _) ?_ hm)
        rw [hI, hst]
        by_cases h1 : x < y
        · simp [h1]
        · have h2 : y < x := by omega
          simp [h1, h2]
      · have hxy : x = y := by omega
        subst hxy
        repeat (first | refine a1 ?_ | refine a3 ?_ | refine a4 ?_ | refine a5 ?_ | refine a6 ?_ | refine s_len ?_ | refine s_lenR ?_ | refine s_index ?_ | refine s_indexR ?_ | refine s_loadB ?_ | refine s_loadH ?_ | refine s_loadR ?_ | refine s_addI ?_ | refine a7 ?_ | refine a8 ?_)
        refine Runs.back (ih (k + 1) ⟨by omega, by omega, ?_⟩ (by omega)) ⟨rfl, rfl, rfl, trivial⟩
        rw [hI, hst]; simp
    · repeat (first | refine a1 ?_ | refine a3 ?_ | refine a4 ?_ | refine a5 ?_ | refine a6 ?_ | refine s_len ?_ | refine s_lenR ?_ | refine s_index ?_ | refine s_indexR ?_ | refine s_loadB ?_ | refine s_loadH ?_ | refine s_loadR ?_ | refine s_addI ?_ | refine a7 ?_ | refine a8 ?_)
      refine Runs.ret1 Try.func57 Try.results57 rfl (fun w hm => hR _ w _ H _ (List.mem_cons_self ..) (Snap.le.refl _) ?_ hm)
      rw [hI]; simp [(lexCmp_end (xs := xs) (ys := ys) (.inr (by omega)) hk hk2).1]
  · repeat (first | refine a1 ?_ | refine a3 ?_ | refine a4 ?_ | refine a5 ?_ | refine a6 ?_ | refine s_len ?_ | refine s_lenR ?_ | refine s_index ?_ | refine s_indexR ?_ | refine s_loadB ?_ | refine s_loadH ?_ | refine s_loadR ?_ | refine s_addI ?_ | refine a7 ?_ | refine a8 ?_)
    refine Runs.ret1 Try.func57 Try.results57 rfl (fun w hm => hR _ w _ H _ (List.mem_cons_self ..) (Snap.le.refl _) ?_ hm)
    rw [hI]; simp [(lexCmp_end (xs := xs) (ys := ys) (.inl (by omega)) hk hk2).1]

end Go.Proofs.Ytjdhcblofkkibaa

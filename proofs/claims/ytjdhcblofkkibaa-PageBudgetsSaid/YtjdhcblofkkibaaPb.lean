/-
  The contracts of the small functions of the layer of proofs. Conditions: none but the arguments' form.
-/
import Derived.Test.YtjdhcblofkkibaaPa
namespace Go.Proofs.Ytjdhcblofkkibaa
open Go Go.RowKit

theorem equal_c {H : Snap} {va vb : Value} {xs ys : List Int} (ha : SliceRep H I64 va xs) (hb : SliceRep H I64 vb ys) :
    Pure Try.prog 25 #[va, vb] H (fun _ r => r = .bool (decide (xs = ys))) := by
  have hba := ha.isSl.bound
  have hbb := hb.isSl.bound
  refine Pure.intro Try.func25 rfl Try.ntmps25 rfl (fun E R hM hR => ?_)
  repeat (first | refine a1 ?_ | refine a3 ?_ | refine a4 ?_ | refine a5 ?_ | refine a6 ?_ | refine s_len ?_ | refine s_lenR ?_ | refine s_index ?_ | refine s_indexR ?_ | refine s_loadB ?_ | refine s_loadH ?_ | refine s_loadR ?_ | refine s_addI ?_ | refine a7 ?_ | refine a8 ?_)
  refine Runs.cond_d rfl (fun h => ?_) (fun h => ?_)
  · repeat (first | refine a1 ?_ | refine a3 ?_ | refine a4 ?_ | refine a5 ?_ | refine a6 ?_ | refine s_len ?_ | refine s_lenR ?_ | refine s_index ?_ | refine s_indexR ?_ | refine s_loadB ?_ | refine s_loadH ?_ | refine s_loadR ?_ | refine s_addI ?_ | refine a7 ?_ | refine a8 ?_)
    refine Runs.ret1 Try.func25 Try.results25 rfl (fun w hm => hR _ w _ H _ (List.mem_cons_self ..) (Snap.le.refl _) ?_ hm)
    have : xs ≠ ys := fun e => h (by rw [e])
    simp [this]
  · have h : xs.length = ys.length := by omega
    repeat (first | refine a1 ?_ | refine a3 ?_ | refine a4 ?_ | refine a5 ?_ | refine a6 ?_ | refine s_len ?_ | refine s_lenR ?_ | refine s_index ?_ | refine s_indexR ?_ | refine s_loadB ?_ | refine s_loadH ?_ | refine s_loadR ?_ | refine s_addI ?_ | refine a7 ?_ | refine a8 ?_)
    refine Runs.loop (fun k : Nat => k ≤ xs.length ∧ ∀ j, j < k → xs[j]? = ys[j]?) (fun k => xs.length - k) (fun _ => [H]) (fun _ => []) (fun k => [(0, va), (1, vb), (12, .int .i64 (xs.length : Int)), (13, .int .i64 (k : Int))]) 0 ⟨Nat.zero_le _, by simp⟩
      (fun h => Runs.back h ⟨rfl, rfl, rfl, rfl, trivial⟩) ?_
    rintro k ⟨hk, hI⟩ ih
    repeat (first | refine a1 ?_ | refine a3 ?_ | refine a4 ?_ | refine a5 ?_ | refine a6 ?_ | refine s_len ?_ | refine s_lenR ?_ | refine s_index ?_ | refine s_indexR ?_ | refine s_loadB ?_ | refine s_loadH ?_ | refine s_loadR ?_ | refine s_addI ?_ | refine a7 ?_ | refine a8 ?_)
    refine Runs.cond_d rfl (fun hlt => ?_) (fun hlt => ?_)
    · obtain ⟨x, hx⟩ : ∃ x, xs[k]? = some x := ⟨_, List.getElem?_eq_getElem (by omega)⟩
      obtain ⟨y, hy⟩ : ∃ y, ys[k]? = some y := ⟨_, List.getElem?_eq_getElem (by omega)⟩
      repeat (first | refine a1 ?_ | refine a3 ?_ | refine a4 ?_ | refine a5 ?_ | refine a6 ?_ | refine s_len ?_ | refine s_lenR ?_ | refine s_index ?_ | refine s_indexR ?_ | refine s_loadB ?_ | refine s_loadH ?_ | refine s_loadR ?_ | refine s_addI ?_ | refine a7 ?_ | refine a8 ?_)
      refine Runs.regionD _ _ [] (fun x hx => List.mem_cons_of_mem _ hx) (List.Sublist.refl _) (by kernel_rfl) ?_
      refine d1 0 2 ?_
      (first | refine t_index 2 ?_ | refine t_indexR 2 ?_)
      (first | refine t_loadB 3 ?_ | refine t_loadH 3 ?_ | refine t_loadR 3 ?_)
      refine d1 4 2 ?_
      (first | refine t_index 6 ?_ | refine t_indexR 6 ?_)
      (first | refine t_loadB 7 ?_ | refine t_loadH 7 ?_ | refine t_loadR 7 ?_)
      refine d2 8 ?_
      refine DW.done (by kernel_rfl) ?_
      repeat (first | refine a1 ?_ | refine a3 ?_ | refine a4 ?_ | refine a5 ?_ | refine a6 ?_ | refine s_len ?_ | refine s_lenR ?_ | refine s_index ?_ | refine s_indexR ?_ | refine s_loadB ?_ | refine s_loadH ?_ | refine s_loadR ?_ | refine s_addI ?_ | refine a7 ?_ | refine a8 ?_)
      refine Runs.cond_d rfl (fun hne => ?_) (fun hne => ?_)
      · repeat (first | refine a1 ?_ | refine a3 ?_ | refine a4 ?_ | refine a5 ?_ | refine a6 ?_ | refine s_len ?_ | refine s_lenR ?_ | refine s_index ?_ | refine s_indexR ?_ | refine s_loadB ?_ | refine s_loadH ?_ | refine s_loadR ?_ | refine s_addI ?_ | refine a7 ?_ | refine a8 ?_)
        refine Runs.ret1 Try.func25 Try.results25 rfl (fun w hm => hR _ w _ H _ (List.mem_cons_self ..) (Snap.le.refl _) ?_ hm)
        have : xs ≠ ys := fun e => by subst e; rw [hx] at hy; exact hne (Option.some.inj hy)
        simp [this]
      · have hxy : x = y := by omega
        subst hxy
        repeat (first | refine a1 ?_ | refine a3 ?_ | refine a4 ?_ | refine a5 ?_ | refine a6 ?_ | refine s_len ?_ | refine s_lenR ?_ | refine s_index ?_ | refine s_indexR ?_ | refine s_loadB ?_ | refine s_loadH ?_ | refine s_loadR ?_ | refine s_addI ?_ | refine a7 ?_ | refine a8 ?_)
        refine Runs.back (ih (k + 1) ⟨by omega, fun j hj => ?_⟩ (by omega)) ⟨rfl, rfl, rfl, rfl, trivial⟩
        by_cases e : j = k
        · subst e; rw [hx, hy]
        · exact hI j (by omega)
    · repeat (first | refine a1 ?_ | refine a3 ?_ | refine a4 ?_ | refine a5 ?_ | refine a6 ?_ | refine s_len ?_ | refine s_lenR ?_ | refine s_index ?_ | refine s_indexR ?_ | refine s_loadB ?_ | refine s_loadH ?_ | refine s_loadR ?_ | refine s_addI ?_ | refine a7 ?_ | refine a8 ?_)
      refine Runs.ret1 Try.func25 Try.results25 rfl (fun w hm => hR _ w _ H _ (List.mem_cons_self ..) (Snap.le.refl _) ?_ hm)
      have : xs = ys := List.ext_getElem? fun j => by
        by_cases hj : j < k
        · exact hI j hj
        · rw [List.getElem?_eq_none (by omega), List.getElem?_eq_none (by omega)]
      simp [this]

def rightP (N : Int) (gl : List Lnk) (h : List Int) : Prop := validG N gl ∧ h = pot gl N.toNat
instance (N : Int) (gl : List Lnk) (h : List Int) : Decidable (rightP N gl h) := inferInstanceAs (Decidable (_ ∧ _))
theorem bright_c {H : Snap} {vl vh : Value} {N : Int} {gl : List Lnk} {h : List Int} (hl : SliceRep H LinkL vl gl) (hh : SliceRep H I64 vh h) :
    Pure Try.prog 35 #[.agg #[.int .i64 N, vl], vh] H (fun _ r => r = .bool (decide (rightP N gl h))) := by
  refine Pure.intro Try.func35 rfl Try.ntmps35 rfl (fun E R hM hR => ?_)
  repeat (first | refine a1 ?_ | refine a3 ?_ | refine a4 ?_ | refine a5 ?_ | refine a6 ?_ | refine s_loadBs ?_ | refine s_loadHs ?_ | refine a7 ?_ | refine a8 ?_)
  refine RW.box rfl rfl rfl rfl (fun b1 => ?_)
  repeat (first | refine a1 ?_ | refine a3 ?_ | refine a4 ?_ | refine a5 ?_ | refine a6 ?_ | refine s_loadBs ?_ | refine s_loadHs ?_ | refine a7 ?_ | refine a8 ?_)
  refine RW.call rfl (bpot_c hl) rfl rfl ?_
  rintro _ H1 ⟨v, rfl, hv⟩ hle
  have hh1 := hh.mono hle
  by_cases hg : validG N gl
  · have f1 : potE N gl = 0 := by unfold potE; rw [if_pos hg]
    have f2 : potL N gl = pot gl N.toNat := by unfold potL; rw [if_pos hg]
    rw [f1]
    rw [f2] at hv
    repeat (first | refine a1 ?_ | refine a3 ?_ | refine a4 ?_ | refine a5 ?_ | refine a6 ?_ | refine s_loadBs ?_ | refine s_loadHs ?_ | refine a7 ?_ | refine a8 ?_)
    refine RW.callV rfl (equal_c hh1 hv) rfl rfl ?_
    rintro _ _ rfl
    repeat (first | refine a1 ?_ | refine a3 ?_ | refine a4 ?_ | refine a5 ?_ | refine a6 ?_ | refine s_loadBs ?_ | refine s_loadHs ?_ | refine a7 ?_ | refine a8 ?_)
    refine Runs.ret1 Try.func35 Try.results35 rfl (fun w hm => hR _ w _ H _ (List.mem_cons_self ..) (Snap.le.refl _) ?_ hm)
    simp [rightP, hg]
  · have f1 : potE N gl = 150 := by unfold potE; rw [if_neg hg]
    rw [f1]
    repeat (first | refine a1 ?_ | refine a3 ?_ | refine a4 ?_ | refine a5 ?_ | refine a6 ?_ | refine s_loadBs ?_ | refine s_loadHs ?_ | refine a7 ?_ | refine a8 ?_)
    refine Runs.ret1 Try.func35 Try.results35 rfl (fun w hm => hR _ w _ H _ (List.mem_cons_self ..) (Snap.le.refl _) ?_ hm)
    simp [rightP, hg]
/-- The first place of a number. -/
def ix : List Int → Int → Option Nat
  | [], _ => none
  | a :: r, i => if a = i then some 0 else (ix r i).map (· + 1)
theorem indexOf_none {i : Int} : ∀ {ls : List Int}, (∀ j, j < ls.length → ls[j]? ≠ some i) → ix ls i = none
  | [], _ => rfl
  | a :: r, h => by
    rw [ix, if_neg (fun e => h 0 (by simp) (by simp [e])), indexOf_none (ls := r) (fun j hj => by have := h (j + 1) (by simpa using hj); simpa using this)]
    rfl
theorem indexOf_some {i : Int} : ∀ {ls : List Int} {k : Nat}, (∀ j, j < k → ls[j]? ≠ some i) → ls[k]? = some i → ix ls i = some k
  | [], k, _, hk => by simp at hk
  | a :: r, 0, _, hk => by simp at hk; simp [ix, hk]
  | a :: r, k + 1, h, hk => by
    rw [ix, if_neg (fun e => h 0 (by omega) (by simp [e])), indexOf_some (ls := r) (k := k) (fun j hj => by have := h (j + 1) (by omega); simpa using this) (by simpa using hk)]
    rfl
theorem ix_get {i : Int} : ∀ {ls : List Int} {k : Nat}, ix ls i = some k → ls[k]? = some i
  | [], k, h => by simp [ix] at h
  | a :: r, k, h => by
    rw [ix] at h
    split at h
    · rename_i e; cases h; simp [e]
    · cases e : ix r i with
      | none => rw [e] at h; cases h
      | some m => rw [e] at h; simp at h; subst h; simpa using ix_get e
theorem ix_snoc {i j : Int} : ∀ {ls : List Int}, ix (ls ++ [j]) i = match ix ls i with | some k => some k | none => if j = i then some ls.length else none
  | [] => by simp [ix]
  | a :: r => by
    rw [List.cons_append, ix, ix]
    split
    · rfl
    · rw [ix_snoc (ls := r)]
      cases ix r i with
      | some k => rfl
      | none => simp only [Option.map]; split <;> simp_all
/-- slices.Index over a row that somebody owns. -/
theorem index_c {H : Snap} {O : List Own} {v : Value} {T : TypeId} {ls : List Int} {i : Int} [q : GetRow O v T 1 ls.length (encI ls)] :
    Ctr Try.prog 59 #[v, .int .i64 i] H O (fun _ O' r => O' = O ∧ r = .int .i64 (match ix ls i with | some k => (k : Int) | none => -1)) := by
  refine Ctr.intro Try.func59 rfl Try.ntmps59 rfl (fun E R hM hR => ?_)
  refine Runs.rowSl v (fun hv hv1 => ?_)
  have hb := hv.bound
  repeat (first | refine a1 ?_ | refine a3 ?_ | refine a4 ?_ | refine a5 ?_ | refine a6 ?_ | refine s_len ?_ | refine s_lenR ?_ | refine s_index ?_ | refine s_indexR ?_ | refine s_loadB ?_ | refine s_loadH ?_ | refine s_loadR ?_ | refine s_addI ?_ | refine a7 ?_ | refine a8 ?_)
  refine Runs.loop (fun k : Nat => k ≤ ls.length ∧ ∀ j, j < k → ls[j]? ≠ some i) (fun k => ls.length - k) (fun _ => [H]) (fun _ => O) (fun k => [(0, v), (1, .int .i64 i), (7, .int .i64 (ls.length : Int)), (8, .int .i64 (k : Int))]) 0 ⟨Nat.zero_le _, by simp⟩
    (fun h => Runs.back h ⟨rfl, rfl, rfl, rfl, trivial⟩) ?_
  rintro k ⟨hk, hI⟩ ih
  repeat (first | refine a1 ?_ | refine a3 ?_ | refine a4 ?_ | refine a5 ?_ | refine a6 ?_ | refine s_len ?_ | refine s_lenR ?_ | refine s_index ?_ | refine s_indexR ?_ | refine s_loadB ?_ | refine s_loadH ?_ | refine s_loadR ?_ | refine s_addI ?_ | refine a7 ?_ | refine a8 ?_)
  refine Runs.cond_d rfl (fun hlt => ?_) (fun hlt => ?_)
  · have hx : (encI ls)[k * 1]? = some (.int .i64 (tv ls (k : Int))) := encI_at1 (by omega)
    have hx2 : ls[k]? = some (tv ls (k : Int)) := tv_at (by omega)
    repeat (first | refine a1 ?_ | refine a3 ?_ | refine a4 ?_ | refine a5 ?_ | refine a6 ?_ | refine s_len ?_ | refine s_lenR ?_ | refine s_index ?_ | refine s_indexR ?_ | refine s_loadB ?_ | refine s_loadH ?_ | refine s_loadR ?_ | refine s_addI ?_ | refine a7 ?_ | refine a8 ?_)
    refine Runs.cond_d rfl (fun he => ?_) (fun he => ?_)
    · repeat (first | refine a1 ?_ | refine a3 ?_ | refine a4 ?_ | refine a5 ?_ | refine a6 ?_ | refine s_len ?_ | refine s_lenR ?_ | refine s_index ?_ | refine s_indexR ?_ | refine s_loadB ?_ | refine s_loadH ?_ | refine s_loadR ?_ | refine s_addI ?_ | refine a7 ?_ | refine a8 ?_)
      refine Runs.ret1 Try.func59 Try.results59 rfl (fun w hm => hR _ w _ H _ (List.mem_cons_self ..) (Snap.le.refl _) ?_ hm)
      rw [indexOf_some hI (by rw [hx2, ← he])]
      exact ⟨rfl, rfl⟩
    · repeat (first | refine a1 ?_ | refine a3 ?_ | refine a4 ?_ | refine a5 ?_ | refine a6 ?_ | refine s_len ?_ | refine s_lenR ?_ | refine s_index ?_ | refine s_indexR ?_ | refine s_loadB ?_ | refine s_loadH ?_ | refine s_loadR ?_ | refine s_addI ?_ | refine a7 ?_ | refine a8 ?_)
      refine Runs.back (ih (k + 1) ⟨by omega, fun j hj => ?_⟩ (by omega)) ⟨rfl, rfl, rfl, rfl, trivial⟩
      by_cases e : j = k
      · subst e; rw [hx2]; intro h; exact he (Option.some.inj h).symm
      · exact hI j (by omega)
  · repeat (first | refine a1 ?_ | refine a3 ?_ | refine a4 ?_ | refine a5 ?_ | refine a6 ?_ | refine s_len ?_ | refine s_lenR ?_ | refine s_index ?_ | refine s_indexR ?_ | refine s_loadB ?_ | refine s_loadH ?_ | refine s_loadR ?_ | refine s_addI ?_ | refine a7 ?_ | refine a8 ?_)
    refine Runs.ret1 Try.func59 Try.results59 rfl (fun w hm => hR _ w _ H _ (List.mem_cons_self ..) (Snap.le.refl _) ?_ hm)
    rw [indexOf_none (ls := ls) (i := i) (fun j hj => hI j (by omega))]
    exact ⟨rfl, rfl⟩
end Go.Proofs.Ytjdhcblofkkibaa

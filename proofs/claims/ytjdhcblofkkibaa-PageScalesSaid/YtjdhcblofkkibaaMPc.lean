/-
  The contracts of the small functions of the layer of proofs. Conditions: none but the arguments' form.
  The tree of the beginnings of ways: what it is in memory, what putting a way into it does. Conditions: as each lemma names them.
-/
import Derived.Test.YtjdhcblofkkibaaPa
namespace Go.Proofs.Ytjdhcblofkkibaa
open Go Go.RowKit

theorem equal_c {H : Snap} {va vb : Value} {xs ys : List Int} (ha : SliceRep H I64 va xs) (hb : SliceRep H I64 vb ys) :
    Pure Try.prog 25 #[va, vb] H (fun _ r => r = .bool (decide (xs = ys))) := by
  have hba := ha.isSl.bound
  have hbb := hb.isSl.bound
  refine Pure.intro Try.func25 rfl Try.ntmps25 rfl (fun E R hM hR => ?_)
  repeat (first | refine a1 ?_ | refine a3 ?_ | refine a4 ?_ | refine a5 ?_ | refine a6 ?_ | refine s_len ?_ | refine s_lenR ?_ | refine s_index ?_ | refine s_indexR ?_ | refine s_loadB ?_ | refine s_loadH ?_ | refine s_loadR ?_ | refine s_addI ?_ | refine a7 ?_ | refine a8 ?_)
  refine Runs.cond_d rfl (fun h => ?_) (fun h => ?_)
  · repeat (first | refine a1 ?_ | refine a3 ?_ | refine a4 ?_ | refine a5 ?_ | refine a6 ?_ | refine s_len ?_ | refine s_lenR ?_ | refine s_index ?_ | refine s_indexR ?_ | refine s_loadB ?_ | refine s_loadH ?_ | refine s_loadR ?_ | refine s_addI ?_ | refine a7 ?_ | refine a8 ?_)
    refine Runs.ret1 Try.func25 Try.results25 rfl (fun w hm => hR _ w _ H _ (List.mem_cons_self ..) (Snap.le.refl _) ?_ hm)
    have : xs ≠ ys := fun e => h (by rw [e])
    simp [this]
  · have h : xs.length = ys.length := by omega
    repeat (first | refine a1 ?_ | refine a3 ?_ | refine a4 ?_ | refine a5 ?_ | refine a6 ?_ | refine s_len ?_ | refine s_lenR ?_ | refine s_index ?_ | refine s_indexR ?_ | refine s_loadB ?_ | refine s_loadH ?_ | refine s_loadR ?_ | refine s_addI ?_ | refine a7 ?_ | refine a8 ?_)
    refine Runs.loop (fun k : Nat => k ≤ xs.length ∧ ∀ j, j < k → xs[j]? = ys[j]?) (fun k => xs.length - k) (fun _ => [H]) (fun _ => []) (fun k => [(0, va), (1, vb), (12, .int .i64 (xs.length : Int)), (13, .int .i64 (k : Int))]) 0 ⟨Nat.zero_le _, by simp⟩
      (fun h => Runs.back h ⟨rfl, rfl, rfl, rfl, trivial⟩) ?_
    rintro k ⟨hk, hI⟩ ih
    repeat (first | refine a1 ?_ | refine a3 ?_ | refine a4 ?_ | refine a5 ?_ | refine a6 ?_ | refine s_len ?_ | refine s_lenR ?_ | refine s_index ?_ | refine s_indexR ?_ | refine s_loadB ?_ | refine s_loadH ?_ | refine s_loadR ?_ | refine s_addI ?_ | refine a7 ?_ | refine a8 ?_)
    refine Runs.cond_d rfl (fun hlt => ?_) (fun hlt => ?_)
    · obtain ⟨x, hx⟩ : ∃ x, xs[k]? = some x := ⟨_, List.getElem?_eq_getElem (by omega)⟩
      obtain ⟨y, hy⟩ : ∃ y, ys[k]? = some y := ⟨_, List.getElem?_eq_getElem (by omega)⟩
      repeat (first | refine a1 ?_ | refine a3 ?_ | refine a4 ?_ | refine a5 ?_ | refine a6 ?_ | refine s_len ?_ | refine s_lenR ?_ | refine s_index ?_ | refine s_indexR ?_ | refine s_loadB ?_ | refine s_loadH ?_ | refine s_loadR ?_ | refine s_addI ?_ | refine a7 ?_ | refine a8 ?_)
      refine Runs.regionD _ _ [] (fun x hx => List.mem_cons_of_mem _ hx) (List.Sublist.refl _) (by kernel_rfl) ?_
      refine d1 0 2 ?_
      (first | refine t_index 2 ?_ | refine t_indexR 2 ?_)
      (first | refine t_loadB 3 ?_ | refine t_loadH 3 ?_ | refine t_loadR 3 ?_)
      refine d1 4 2 ?_
      (first | refine t_index 6 ?_ | refine t_indexR 6 ?_)
      (first | refine t_loadB 7 ?_ | refine t_loadH 7 ?_ | refine t_loadR 7 ?_)
      refine d2 8 ?_
      refine DW.done (by kernel_rfl) ?_
      repeat (first | refine a1 ?_ | refine a3 ?_ | refine a4 ?_ | refine a5 ?_ | refine a6 ?_ | refine s_len ?_ | refine s_lenR ?_ | refine s_index ?_ | refine s_indexR ?_ | refine s_loadB ?_ | refine s_loadH ?_ | refine s_loadR ?_ | refine s_addI ?_ | refine a7 ?_ | refine a8 ?_)
      refine Runs.cond_d rfl (fun hne => ?_) (fun hne => ?_)
      · repeat (first | refine a1 ?_ | refine a3 ?_ | refine a4 ?_ | refine a5 ?_ | refine a6 ?_ | refine s_len ?_ | refine s_lenR ?_ | refine s_index ?_ | refine s_indexR ?_ | refine s_loadB ?_ | refine s_loadH ?_ | refine s_loadR ?_ | refine s_addI ?_ | refine a7 ?_ | refine a8 ?_)
        refine Runs.ret1 Try.func25 Try.results25 rfl (fun w hm => hR _ w _ H _ (List.mem_cons_self ..) (Snap.le.refl _) ?_ hm)
        have : xs ≠ ys := fun e => by subst e; rw [hx] at hy; exact hne (Option.some.inj hy)
        simp [this]
      · have hxy : x = y := by omega
        subst hxy
        repeat (first | refine a1 ?_ | refine a3 ?_ | refine a4 ?_ | refine a5 ?_ | refine a6 ?_ | refine s_len ?_ | refine s_lenR ?_ | refine s_index ?_ | refine s_indexR ?_ | refine s_loadB ?_ | refine s_loadH ?_ | refine s_loadR ?_ | refine s_addI ?_ | refine a7 ?_ | refine a8 ?_)
        refine Runs.back (ih (k + 1) ⟨by omega, fun j hj => ?_⟩ (by omega)) ⟨rfl, rfl, rfl, rfl, trivial⟩
        by_cases e : j = k
        · subst e; rw [hx, hy]
        · exact hI j (by omega)
    · repeat (first | refine a1 ?_ | refine a3 ?_ | refine a4 ?_ | refine a5 ?_ | refine a6 ?_ | refine s_len ?_ | refine s_lenR ?_ | refine s_index ?_ | refine s_indexR ?_ | refine s_loadB ?_ | refine s_loadH ?_ | refine s_loadR ?_ | refine s_addI ?_ | refine a7 ?_ | refine a8 ?_)
      refine Runs.ret1 Try.func25 Try.results25 rfl (fun w hm => hR _ w _ H _ (List.mem_cons_self ..) (Snap.le.refl _) ?_ hm)
      have : xs = ys := List.ext_getElem? fun j => by
        by_cases hj : j < k
        · exact hI j hj
        · rw [List.getElem?_eq_none (by omega), List.getElem?_eq_none (by omega)]
      simp [this]

def rightP (N : Int) (gl : List Lnk) (h : List Int) : Prop := validG N gl ∧ h = pot gl N.toNat
instance (N : Int) (gl : List Lnk) (h : List Int) : Decidable (rightP N gl h) := inferInstanceAs (Decidable (_ ∧ _))
theorem bright_c {H : Snap} {vl vh : Value} {N : Int} {gl : List Lnk} {h : List Int} (hl : SliceRep H LinkL vl gl) (hh : SliceRep H I64 vh h) :
    Pure Try.prog 35 #[.agg #[.int .i64 N, vl], vh] H (fun _ r => r = .bool (decide (rightP N gl h))) := by
  refine Pure.intro Try.func35 rfl Try.ntmps35 rfl (fun E R hM hR => ?_)
  repeat (first | refine a1 ?_ | refine a3 ?_ | refine a4 ?_ | refine a5 ?_ | refine a6 ?_ | refine s_loadBs ?_ | refine s_loadHs ?_ | refine a7 ?_ | refine a8 ?_)
  refine RW.box rfl rfl rfl rfl (fun b1 => ?_)
  repeat (first | refine a1 ?_ | refine a3 ?_ | refine a4 ?_ | refine a5 ?_ | refine a6 ?_ | refine s_loadBs ?_ | refine s_loadHs ?_ | refine a7 ?_ | refine a8 ?_)
  refine RW.call rfl (bpot_c hl) rfl rfl ?_
  rintro _ H1 ⟨v, rfl, hv⟩ hle
  have hh1 := hh.mono hle
  by_cases hg : validG N gl
  · have f1 : potE N gl = 0 := by unfold potE; rw [if_pos hg]
    have f2 : potL N gl = pot gl N.toNat := by unfold potL; rw [if_pos hg]
    rw [f1]
    rw [f2] at hv
    repeat (first | refine a1 ?_ | refine a3 ?_ | refine a4 ?_ | refine a5 ?_ | refine a6 ?_ | refine s_loadBs ?_ | refine s_loadHs ?_ | refine a7 ?_ | refine a8 ?_)
    refine RW.callV rfl (equal_c hh1 hv) rfl rfl ?_
    rintro _ _ rfl
    repeat (first | refine a1 ?_ | refine a3 ?_ | refine a4 ?_ | refine a5 ?_ | refine a6 ?_ | refine s_loadBs ?_ | refine s_loadHs ?_ | refine a7 ?_ | refine a8 ?_)
    refine Runs.ret1 Try.func35 Try.results35 rfl (fun w hm => hR _ w _ H _ (List.mem_cons_self ..) (Snap.le.refl _) ?_ hm)
    simp [rightP, hg]
  · have f1 : potE N gl = 150 := by unfold potE; rw [if_neg hg]
    rw [f1]
    repeat (first | refine a1 ?_ | refine a3 ?_ | refine a4 ?_ | refine a5 ?_ | refine a6 ?_ | refine s_loadBs ?_ | refine s_loadHs ?_ | refine a7 ?_ | refine a8 ?_)
    refine Runs.ret1 Try.func35 Try.results35 rfl (fun w hm => hR _ w _ H _ (List.mem_cons_self ..) (Snap.le.refl _) ?_ hm)
    simp [rightP, hg]
/-- The first place of a number. -/
def ix : List Int → Int → Option Nat
  | [], _ => none
  | a :: r, i => if a = i then some 0 else (ix r i).map (· + 1)
theorem indexOf_none {i : Int} : ∀ {ls : List Int}, (∀ j, j < ls.length → ls[j]? ≠ some i) → ix ls i = none
  | [], _ => rfl
  | a :: r, h => by
    rw [ix, if_neg (fun e => h 0 (by simp) (by simp [e])), indexOf_none (ls := r) (fun j hj => by have := h (j + 1) (by simpa using hj); simpa using this)]
    rfl
theorem indexOf_some {i : Int} : ∀ {ls : List Int} {k : Nat}, (∀ j, j < k → ls[j]? ≠ some i) → ls[k]? = some i → ix ls i = some k
  | [], k, _, hk => by simp at hk
  | a :: r, 0, _, hk => by simp at hk; simp [ix, hk]
  | a :: r, k + 1, h, hk => by
    rw [ix, if_neg (fun e => h 0 (by omega) (by simp [e])), indexOf_some (ls := r) (k := k) (fun j hj => by have := h (j + 1) (by omega); simpa using this) (by simpa using hk)]
    rfl
theorem ix_get {i : Int} : ∀ {ls : List Int} {k : Nat}, ix ls i = some k → ls[k]? = some i
  | [], k, h => by simp [ix] at h
  | a :: r, k, h => by
    rw [ix] at h
    split at h
    · rename_i e; cases h; simp [e]
    · cases e : ix r i with
      | none => rw [e] at h; cases h
      | some m => rw [e] at h; simp at h; subst h; simpa using ix_get e
theorem ix_snoc {i j : Int} : ∀ {ls : List Int}, ix (ls ++ [j]) i = match ix ls i with | some k => some k | none => if j = i then some ls.length else none
  | [] => by simp [ix]
  | a :: r => by
    rw [List.cons_append, ix, ix]
    split
    · rfl
    · rw [ix_snoc (ls := r)]
      cases ix r i with
      | some k => rfl
      | none => simp only [Option.map]; split <;> simp_all
/-- slices.Index over a row that somebody owns. -/
theorem index_c {H : Snap} {O : List Own} {v : Value} {T : TypeId} {ls : List Int} {i : Int} [q : GetRow O v T 1 ls.length (encI ls)] :
    Ctr Try.prog 59 #[v, .int .i64 i] H O (fun _ O' r => O' = O ∧ r = .int .i64 (match ix ls i with | some k => (k : Int) | none => -1)) := by
  refine Ctr.intro Try.func59 rfl Try.ntmps59 rfl (fun E R hM hR => ?_)
  refine Runs.rowSl v (fun hv hv1 => ?_)
  have hb := hv.bound
  repeat (first | refine a1 ?_ | refine a3 ?_ | refine a4 ?_ | refine a5 ?_ | refine a6 ?_ | refine s_len ?_ | refine s_lenR ?_ | refine s_index ?_ | refine s_indexR ?_ | refine s_loadB ?_ | refine s_loadH ?_ | refine s_loadR ?_ | refine s_addI ?_ | refine a7 ?_ | refine a8 ?_)
  refine Runs.loop (fun k : Nat => k ≤ ls.length ∧ ∀ j, j < k → ls[j]? ≠ some i) (fun k => ls.length - k) (fun _ => [H]) (fun _ => O) (fun k => [(0, v), (1, .int .i64 i), (7, .int .i64 (ls.length : Int)), (8, .int .i64 (k : Int))]) 0 ⟨Nat.zero_le _, by simp⟩
    (fun h => Runs.back h ⟨rfl, rfl, rfl, rfl, trivial⟩) ?_
  rintro k ⟨hk, hI⟩ ih
  repeat (first | refine a1 ?_ | refine a3 ?_ | refine a4 ?_ | refine a5 ?_ | refine a6 ?_ | refine s_len ?_ | refine s_lenR ?_ | refine s_index ?_ | refine s_indexR ?_ | refine s_loadB ?_ | refine s_loadH ?_ | refine s_loadR ?_ | refine s_addI ?_ | refine a7 ?_ | refine a8 ?_)
  refine Runs.cond_d rfl (fun hlt => ?_) (fun hlt => ?_)
  · have hx : (encI ls)[k * 1]? = some (.int .i64 (tv ls (k : Int))) := encI_at1 (by omega)
    have hx2 : ls[k]? = some (tv ls (k : Int)) := tv_at (by omega)
    repeat (first | refine a1 ?_ | refine a3 ?_ | refine a4 ?_ | refine a5 ?_ | refine a6 ?_ | refine s_len ?_ | refine s_lenR ?_ | refine s_index ?_ | refine s_indexR ?_ | refine s_loadB ?_ | refine s_loadH ?_ | refine s_loadR ?_ | refine s_addI ?_ | refine a7 ?_ | refine a8 ?_)
    refine Runs.cond_d rfl (fun he => ?_) (fun he => ?_)
    · repeat (first | refine a1 ?_ | refine a3 ?_ | refine a4 ?_ | refine a5 ?_ | refine a6 ?_ | refine s_len ?_ | refine s_lenR ?_ | refine s_index ?_ | refine s_indexR ?_ | refine s_loadB ?_ | refine s_loadH ?_ | refine s_loadR ?_ | refine s_addI ?_ | refine a7 ?_ | refine a8 ?_)
      refine Runs.ret1 Try.func59 Try.results59 rfl (fun w hm => hR _ w _ H _ (List.mem_cons_self ..) (Snap.le.refl _) ?_ hm)
      rw [indexOf_some hI (by rw [hx2, ← he])]
      exact ⟨rfl, rfl⟩
    · repeat (first | refine a1 ?_ | refine a3 ?_ | refine a4 ?_ | refine a5 ?_ | refine a6 ?_ | refine s_len ?_ | refine s_lenR ?_ | refine s_index ?_ | refine s_indexR ?_ | refine s_loadB ?_ | refine s_loadH ?_ | refine s_loadR ?_ | refine s_addI ?_ | refine a7 ?_ | refine a8 ?_)
      refine Runs.back (ih (k + 1) ⟨by omega, fun j hj => ?_⟩ (by omega)) ⟨rfl, rfl, rfl, rfl, trivial⟩
      by_cases e : j = k
      · subst e; rw [hx2]; intro h; exact he (Option.some.inj h).symm
      · exact hI j (by omega)
  · repeat (first | refine a1 ?_ | refine a3 ?_ | refine a4 ?_ | refine a5 ?_ | refine a6 ?_ | refine s_len ?_ | refine s_lenR ?_ | refine s_index ?_ | refine s_indexR ?_ | refine s_loadB ?_ | refine s_loadH ?_ | refine s_loadR ?_ | refine s_addI ?_ | refine a7 ?_ | refine a8 ?_)
    refine Runs.ret1 Try.func59 Try.results59 rfl (fun w hm => hR _ w _ H _ (List.mem_cons_self ..) (Snap.le.refl _) ?_ hm)
    rw [indexOf_none (ls := ls) (i := i) (fun j hj => hI j (by omega))]
    exact ⟨rfl, rfl⟩
end Go.Proofs.Ytjdhcblofkkibaa
namespace Go.Proofs.Ytjdhcblofkkibaa
open Go Go.RowKit

/-- A tree as it lies in memory: its block, the block's type and the cells ahead of it, the slices of its links and of what lies below, and these. -/
inductive AT where
  | mk (b : Nat) (T : TypeId) (pre : List Value) (vl vb : Value) (ls : List Int) (ks : List AT) (wh : Bool)
def AT.ptr : AT → Value
  | .mk b _ pre _ _ _ _ _ => .pointer (some ⟨b, pre.length, none⟩)
def AT.head : AT → Nat × TypeId × List Value
  | .mk b T pre _ _ _ _ _ => (b, T, pre)
def AT.ls : AT → List Int
  | .mk _ _ _ _ _ ls _ _ => ls
def AT.wh : AT → Bool
  | .mk _ _ _ _ _ _ _ wh => wh
theorem AT.ptr_head {t t' : AT} (h : t'.head = t.head) : t'.ptr = t.ptr := by
  cases t; cases t'
  simp only [AT.head, Prod.mk.injEq] at h
  obtain ⟨rfl, rfl, rfl⟩ := h
  rfl
mutual
def AT.own : AT → List Own
  | .mk b T pre vl vb ls ks wh => .blk b T (pre ++ [vl, vb, .bool wh]) :: .row 3 1 vl ls.length (encI ls) :: .row 96 1 vb ks.length (ks.map AT.ptr) :: AT.owns ks
def AT.owns : List AT → List Own
  | [] => []
  | k :: ks => AT.own k ++ AT.owns ks
end
mutual
def AT.ok (B : Nat) : AT → Prop
  | .mk _ _ _ _ _ ls ks _ => ls.length = ks.length ∧ ls.length ≤ B ∧ AT.oks B ks
def AT.oks (B : Nat) : List AT → Prop
  | [] => True
  | k :: ks => AT.ok B k ∧ AT.oks B ks
end
mutual
theorem AT.ok_mono {B B' : Nat} (hB : B ≤ B') : ∀ t : AT, AT.ok B t → AT.ok B' t
  | .mk _ _ _ _ _ _ ks _, h => ⟨h.1, Nat.le_trans h.2.1 hB, AT.oks_mono hB ks h.2.2⟩
theorem AT.oks_mono {B B' : Nat} (hB : B ≤ B') : ∀ ks : List AT, AT.oks B ks → AT.oks B' ks
  | [], _ => trivial
  | k :: ks, h => ⟨AT.ok_mono hB k h.1, AT.oks_mono hB ks h.2⟩
end
theorem AT.oks_at : ∀ {B : Nat} {ks : List AT} {j : Nat} {k : AT}, AT.oks B ks → ks[j]? = some k → k.ok B
  | _, [], _, _, _, h => by simp at h
  | _, a :: r, 0, k, h, e => by simp at e; subst e; exact h.1
  | _, a :: r, j + 1, k, h, e => AT.oks_at h.2 (by simpa using e)
theorem AT.oks_set {B : Nat} : ∀ {ks : List AT} (j : Nat) {k : AT}, AT.oks B ks → k.ok B → AT.oks B (ks.set j k)
  | [], _, _, h, _ => h
  | _ :: _, 0, _, h, e => ⟨e, h.2⟩
  | _ :: _, j + 1, _, h, e => ⟨h.1, AT.oks_set j h.2 e⟩
theorem AT.oks_snoc {B : Nat} : ∀ {ks : List AT} {k : AT}, AT.oks B ks → k.ok B → AT.oks B (ks ++ [k])
  | [], _, _, e => ⟨e, trivial⟩
  | _ :: _, _, h, e => ⟨h.1, AT.oks_snoc h.2 e⟩
theorem AT.owns_snoc : ∀ (ks : List AT) (k : AT), AT.owns (ks ++ [k]) = AT.owns ks ++ k.own
  | [], k => by simp [AT.owns]
  | a :: r, k => by rw [List.cons_append, AT.owns, AT.owns, AT.owns_snoc r k, List.append_assoc]
theorem AT.owns_at : ∀ {ks : List AT} {j : Nat} {k : AT}, ks[j]? = some k → (AT.owns ks).Perm (k.own ++ AT.owns (ks.eraseIdx j))
  | [], _, _, h => by simp at h
  | a :: r, 0, k, h => by simp at h; subst h; exact List.Perm.refl _
  | a :: r, j + 1, k, h => by
    rw [List.eraseIdx_cons_succ, AT.owns, AT.owns]
    refine (List.Perm.append_left _ (AT.owns_at (ks := r) (by simpa using h))).trans ?_
    rw [← List.append_assoc, ← List.append_assoc]
    exact List.Perm.append_right _ List.perm_append_comm
theorem AT.owns_set {ks : List AT} {j : Nat} {k : AT} (h : j < ks.length) : (AT.owns (ks.set j k)).Perm (k.own ++ AT.owns (ks.eraseIdx j)) := by
  have := AT.owns_at (ks := ks.set j k) (j := j) (k := k) (by simp [h])
  rwa [List.eraseIdx_set_eq] at this

def AT.at (t : AT) (i : Int) : Option AT :=
  match t with
  | .mk _ _ _ _ _ ls ks _ => match ix ls i with
    | some k => ks[k]?
    | none => none
def AT.sub : List Int → AT → Option AT
  | [], t => some t
  | i :: r, t => match t.at i with
    | some k => AT.sub r k
    | none => none
def AT.has (t : AT) (p : List Int) : Bool := (AT.sub p t).isSome
def AT.isWh (t : AT) (p : List Int) : Bool := match AT.sub p t with
  | some k => k.wh
  | none => false
theorem AT.sub_snoc : ∀ (p : List Int) (i : Int) (t : AT), AT.sub (p ++ [i]) t = match AT.sub p t with | some k => k.at i | none => none
  | [], i, t => by simp only [List.nil_append, AT.sub]; cases t.at i <;> rfl
  | a :: r, i, t => by
    simp only [List.cons_append, AT.sub]
    cases t.at a with
    | none => rfl
    | some k => exact AT.sub_snoc r i k
theorem AT.at_mem {B : Nat} {t k : AT} {i : Int} (h : t.at i = some k) (hk : t.ok B) : k.ok B ∧ ∀ o ∈ k.own, o ∈ t.own := by
  cases t with
  | mk b T pre vl vb ls ks wh =>
    simp only [AT.at] at h
    split at h
    · refine ⟨AT.oks_at hk.2.2 h, fun o ho => ?_⟩
      rw [AT.own]
      exact List.mem_cons_of_mem _ (List.mem_cons_of_mem _ (List.mem_cons_of_mem _ ((AT.owns_at h).mem_iff.2 (List.mem_append_left _ ho))))
    · cases h
theorem AT.sub_mem {B : Nat} : ∀ {p : List Int} {t k : AT}, AT.sub p t = some k → t.ok B → k.ok B ∧ ∀ o ∈ k.own, o ∈ t.own
  | [], t, k, h, hk => by simp only [AT.sub, Option.some.injEq] at h; subst h; exact ⟨hk, fun o ho => ho⟩
  | i :: r, t, k, h, hk => by
    simp only [AT.sub] at h
    split at h
    · rename_i k1 h1
      have h2 := AT.at_mem h1 hk
      have h3 := AT.sub_mem h h2.1
      exact ⟨h3.1, fun o ho => h2.2 o (h3.2 o ho)⟩
    · cases h

/-- W has the beginnings of T and those of r, and the ways of T and r. -/
def Grow (T W : AT) (r : List Int) : Prop := (∀ p, W.has p = true ↔ T.has p = true ∨ p <+: r) ∧ (∀ p, W.isWh p = true ↔ T.isWh p = true ∨ p = r)
theorem AT.has_cons (t : AT) (i : Int) (p : List Int) : t.has (i :: p) = match t.at i with | some k => k.has p | none => false := by
  simp only [AT.has, AT.sub]; cases t.at i <;> rfl
theorem AT.isWh_cons (t : AT) (i : Int) (p : List Int) : t.isWh (i :: p) = match t.at i with | some k => k.isWh p | none => false := by
  simp only [AT.isWh, AT.sub]; cases t.at i <;> rfl
theorem Grow.of_at {T W : AT} {i : Int} {r : List Int} {kid : AT} (hw : W.wh = T.wh) (ho : ∀ j, j ≠ i → W.at j = T.at j) (hi : W.at i = some kid)
    (h : (∀ p, kid.has p = true ↔ T.has (i :: p) = true ∨ p <+: r) ∧ (∀ p, kid.isWh p = true ↔ T.isWh (i :: p) = true ∨ p = r)) : Grow T W (i :: r) := by
  refine ⟨fun p => ?_, fun p => ?_⟩
  · cases p with
    | nil => simp [AT.has, AT.sub]
    | cons j q =>
      by_cases e : j = i
      · subst e
        rw [AT.has_cons, hi]
        simp only
        rw [h.1 q]; simp
      · rw [AT.has_cons, ho j e, ← AT.has_cons]
        simp [e]
  · cases p with
    | nil => simp [AT.isWh, AT.sub, hw]
    | cons j q =>
      by_cases e : j = i
      · subst e
        rw [AT.isWh_cons, hi]
        simp only
        rw [h.2 q]; simp
      · rw [AT.isWh_cons, ho j e, ← AT.isWh_cons]
        simp [e]
theorem set_same {α : Type} : ∀ (l : List α) (j : Nat) (x : α), l[j]? = some x → l.set j x = l
  | [], _, _, _ => rfl
  | a :: r, 0, x, h => by simp at h; subst h; rfl
  | a :: r, j + 1, x, h => by simp only [List.set]; rw [set_same r j x (by simpa using h)]
theorem grow_set {b T pre vl vb ls ks wh} {i : Int} {j : Nat} {kid t : AT} {r : List Int} (hix : ix ls i = some j) (hj : ks[j]? = some kid) (h : Grow kid t r) :
    Grow (.mk b T pre vl vb ls ks wh) (.mk b T pre vl vb ls (ks.set j t) wh) (i :: r) := by
  have hl := (List.getElem?_eq_some_iff.1 hj).1
  refine Grow.of_at rfl (fun i' hne => ?_) (show AT.at _ i = some t by simp [AT.at, hix, hl]) ?_
  · simp only [AT.at]
    cases e : ix ls i' with
    | none => rfl
    | some j' =>
      have : j ≠ j' := fun e2 => by
        subst e2
        have h1 := ix_get hix
        rw [ix_get e] at h1
        exact hne (Option.some.inj h1)
      simp only
      rw [List.getElem?_set_ne this]
  · have e1 : AT.at (.mk b T pre vl vb ls ks wh) i = some kid := by simp only [AT.at, hix]; exact hj
    simp only [AT.has_cons, AT.isWh_cons, e1]
    exact h
theorem grow_new {b T pre vl vb vl' vb' ls ks wh} {i : Int} {t n : AT} {r : List Int} (hlen : ls.length = ks.length) (hix : ix ls i = none) (hn : n.ls = [] ∧ n.wh = false) (h : Grow n t r) :
    Grow (.mk b T pre vl vb ls ks wh) (.mk b T pre vl' vb' (ls ++ [i]) (ks ++ [t]) wh) (i :: r) := by
  have hi : AT.at (.mk b T pre vl' vb' (ls ++ [i]) (ks ++ [t]) wh) i = some t := by
    simp only [AT.at, ix_snoc, hix, if_true, hlen]
    simp
  refine Grow.of_at rfl (fun i' hne => ?_) hi ?_
  · simp only [AT.at, ix_snoc]
    cases e : ix ls i' with
    | none => simp only; rw [if_neg (fun e => hne e.symm)]
    | some j' =>
      simp only
      have := (List.getElem?_eq_some_iff.1 (ix_get e)).1
      rw [List.getElem?_append_left (by omega)]
  · have e1 : AT.at (.mk b T pre vl vb ls ks wh) i = none := by simp only [AT.at, hix]
    have n1 : ∀ p, n.has p = true ↔ p = [] := fun p => by
      cases n with
      | mk _ _ _ _ _ ls2 _ _ =>
        have : ls2 = [] := hn.1
        subst this
        cases p <;> simp [AT.has, AT.sub, AT.at, ix]
    have n2 : ∀ p, n.isWh p = false := fun p => by
      cases n with
      | mk _ _ _ _ _ ls2 _ wh2 =>
        have : ls2 = [] := hn.1
        subst this
        have : wh2 = false := hn.2
        subst this
        cases p <;> simp [AT.isWh, AT.sub, AT.at, ix, AT.wh]
    simp only [AT.has_cons, AT.isWh_cons, e1]
    refine ⟨fun p => ?_, fun p => ?_⟩
    · rw [h.1 p, n1]
      constructor
      · rintro (rfl | h)
        · exact .inr (List.nil_prefix)
        · exact .inr h
      · rintro (h | h)
        · cases h
        · exact .inr h
    · rw [h.2 p, n2]
theorem grow_end {b T pre vl vb ls ks wh} : Grow (.mk b T pre vl vb ls ks wh) (.mk b T pre vl vb ls ks true) [] := by
  refine ⟨fun p => ?_, fun p => ?_⟩
  · cases p with
    | nil => simp [AT.has, AT.sub]
    | cons i p => simp [AT.has_cons, AT.at]
  · cases p with
    | nil => simp [AT.isWh, AT.sub, AT.wh]
    | cons i p => simp [AT.isWh_cons, AT.at]

theorem pre_at0 (pre : List Value) (a b c : Value) : (pre ++ [a, b, c])[pre.length + 0]? = some a := by simp
theorem pre_at1 (pre : List Value) (a b c : Value) : (pre ++ [a, b, c])[pre.length + 1]? = some b := by simp
theorem pre_at2 (pre : List Value) (a b c : Value) : (pre ++ [a, b, c])[pre.length + 2]? = some c := by simp
theorem pre_set0 (pre : List Value) (a b c x : Value) : setAt (pre ++ [a, b, c]) (pre.length + 0) x = some (pre ++ [x, b, c]) := by rw [setAt_set _ _ _ (by simp)]; simp
theorem pre_set1 (pre : List Value) (a b c x : Value) : setAt (pre ++ [a, b, c]) (pre.length + 1) x = some (pre ++ [a, x, c]) := by rw [setAt_set _ _ _ (by simp)]; simp
theorem pre_set2 (pre : List Value) (a b c x : Value) : setAt (pre ++ [a, b, c]) (pre.length + 2) x = some (pre ++ [a, b, x]) := by rw [setAt_set _ _ _ (by simp)]; simp

theorem at_c {H : Snap} {O : List Own} {t : AT} {i : Int} {B : Nat} (ho : ∀ o ∈ t.own, o ∈ O) (hk : t.ok B) :
    Ctr Try.prog 50 #[t.ptr, .int .i64 i] H O (fun _ O' r => O' = O ∧ r = match t.at i with | some k => k.ptr | none => .pointer none) := by
  cases t with
  | mk b T pre vl vb ls ks wh =>
    have g1 : GetBlk O b T (pre ++ [vl, vb, .bool wh]) := ⟨ho _ (by simp [AT.own])⟩
    have g2 : GetRow O vl 3 1 ls.length (encI ls) := ⟨ho _ (by simp [AT.own])⟩
    have g3 : GetRow O vb 96 1 ks.length (ks.map AT.ptr) := ⟨ho _ (by simp [AT.own])⟩
    have c0 := pre_at0 pre vl vb (.bool wh)
    have c1 := pre_at1 pre vl vb (.bool wh)
    refine Ctr.intro Try.func50 rfl Try.ntmps50 rfl (fun E R hM hR => ?_)
    simp only [AT.ptr]
    refine Runs.rowSl vl (fun hv1 _ => ?_)
    refine Runs.rowSl vb (fun hv2 _ => ?_)
    have hbd := hv1.bound
    repeat (first | refine a1 ?_ | refine a3 ?_ | refine a4 ?_ | refine a5 ?_ | refine a6 ?_ | refine s_fieldB ?_ | refine s_fieldV ?_ | refine s_loadB ?_ | refine s_loadH ?_ | refine s_loadR ?_ | refine s_index ?_ | refine s_indexR ?_ | refine a7 ?_ | refine a8 ?_)
    refine RW.callL (cap := []) rfl rfl (index_c (H := H) (v := vl)) (List.Sublist.refl _) rfl rfl ?_
    rintro _ H1 rfl hle
    repeat (first | refine a1 ?_ | refine a3 ?_ | refine a4 ?_ | refine a5 ?_ | refine a6 ?_ | refine s_fieldB ?_ | refine s_fieldV ?_ | refine s_loadB ?_ | refine s_loadH ?_ | refine s_loadR ?_ | refine s_index ?_ | refine s_indexR ?_ | refine a7 ?_ | refine a8 ?_)
    cases e : ix ls i with
    | none =>
      simp only [AT.at, e] at hR ⊢
      repeat (first | refine a1 ?_ | refine a3 ?_ | refine a4 ?_ | refine a5 ?_ | refine a6 ?_ | refine s_fieldB ?_ | refine s_fieldV ?_ | refine s_loadB ?_ | refine s_loadH ?_ | refine s_loadR ?_ | refine s_index ?_ | refine s_indexR ?_ | refine a7 ?_ | refine a8 ?_)
      refine Runs.ret1 Try.func50 Try.results50 rfl (fun w hm => hR _ w _ H1 _ (by simp) (hle) ?_ hm)
      exact ⟨rfl, rfl⟩
    | some j =>
      simp only [AT.at, e] at hR ⊢
      have hj := (List.getElem?_eq_some_iff.1 (ix_get e)).1
      have hj2 : j < ks.length := by have := hk.1; omega
      have hkj : ks[j]? = some ks[j] := List.getElem?_eq_getElem hj2
      have hx : (ks.map AT.ptr)[j * 1]? = some (ks[j]).ptr := by simp [hkj]
      rw [hkj] at hR
      repeat (first | refine a1 ?_ | refine a3 ?_ | refine a4 ?_ | refine a5 ?_ | refine a6 ?_ | refine s_fieldB ?_ | refine s_fieldV ?_ | refine s_loadB ?_ | refine s_loadH ?_ | refine s_loadR ?_ | refine s_index ?_ | refine s_indexR ?_ | refine a7 ?_ | refine a8 ?_)
      refine Runs.ret1 Try.func50 Try.results50 rfl (fun w hm => hR _ w _ H1 _ (by simp) (hle) ?_ hm)
      exact ⟨rfl, rfl⟩
end Go.Proofs.Ytjdhcblofkkibaa

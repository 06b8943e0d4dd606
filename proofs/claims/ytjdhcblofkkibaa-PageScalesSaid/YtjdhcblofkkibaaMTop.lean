/-
  The way that numbers choose. Conditions: the graph is valid and has at most 11 nodes.
  The fixed examples. Conditions: none.
  The graphs that the laws make are valid and small; a list is the beginning of a longer one. Conditions: the raw data hold bytes.
  From a contract of a law to its statement: what is read lies in a snapshot of the start. Conditions: none.
-/
import Derived.Test.YtjdhcblofkkibaaT12
import Derived.Test.YtjdhcblofkkibaaMDx
import Derived.Test.YtjdhcblofkkibaaRows
import Derived.ProofKit
import Derived.OpenShut
namespace Go.Proofs.Ytjdhcblofkkibaa
open Go Go.RowKit

/-- The links and the node behind i steps; none if there is no link. -/
def chooseGo (N : Int) (gl : List Lnk) (l : List Int) : Nat → Nat → Int → List Int → Option (List Int × Int)
  | 0, _, at_, out => some (out, at_)
  | fu + 1, i, at_, out => if at_ = N - 1 then some (out, at_) else
    if (outOf gl at_).length = 0 then none else
      let x := tv (outOf gl at_) (tv l i % (outOf gl at_).length)
      chooseGo N gl l fu (i + 1) (lnk gl x).t (out ++ [x])
def chosenOf (N : Int) (gl : List Lnk) (l : List Int) : List Int × Bool :=
  match chooseGo N gl l 10 0 0 [] with
  | none => ([], false)
  | some (out, at_) => (out, decide (at_ = N - 1))

end Go.Proofs.Ytjdhcblofkkibaa
namespace Go.Proofs.Ytjdhcblofkkibaa
open Go Go.RowKit

def gS : List Lnk := [⟨0, 1, 0, 1⟩, ⟨0, 2, 0, 1⟩, ⟨1, 3, 0, 2⟩, ⟨2, 3, 0, 2⟩, ⟨1, 2, 0, 0⟩]
def wantS : List Cand := [⟨[0, 2], 3⟩, ⟨[0, 4, 3], 3⟩, ⟨[1, 3], 3⟩]
theorem gS_list : listR 4 gS 3 = wantS := by decide
theorem gS_valid : validG 4 gS := by decide
theorem gS_tree : treeT gS 4 0 ≤ 2000000000000 := by decide
theorem g1_list : listR 1 [] 5 = [⟨[], 0⟩] := by decide
theorem g2_list : listR 2 [] 5 = [] := by decide
theorem g0_list : listR 0 [] 5 = [] := by decide
theorem gS_c3 : costOf 4 gS [0, 4, 3] = some 3 := by decide
theorem gS_c2 : costOf 4 gS [0, 3] = none := by decide
theorem gS_E : listE 4 gS 3 = 0 := by decide
theorem gS_E51 : listE 4 gS 51 = 1 := by decide
theorem g1_E : listE 1 [] 5 = 0 := by decide
theorem g2_E : listE 2 [] 5 = 0 := by decide
theorem g0_E : listE 0 [] 5 = 150 := by decide

theorem gS_num {t : List Int} (h : IsNum 4 gS 0 t) : tv t 0 = 3 := by
  obtain ⟨_, _, h3, h4, _⟩ := h
  have h4 : tv t 3 = 1 := h4
  have a2 : tv t 2 = 1 := by
    have := h3 2 (by omega) (by omega)
    simp [numT, gS, stepN, h4] at this
    exact this
  have a1 : tv t 1 = 2 := by
    have := h3 1 (by omega) (by omega)
    simp [numT, gS, stepN, h4, a2] at this
    exact this
  have := h3 0 (by omega) (by omega)
  simp [numT, gS, stepN, a1, a2] at this
  exact this

end Go.Proofs.Ytjdhcblofkkibaa
namespace Go.Proofs.Ytjdhcblofkkibaa
open Go Go.RowKit

theorem madeN_range (n : Int) : 1 ≤ madeN n ∧ madeN n ≤ 7 := by unfold madeN; omega
theorem linksOf_mem {N : Int} {xs : List (Int × Int × Int)} (hN : 1 < N) (hx : ∀ x ∈ xs, triOk x) : ∀ y ∈ linksOf N xs, 0 ≤ y.f ∧ y.f < y.t ∧ y.t < N ∧ 0 ≤ y.lab ∧ y.lab < xs.length ∧ 0 ≤ y.c ∧ y.c < 5 := by
  intro y hy
  unfold linksOf at hy
  obtain ⟨⟨x, i⟩, hp, rfl⟩ := List.mem_map.1 hy
  obtain ⟨j, hj⟩ := List.getElem?_of_mem hp
  rw [List.getElem?_zipIdx] at hj
  simp at hj
  obtain ⟨a1, a2, a3, ha, h1, h2⟩ := hj
  have hxo := hx x (by rw [← h1]; exact List.mem_of_getElem? ha)
  have hjl := (List.getElem?_eq_some_iff.1 ha).1
  simp only [triOk, isByte] at hxo
  have hm1 : 0 ≤ x.1 % (N - 1) ∧ x.1 % (N - 1) < N - 1 := ⟨Int.emod_nonneg _ (by omega), Int.emod_lt_of_pos _ (by omega)⟩
  have hm2 : 0 ≤ x.2.1 % (N - 1 - x.1 % (N - 1)) ∧ x.2.1 % (N - 1 - x.1 % (N - 1)) < N - 1 - x.1 % (N - 1) := ⟨Int.emod_nonneg _ (by omega), Int.emod_lt_of_pos _ (by omega)⟩
  simp only [mkLink]
  omega
theorem madeL_length (n : Int) (xs : List (Int × Int × Int)) : (madeL n xs).length ≤ 14 := by
  unfold madeL; split
  · simp [linksOf]; omega
  · simp
theorem made_valid (n : Int) {xs : List (Int × Int × Int)} (hx : ∀ x ∈ xs, triOk x) : validG (madeN n) (madeL n xs) := by
  have h1 := madeN_range n
  have h2 := madeL_length n xs
  refine ⟨h1.1, by omega, by omega, fun y hy => ?_⟩
  unfold madeL at hy
  split at hy
  · rename_i hN
    have := linksOf_mem hN (fun x hxx => hx x (List.mem_of_mem_take hxx)) y hy
    unfold okL
    have h3 : (xs.take 14).length ≤ 14 := by simp; omega
    omega
  · simp at hy
theorem treeT_pow (gl : List Lnk) : ∀ (F : Nat) (n : Int), treeT gl F n ≤ (gl.length + 1) ^ F
  | 0, n => by simp [treeT]
  | F + 1, n => by
    have h1 := sum_le_mul (fun i => treeT gl F (lnk gl i).t) ((gl.length + 1) ^ F) (outOf gl n) fun i _ => treeT_pow gl F _
    have h2 := Nat.mul_le_mul_right ((gl.length + 1) ^ F) (outOf_length gl n)
    have h3 : 1 ≤ (gl.length + 1) ^ F := Nat.pos_of_ne_zero (by simp)
    rw [treeT, Nat.pow_succ, Nat.mul_comm, Nat.succ_mul]
    omega
theorem made_tree (n : Int) (xs : List (Int × Int × Int)) : treeT (madeL n xs) (madeN n).toNat 0 ≤ 2000000000000 := by
  have h1 := madeN_range n
  refine Nat.le_trans (treeT_pow _ _ _) ?_
  have h2 := madeL_length n xs
  refine Nat.le_trans (Nat.pow_le_pow_left (show (madeL n xs).length + 1 ≤ 15 by omega) _) ?_
  refine Nat.le_trans (Nat.pow_le_pow_right (by omega) (show (madeN n).toNat ≤ 7 by omega)) ?_
  decide

theorem listR_ok {N : Int} {gl : List Lnk} {k : Int} (hg : validG N gl) (h0 : 0 ≤ k) (h1 : k ≤ 50) : listE N gl k = 0 ∧ listR N gl k = (ordered (waysG gl N N.toNat 0)).take k.toNat := by
  unfold listE listR
  rw [if_neg (fun h => h hg), if_neg (by omega), if_pos ⟨hg, h0, h1⟩]
  exact ⟨rfl, rfl⟩
end Go.Proofs.Ytjdhcblofkkibaa
namespace Go.Proofs.Ytjdhcblofkkibaa
open Go Go.ChangeShapes Go.WideShapes Go.ChangeAt Go.RowKit

theorem Try.own : ownKnob Try.prog.godebug = none := by kernel_rfl
theorem Try.laidOut : laidOutB Try.prog = true := by kernel_rfl

section
variable {H : Type} {enc : TypeId × Value → H} {P : Program}
theorem trodAll_stays (hl : laidOutB P = true) {W W' : World} (hb : Below W.heap.size W W') : ∀ {ts : List TypeId} {vs : List Value} {ds : List (DataW H)} {p : List MemPlace}, (∀ t ∈ ts, P.readableRec t = true ∧ t < P.types.size) →
    DataW.TrodAll enc P W 0 (fun _ => true) true ts vs ds p → (∀ x ∈ p, x.block < W.heap.size) → DataW.TrodAll enc P W' 0 (fun b => decide (b < W.heap.size)) true ts vs ds p
  | [], _, _, _, _, h, _ => by
    obtain ⟨rfl, rfl, rfl⟩ := trodAll_nil h
    rfl
  | t :: ts, _, _, _, hr, h, hlt => by
    obtain ⟨v, vs1, d, ds1, a, b, rfl, rfl, rfl, h1, h2⟩ := trodAll_cons h
    have h3 := hr t (List.mem_cons_self ..)
    exact ⟨a, b, Below.trod hl h3.1 h3.2 h1 hb (fun x hx => hlt x (List.mem_append_left _ hx)), trodAll_stays hl hb (fun t ht => hr t (List.mem_cons_of_mem _ ht)) h2 (fun x hx => hlt x (List.mem_append_right _ hx)), rfl⟩
theorem keptBut_below {W W' : World} (hb : Below W.heap.size W W') (may : MemPlace → Prop) : W.keptBut W' may := by
  refine ⟨hb.os, hb.output, fun i hi => ?_⟩
  rw [hb.block i hi]
  exact (World.keptBut_refl W may).2.2 i hi
theorem law_post {f : Func} {s : ChangeSpec} {W W' : World} {args : Array Value} {ds gs : List (DataW H)} {before : List MemPlace} {tb : TypeId} (hl : laidOutB P = true)
    (hW : DataW.Whole enc P f.params.toList s.vars false W args.toList ds gs before) (hvars : s.vars = []) (hb : Below W.heap.size W W') (hr : f.resultTypes = #[tb]) (htb : P.underlying tb = some .bool)
    (hp : ∀ t ∈ f.params.toList, P.readableRec t = true ∧ t < P.types.size) (hs1 : (s.fn H (ds ++ gs)).results = [.lit (.bool true)]) (hs2 : (s.fn H (ds ++ gs)).args = ds) (hs3 : (s.fn H (ds ++ gs)).vars = []) :
    s.post enc P f false true false false W args (.bool true) W' := by
  have hW' := hW
  obtain ⟨p, q, hA, hV, rfl, hfz, hnd⟩ := hW
  have hlt := hW'.lt
  refine ⟨ds, gs, p ++ q, [], p, [], hW', ?_, ?_, ?_, keptBut_below hb _, fun h => by cases h⟩
  · rw [hr, hs1]
    exact trodAll_mk1 (shut_bool htb true)
  · rw [hs2]
    exact trodAll_stays hl hb hp hA (fun x hx => hlt x (List.mem_append_left _ hx))
  · rw [hvars, hs3]
    have : gs = [] := by
      rw [hvars] at hV
      exact (trodVars_none hV).1
    subst this
    rfl
end
/-! ### What is read at the start lies in the snapshot of the start -/
abbrev snap0 (W : World) : Snap := fun b => W.heap[b]?
theorem snap0_cell (W : World) (a : Addr) : (snap0 W).cell a = W.cell? a := rfl
def Opens {α : Type} (P : Program) (t : TypeId) (L : Lay α) (ok : α → Prop) : Prop :=
  ∀ (H : Type) (enc : TypeId × Value → H) (W : World) (base : Nat) (spare : Nat → Bool) (held : Bool) (fuel : Nat) (cs : List Value) (x : DataW H × List MemPlace), DataW.trod enc P W base spare held fuel t cs = some x → ∃ a, L.rep (snap0 W) a cs ∧ ok a
theorem opens_u8 {P : Program} {t : TypeId} (ht : P.underlying t = some (.int .u8)) : Opens P t U8 isByte := by
  intro H enc W base spare held fuel cs x h
  obtain ⟨n, rfl, _, hw⟩ := DataW.trod_int ht h
  refine ⟨n, rfl, ?_⟩
  simp [Lit.wf] at hw
  have h2 := of_decide_eq_true (p := IntKind.u8.min ≤ n ∧ n ≤ IntKind.u8.max) (by simpa using hw)
  exact h2
theorem opens_tri {P : Program} {t e : TypeId} (ht : P.underlying t = some (.array 3 e)) (he : P.underlying e = some (.int .u8)) (hc : P.cellsOf e = 1) (hct : P.cellsOf t = 3) : Opens P t TriL triOk := by
  intro H enc W base spare held fuel cs x h
  obtain ⟨xs, m, _, _, hl, hxl, hi⟩ := DataW.trod_array ht h
  rw [hct] at hl
  match cs, hl with
  | [c0, c1, c2], _ =>
    rw [hc] at hi
    have g : ∀ i, i < 3 → ∃ y, xs[i]? = some y := fun i h => ⟨_, List.getElem?_eq_getElem (by omega)⟩
    obtain ⟨y0, hy0⟩ := g 0 (by omega)
    obtain ⟨y1, hy1⟩ := g 1 (by omega)
    obtain ⟨y2, hy2⟩ := g 2 (by omega)
    have e0 := hi 0 (by omega)
    have e1 := hi 1 (by omega)
    have e2 := hi 2 (by omega)
    rw [hy0] at e0; rw [hy1] at e1; rw [hy2] at e2
    simp at e0 e1 e2
    obtain ⟨a0, h0, k0⟩ := opens_u8 he H enc W base spare held m _ _ e0
    obtain ⟨a1, h1, k1⟩ := opens_u8 he H enc W base spare held m _ _ e1
    obtain ⟨a2, h2, k2⟩ := opens_u8 he H enc W base spare held m _ _ e2
    have h0 : [c0] = [.int .u8 a0] := h0
    have h1 : [c1] = [.int .u8 a1] := h1
    have h2 : [c2] = [.int .u8 a2] := h2
    injection h0 with h0; injection h1 with h1; injection h2 with h2
    subst h0; subst h1; subst h2
    exact ⟨(a0, a1, a2), rfl, k0, k1, k2⟩
theorem build_cells {α : Type} {L : Lay α} {H : Snap} {ok : α → Prop} (f : Nat → Addr) : ∀ n : Nat, (∀ i, i < n → ∃ a c, L.rep H a c ∧ ok a ∧ ∀ j u, c[j]? = some u → H.cell (f (i * L.sz + j)) = some u) →
    ∃ xs cs, xs.length = n ∧ CellsRep H L xs cs ∧ (∀ x ∈ xs, ok x) ∧ ∀ j u, cs[j]? = some u → H.cell (f j) = some u
  | 0, _ => ⟨[], [], rfl, rfl, by simp, by simp⟩
  | n + 1, h => by
    obtain ⟨xs, cs, h1, h2, h3, h4⟩ := build_cells f n fun i hi => h i (by omega)
    obtain ⟨a, c, g1, g2, g3⟩ := h n (by omega)
    refine ⟨xs ++ [a], cs ++ c, by simp [h1], h2.append (CellsRep.one g1), fun x hx => ?_, fun j u hu => ?_⟩
    · rcases List.mem_append.1 hx with hx | hx
      · exact h3 x hx
      · rw [List.mem_singleton] at hx; subst hx; exact g2
    · have hl := h2.length
      rw [h1] at hl
      by_cases hj : j < cs.length
      · rw [List.getElem?_append_left hj] at hu; exact h4 j u hu
      · rw [List.getElem?_append_right (by omega)] at hu
        have := g3 _ u hu
        rwa [show n * L.sz + (j - cs.length) = j by omega] at this
theorem opens_slice {α : Type} {P : Program} {t e : TypeId} {L : Lay α} {ok : α → Prop} (ht : P.underlying t = some (.slice e)) (he : P.cellsOf e = L.sz) (h0 : 0 < L.sz) (ho : Opens P e L ok) {H : Type} {enc : TypeId × Value → H} {W : World} {base : Nat} {spare : Nat → Bool} {held : Bool} {fuel : Nat} {cs : List Value} {x : DataW H × List MemPlace}
    (h : DataW.trod enc P W base spare held fuel t cs = some x) : ∃ v xs, cs = [v] ∧ SliceRep (snap0 W) L v xs ∧ ∀ x ∈ xs, ok x := by
  rcases DataW.trod_slice ht h with ⟨rfl, _⟩ | ⟨a, len, cap, elems, rest, n, _, rfl, _, _, hlc, hcm, hel, hi, _⟩
  · exact ⟨_, [], rfl, SliceRep.nil, by simp⟩
  · rw [he] at hi
    have elem : ∀ i, i < len → ∃ b c, L.rep (snap0 W) b c ∧ ok b ∧ c.length = L.sz ∧ ∀ j, j < L.sz → W.cell? ((a.add (i * L.sz)).add j) = c[j]? := by
      intro i hil
      have h1 := hi i hil
      obtain ⟨y, hy⟩ : ∃ y, elems[i]? = some y := ⟨_, List.getElem?_eq_getElem (by omega)⟩
      rw [hy] at h1
      obtain ⟨c, hc, hx⟩ := Option.bind_eq_some_iff.1 h1
      obtain ⟨b, hb, hok⟩ := ho H enc W base spare held n c y hx
      obtain ⟨_, hcl, hcell⟩ := World.cells?_some hc
      exact ⟨b, c, hb, hok, hcl, hcell⟩
    have hsp : 0 < len → a.spot = none := by
      intro hp
      obtain ⟨b, c, _, _, hcl, hcell⟩ := elem 0 hp
      have h1 := hcell 0 h0
      rw [List.getElem?_eq_getElem (by omega)] at h1
      have e : (a.add (0 * L.sz)).add 0 = a := by simp [Addr.add]
      rw [e] at h1
      unfold World.cell? at h1
      cases hs : a.spot with
      | none => rfl
      | some q =>
        rw [hs] at h1
        split at h1 <;> simp at h1
    have key : ∀ i, i < len → ∃ b c, L.rep (snap0 W) b c ∧ ok b ∧ ∀ j u, c[j]? = some u → (snap0 W).cell (vat (.slice (some a) len cap) (i * L.sz + j)) = some u := by
      intro i hil
      obtain ⟨b, c, hb, hok, hcl, hcell⟩ := elem i hil
      have hs := hsp (by omega)
      refine ⟨b, c, hb, hok, fun j u hu => ?_⟩
      have hj := (List.getElem?_eq_some_iff.1 hu).1
      have h1 := hcell j (by omega)
      rw [hu] at h1
      rw [snap0_cell]
      obtain ⟨bl, off, sp⟩ := a
      simp only at hs
      subst hs
      simpa [vat, Addr.add_lit, Nat.add_assoc] using h1
    obtain ⟨xs, cs, g1, g2, g3, g4⟩ := build_cells (L := L) (H := snap0 W) (ok := ok) (fun j => vat (.slice (some a) len cap) j) len (fun i hil => by
      obtain ⟨b, c, k1, k2, k3⟩ := key i hil
      exact ⟨b, c, k1, k2, k3⟩)
    refine ⟨_, xs, rfl, ⟨⟨some a, cap, by rw [g1], by omega, hcm, fun hp => ?_⟩, cs, g2, g4⟩, g3⟩
    have hs := hsp (by omega)
    obtain ⟨b, off, sp⟩ := a
    simp only at hs
    subst hs
    exact ⟨b, off, rfl⟩
theorem opens_struct2 {P : Program} {t : TypeId} {f0 f1 : Field} (ht : P.underlying t = some (.struct #[f0, f1])) (o0 : f0.offset = 0) (c0 : P.cellsOf f0.type = 1) (o1 : f1.offset = 1) (c1 : P.cellsOf f1.type = 1) (ct : P.cellsOf t = 2) {H : Type} {enc : TypeId × Value → H} {W : World} {base : Nat} {spare : Nat → Bool} {held : Bool} {fuel : Nat} {cs : List Value} {x : DataW H × List MemPlace}
    (h : DataW.trod enc P W base spare held fuel t cs = some x) : ∃ a b n y0 y1, cs = [a, b] ∧ DataW.trod enc P W base spare held n f0.type [a] = some y0 ∧ DataW.trod enc P W base spare held n f1.type [b] = some y1 := by
  obtain ⟨xs, n, _, _, hl, hxl, hi⟩ := DataW.trod_struct ht h
  rw [ct] at hl
  match cs, hl with
  | [a, b], _ =>
    have g : ∀ i, i < 2 → ∃ y, xs[i]? = some y := fun i h => ⟨_, List.getElem?_eq_getElem (by simp at hxl; omega)⟩
    obtain ⟨y0, hy0⟩ := g 0 (by omega)
    obtain ⟨y1, hy1⟩ := g 1 (by omega)
    have e0 := hi 0 f0 rfl
    have e1 := hi 1 f1 rfl
    rw [hy0, o0, c0] at e0
    rw [hy1, o1, c1] at e1
    exact ⟨a, b, n, y0, y1, rfl, by simpa using e0, by simpa using e1⟩
theorem opens_arr2 {P : Program} {t e : TypeId} (ht : P.underlying t = some (.array 2 e)) (he : P.underlying e = some (.int .u8)) (hc : P.cellsOf e = 1) (hct : P.cellsOf t = 2) {H : Type} {enc : TypeId × Value → H} {W : World} {base : Nat} {spare : Nat → Bool} {held : Bool} {fuel : Nat} {cs : List Value} {x : DataW H × List MemPlace}
    (h : DataW.trod enc P W base spare held fuel t cs = some x) : ∃ a b, cs = [.int .u8 a, .int .u8 b] ∧ isByte a ∧ isByte b := by
  obtain ⟨xs, m, _, _, hl, hxl, hi⟩ := DataW.trod_array ht h
  rw [hct] at hl
  match cs, hl with
  | [c0, c1], _ =>
    rw [hc] at hi
    have g : ∀ i, i < 2 → ∃ y, xs[i]? = some y := fun i h => ⟨_, List.getElem?_eq_getElem (by omega)⟩
    obtain ⟨y0, hy0⟩ := g 0 (by omega)
    obtain ⟨y1, hy1⟩ := g 1 (by omega)
    have e0 := hi 0 (by omega)
    have e1 := hi 1 (by omega)
    rw [hy0] at e0; rw [hy1] at e1
    simp at e0 e1
    obtain ⟨a0, h0, k0⟩ := opens_u8 he H enc W base spare held m _ _ e0
    obtain ⟨a1, h1, k1⟩ := opens_u8 he H enc W base spare held m _ _ e1
    have h0 : [c0] = [.int .u8 a0] := h0
    have h1 : [c1] = [.int .u8 a1] := h1
    injection h0 with h0; injection h1 with h1
    subst h0; subst h1
    exact ⟨a0, a1, rfl, k0, k1⟩
theorem agg_of_struct {P : Program} {W : World} {base : Nat} {r : Reach} {t : TypeId} {fs : Array Field} {v : Value} (ht : P.underlying t = some (.struct fs)) (h : Value.okWide P W r base t v) : ∃ cs, v = .agg cs := by
  unfold Value.okWide at h
  rw [ht] at h
  obtain ⟨cs, h, _⟩ := h
  exact ⟨cs, h⟩
theorem agg_of_array {P : Program} {W : World} {base : Nat} {r : Reach} {t e : TypeId} {n : Nat} {v : Value} (ht : P.underlying t = some (.array n e)) (h : Value.okWide P W r base t v) : ∃ cs, v = .agg cs := by
  unfold Value.okWide at h
  rw [ht] at h
  obtain ⟨cs, h, _⟩ := h
  exact ⟨cs, h⟩
set_option maxRecDepth 20000 in
theorem opens_raw {H : Type} {enc : TypeId × Value → H} {W : World} {base : Nat} {spare : Nat → Bool} {held : Bool} {v : Value} {d : DataW H} {ps : List MemPlace} {b2 : Nat} {r : Reach} (hv : Value.okWide Try.prog W r b2 24 v) (h : DataW.Trod enc Try.prog W base spare held 24 v d ps) :
    ∃ n vL xs, v = .agg #[.int .u8 n, vL] ∧ isByte n ∧ SliceRep (snap0 W) TriL vL xs ∧ ∀ x ∈ xs, triOk x := by
  obtain ⟨cs, rfl⟩ := agg_of_struct Try.underlying24 hv
  obtain ⟨fuel, h⟩ := h
  obtain ⟨a, b, n, y0, y1, e, h0, h1⟩ := opens_struct2 Try.underlying24 rfl (by kernel_rfl) rfl (by kernel_rfl) (by kernel_rfl) h
  obtain ⟨n, e0, k0⟩ := opens_u8 Try.underlying5 _ _ _ _ _ _ _ _ _ h0
  obtain ⟨vL, xs, e1, k1, k2⟩ := opens_slice Try.underlying22 (by kernel_rfl) (by decide) (opens_tri Try.underlying42 Try.underlying5 (by kernel_rfl) (by kernel_rfl)) h1
  have e0 : [a] = [.int .u8 n] := e0
  injection e0 with e0; injection e1 with e1
  subst e0; subst e1
  refine ⟨n, b, xs, ?_, k0, k1, k2⟩
  have : cs.toList = [.int .u8 n, b] := e
  rw [← Array.toArray_toList (xs := cs), this]
theorem slice_of_ok {P : Program} {W : World} {base : Nat} {r : Reach} {t e : TypeId} {v : Value} (ht : P.underlying t = some (.slice e)) (h : Value.okWide P W r base t v) : v.cells.toList = [v] := by
  unfold Value.okWide at h
  rw [ht] at h
  unfold Cell.okWide Cell.ok at h
  rw [ht] at h
  cases v <;> simp_all [Value.cells]
theorem opens_sl {α : Type} {P : Program} {t e : TypeId} {L : Lay α} {ok : α → Prop} {H : Type} {enc : TypeId × Value → H} {W : World} {base b2 : Nat} {r : Reach} {spare : Nat → Bool} {held : Bool} {v : Value} {d : DataW H} {ps : List MemPlace} (ht : P.underlying t = some (.slice e)) (he : P.cellsOf e = L.sz) (h0 : 0 < L.sz) (ho : Opens P e L ok) (hv : Value.okWide P W r b2 t v)
    (h : DataW.Trod enc P W base spare held t v d ps) : ∃ xs, SliceRep (snap0 W) L v xs ∧ ∀ x ∈ xs, ok x := by
  obtain ⟨fuel, h⟩ := h
  rw [slice_of_ok ht hv] at h
  obtain ⟨v', xs, e1, h1, h2⟩ := opens_slice ht he h0 ho h
  injection e1 with e1
  subst e1
  exact ⟨xs, h1, h2⟩
theorem u8_range {n : Int} (h : (Lit.int .u8 n).wf = true) : isByte n := by
  simp [Lit.wf] at h
  have h2 := of_decide_eq_true (p := IntKind.u8.min ≤ n ∧ n ≤ IntKind.u8.max) (by simpa using h)
  exact h2
end Go.Proofs.Ytjdhcblofkkibaa

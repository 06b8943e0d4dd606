/-
  From a contract of a law to its statement (any layer): what is read lies in a snapshot of the start. Conditions: none.
-/
import Derived.Test.YtbiohkncdlhigaaRows
import Derived.Test.YtbiohkncdlhigaaAs
import Derived.Test.YtbiohkncdlhigaaTy
import Derived.ProofKit
import Derived.OpenShut
import Derived.ChangeMaps5
namespace Go.Proofs.Ytbiohkncdlhigaa
open Go Go.ChangeShapes Go.WideShapes Go.ChangeAt Go.RowKit

theorem Try.own : ownKnob Try.prog.godebug = none := by kernel_rfl
theorem Try.laidOut : laidOutB Try.prog = true := by kernel_rfl

section
variable {H : Type} {enc : TypeId × Value → H} {P : Program}
theorem trodAll_stays (hl : laidOutB P = true) {W W' : World} (hb : Below W.heap.size W W') : ∀ {ts : List TypeId} {vs : List Value} {ds : List (DataW H)} {p : List MemPlace}, (∀ t ∈ ts, P.readableRec t = true ∧ t < P.types.size) →
    DataW.TrodAll enc P W 0 (fun _ => true) true ts vs ds p → (∀ x ∈ p, x.block < W.heap.size) → DataW.TrodAll enc P W' 0 (fun b => decide (b < W.heap.size)) true ts vs ds p
  | [], _, _, _, _, h, _ => by
    obtain ⟨rfl, rfl, rfl⟩ := trodAll_nil h
    rfl
  | t :: ts, _, _, _, hr, h, hlt => by
    obtain ⟨v, vs1, d, ds1, a, b, rfl, rfl, rfl, h1, h2⟩ := trodAll_cons h
    have h3 := hr t (List.mem_cons_self ..)
    exact ⟨a, b, Below.trod hl h3.1 h3.2 h1 hb (fun x hx => hlt x (List.mem_append_left _ hx)), trodAll_stays hl hb (fun t ht => hr t (List.mem_cons_of_mem _ ht)) h2 (fun x hx => hlt x (List.mem_append_right _ hx)), rfl⟩
theorem keptBut_below {W W' : World} (hb : Below W.heap.size W W') (may : MemPlace → Prop) : W.keptBut W' may := by
  refine ⟨hb.os, hb.output, fun i hi => ?_⟩
  rw [hb.block i hi]
  exact (World.keptBut_refl W may).2.2 i hi
theorem law_post {f : Func} {s : ChangeSpec} {W W' : World} {args : Array Value} {ds gs : List (DataW H)} {before : List MemPlace} {tb : TypeId} (hl : laidOutB P = true)
    (hW : DataW.Whole enc P f.params.toList s.vars false W args.toList ds gs before) (hvars : s.vars = []) (hb : Below W.heap.size W W') (hr : f.resultTypes = #[tb]) (htb : P.underlying tb = some .bool)
    (hp : ∀ t ∈ f.params.toList, P.readableRec t = true ∧ t < P.types.size) (hs1 : (s.fn H (ds ++ gs)).results = [.lit (.bool true)]) (hs2 : (s.fn H (ds ++ gs)).args = ds) (hs3 : (s.fn H (ds ++ gs)).vars = []) :
    s.post enc P f false true false false W args (.bool true) W' := by
  have hW' := hW
  obtain ⟨p, q, hA, hV, rfl, hfz, hnd⟩ := hW
  have hlt := hW'.lt
  refine ⟨ds, gs, p ++ q, [], p, [], hW', ?_, ?_, ?_, keptBut_below hb _, fun h => by cases h⟩
  · rw [hr, hs1]
    exact trodAll_mk1 (shut_bool htb true)
  · rw [hs2]
    exact trodAll_stays hl hb hp hA (fun x hx => hlt x (List.mem_append_left _ hx))
  · rw [hvars, hs3]
    have : gs = [] := by
      rw [hvars] at hV
      exact (trodVars_none hV).1
    subst this
    rfl
end
/-! ### What is read at the start lies in the snapshot of the start -/
abbrev snap0 (W : World) : Snap := fun b => W.heap[b]?
theorem snap0_cell (W : World) (a : Addr) : (snap0 W).cell a = W.cell? a := rfl
def Opens {α : Type} (P : Program) (t : TypeId) (L : Lay α) (ok : α → Prop) : Prop :=
  ∀ (H : Type) (enc : TypeId × Value → H) (W : World) (base : Nat) (spare : Nat → Bool) (held : Bool) (fuel : Nat) (cs : List Value) (x : DataW H × List MemPlace), DataW.trod enc P W base spare held fuel t cs = some x → ∃ a, L.rep (snap0 W) a cs ∧ ok a
theorem opens_u8 {P : Program} {t : TypeId} (ht : P.underlying t = some (.int .u8)) : Opens P t U8 isByte := by
  intro H enc W base spare held fuel cs x h
  obtain ⟨n, rfl, _, hw⟩ := DataW.trod_int ht h
  refine ⟨n, rfl, ?_⟩
  simp [Lit.wf] at hw
  have h2 := of_decide_eq_true (p := IntKind.u8.min ≤ n ∧ n ≤ IntKind.u8.max) (by simpa using hw)
  exact h2
theorem build_cells {α : Type} {L : Lay α} {H : Snap} {ok : α → Prop} (f : Nat → Addr) : ∀ n : Nat, (∀ i, i < n → ∃ a c, L.rep H a c ∧ ok a ∧ ∀ j u, c[j]? = some u → H.cell (f (i * L.sz + j)) = some u) →
    ∃ xs cs, xs.length = n ∧ CellsRep H L xs cs ∧ (∀ x ∈ xs, ok x) ∧ ∀ j u, cs[j]? = some u → H.cell (f j) = some u
  | 0, _ => ⟨[], [], rfl, rfl, by simp, by simp⟩
  | n + 1, h => by
    obtain ⟨xs, cs, h1, h2, h3, h4⟩ := build_cells f n fun i hi => h i (by omega)
    obtain ⟨a, c, g1, g2, g3⟩ := h n (by omega)
    refine ⟨xs ++ [a], cs ++ c, by simp [h1], h2.append (CellsRep.one g1), fun x hx => ?_, fun j u hu => ?_⟩
    · rcases List.mem_append.1 hx with hx | hx
      · exact h3 x hx
      · rw [List.mem_singleton] at hx; subst hx; exact g2
    · have hl := h2.length
      rw [h1] at hl
      by_cases hj : j < cs.length
      · rw [List.getElem?_append_left hj] at hu; exact h4 j u hu
      · rw [List.getElem?_append_right (by omega)] at hu
        have := g3 _ u hu
        rwa [show n * L.sz + (j - cs.length) = j by omega] at this
theorem opens_slice {α : Type} {P : Program} {t e : TypeId} {L : Lay α} {ok : α → Prop} (ht : P.underlying t = some (.slice e)) (he : P.cellsOf e = L.sz) (h0 : 0 < L.sz) (ho : Opens P e L ok) {H : Type} {enc : TypeId × Value → H} {W : World} {base : Nat} {spare : Nat → Bool} {held : Bool} {fuel : Nat} {cs : List Value} {x : DataW H × List MemPlace}
    (h : DataW.trod enc P W base spare held fuel t cs = some x) : ∃ v xs, cs = [v] ∧ SliceRep (snap0 W) L v xs ∧ ∀ x ∈ xs, ok x := by
  rcases DataW.trod_slice ht h with ⟨rfl, _⟩ | ⟨a, len, cap, elems, rest, n, _, rfl, _, _, hlc, hcm, hel, hi, _⟩
  · exact ⟨_, [], rfl, SliceRep.nil, by simp⟩
  · rw [he] at hi
    have elem : ∀ i, i < len → ∃ b c, L.rep (snap0 W) b c ∧ ok b ∧ c.length = L.sz ∧ ∀ j, j < L.sz → W.cell? ((a.add (i * L.sz)).add j) = c[j]? := by
      intro i hil
      have h1 := hi i hil
      obtain ⟨y, hy⟩ : ∃ y, elems[i]? = some y := ⟨_, List.getElem?_eq_getElem (by omega)⟩
      rw [hy] at h1
      obtain ⟨c, hc, hx⟩ := Option.bind_eq_some_iff.1 h1
      obtain ⟨b, hb, hok⟩ := ho H enc W base spare held n c y hx
      obtain ⟨_, hcl, hcell⟩ := World.cells?_some hc
      exact ⟨b, c, hb, hok, hcl, hcell⟩
    have hsp : 0 < len → a.spot = none := by
      intro hp
      obtain ⟨b, c, _, _, hcl, hcell⟩ := elem 0 hp
      have h1 := hcell 0 h0
      rw [List.getElem?_eq_getElem (by omega)] at h1
      have e : (a.add (0 * L.sz)).add 0 = a := by simp [Addr.add]
      rw [e] at h1
      unfold World.cell? at h1
      cases hs : a.spot with
      | none => rfl
      | some q =>
        rw [hs] at h1
        split at h1 <;> simp at h1
    have key : ∀ i, i < len → ∃ b c, L.rep (snap0 W) b c ∧ ok b ∧ ∀ j u, c[j]? = some u → (snap0 W).cell (vat (.slice (some a) len cap) (i * L.sz + j)) = some u := by
      intro i hil
      obtain ⟨b, c, hb, hok, hcl, hcell⟩ := elem i hil
      have hs := hsp (by omega)
      refine ⟨b, c, hb, hok, fun j u hu => ?_⟩
      have hj := (List.getElem?_eq_some_iff.1 hu).1
      have h1 := hcell j (by omega)
      rw [hu] at h1
      rw [snap0_cell]
      obtain ⟨bl, off, sp⟩ := a
      simp only at hs
      subst hs
      simpa [vat, Addr.add_lit, Nat.add_assoc] using h1
    obtain ⟨xs, cs, g1, g2, g3, g4⟩ := build_cells (L := L) (H := snap0 W) (ok := ok) (fun j => vat (.slice (some a) len cap) j) len (fun i hil => by
      obtain ⟨b, c, k1, k2, k3⟩ := key i hil
      exact ⟨b, c, k1, k2, k3⟩)
    refine ⟨_, xs, rfl, ⟨⟨some a, cap, by rw [g1], by omega, hcm, fun hp => ?_⟩, cs, g2, g4⟩, g3⟩
    have hs := hsp (by omega)
    obtain ⟨b, off, sp⟩ := a
    simp only at hs
    subst hs
    exact ⟨b, off, rfl⟩
theorem agg_of_struct {P : Program} {W : World} {base : Nat} {r : Reach} {t : TypeId} {fs : Array Field} {v : Value} (ht : P.underlying t = some (.struct fs)) (h : Value.okWide P W r base t v) : ∃ cs, v = .agg cs := by
  unfold Value.okWide at h
  rw [ht] at h
  obtain ⟨cs, h, _⟩ := h
  exact ⟨cs, h⟩
theorem agg_of_array {P : Program} {W : World} {base : Nat} {r : Reach} {t e : TypeId} {n : Nat} {v : Value} (ht : P.underlying t = some (.array n e)) (h : Value.okWide P W r base t v) : ∃ cs, v = .agg cs := by
  unfold Value.okWide at h
  rw [ht] at h
  obtain ⟨cs, h, _⟩ := h
  exact ⟨cs, h⟩
theorem slice_of_ok {P : Program} {W : World} {base : Nat} {r : Reach} {t e : TypeId} {v : Value} (ht : P.underlying t = some (.slice e)) (h : Value.okWide P W r base t v) : v.cells.toList = [v] := by
  unfold Value.okWide at h
  rw [ht] at h
  unfold Cell.okWide Cell.ok at h
  rw [ht] at h
  cases v <;> simp_all [Value.cells]
theorem opens_sl {α : Type} {P : Program} {t e : TypeId} {L : Lay α} {ok : α → Prop} {H : Type} {enc : TypeId × Value → H} {W : World} {base b2 : Nat} {r : Reach} {spare : Nat → Bool} {held : Bool} {v : Value} {d : DataW H} {ps : List MemPlace} (ht : P.underlying t = some (.slice e)) (he : P.cellsOf e = L.sz) (h0 : 0 < L.sz) (ho : Opens P e L ok) (hv : Value.okWide P W r b2 t v)
    (h : DataW.Trod enc P W base spare held t v d ps) : ∃ xs, SliceRep (snap0 W) L v xs ∧ ∀ x ∈ xs, ok x := by
  obtain ⟨fuel, h⟩ := h
  rw [slice_of_ok ht hv] at h
  obtain ⟨v', xs, e1, h1, h2⟩ := opens_slice ht he h0 ho h
  injection e1 with e1
  subst e1
  exact ⟨xs, h1, h2⟩
theorem u8_range {n : Int} (h : (Lit.int .u8 n).wf = true) : isByte n := by
  simp [Lit.wf] at h
  have h2 := of_decide_eq_true (p := IntKind.u8.min ≤ n ∧ n ≤ IntKind.u8.max) (by simpa using h)
  exact h2
theorem i64_range {n : Int} (h : (Lit.int .i64 n).wf = true) : inI64 n := by
  simp [Lit.wf] at h
  have h2 := of_decide_eq_true (p := IntKind.i64.min ≤ n ∧ n ≤ IntKind.i64.max) (by simpa using h)
  exact h2
def isI16 (x : Int) : Prop := -32768 ≤ x ∧ x ≤ 32767
theorem i16_range {n : Int} (h : (Lit.int .i16 n).wf = true) : isI16 n := by
  simp [Lit.wf] at h
  have h2 := of_decide_eq_true (p := IntKind.i16.min ≤ n ∧ n ≤ IntKind.i16.max) (by simpa using h)
  exact h2
theorem i8_range {n : Int} (h : (Lit.int .i8 n).wf = true) : isI8 n := by
  simp [Lit.wf] at h
  have h2 := of_decide_eq_true (p := IntKind.i8.min ≤ n ∧ n ≤ IntKind.i8.max) (by simpa using h)
  exact h2
section
variable {P : Program} {t : TypeId} {H : Type} {enc : TypeId × Value → H} {W : World} {base : Nat} {spare : Nat → Bool} {held : Bool} {fuel : Nat} {cs : List Value} {x : DataW H × List MemPlace}
theorem opens_i64 (ht : P.underlying t = some (.int .i64)) (h : DataW.trod enc P W base spare held fuel t cs = some x) : ∃ n, cs = [.int .i64 n] ∧ inI64 n := by
  obtain ⟨n, rfl, _, hw⟩ := DataW.trod_int ht h
  exact ⟨n, rfl, i64_range hw⟩
theorem opens_i16 (ht : P.underlying t = some (.int .i16)) (h : DataW.trod enc P W base spare held fuel t cs = some x) : ∃ n, cs = [.int .i16 n] ∧ isI16 n := by
  obtain ⟨n, rfl, _, hw⟩ := DataW.trod_int ht h
  exact ⟨n, rfl, i16_range hw⟩
theorem opens_b8 (ht : P.underlying t = some (.int .u8)) (h : DataW.trod enc P W base spare held fuel t cs = some x) : ∃ n, cs = [.int .u8 n] ∧ isByte n := by
  obtain ⟨n, rfl, _, hw⟩ := DataW.trod_int ht h
  exact ⟨n, rfl, u8_range hw⟩
theorem str_of (s : ByteArray) : Value.string s = str s.data.toList := by simp
theorem opens_str (ht : P.underlying t = some .string) (h : DataW.trod enc P W base spare held fuel t cs = some x) : ∃ s : List UInt8, cs = [str s] ∧ s.length ≤ maxLen := by
  obtain ⟨s, rfl, _, hs⟩ := DataW.trod_string ht h
  exact ⟨s.data.toList, by rw [str_of], hs⟩
theorem opens_fields {fs : Array Field} (ht : P.underlying t = some (.struct fs)) (h : DataW.trod enc P W base spare held fuel t cs = some x) :
    ∃ n, cs.length = P.cellsOf t ∧ ∀ (i : Nat) (f : Field), fs[i]? = some f → ∃ y, DataW.trod enc P W base spare held n f.type ((cs.drop f.offset).take (P.cellsOf f.type)) = some y := by
  obtain ⟨xs, n, _, _, hl, hxl, hi⟩ := DataW.trod_struct ht h
  refine ⟨n, hl, fun i f hf => ?_⟩
  have hil := (Array.getElem?_eq_some_iff.1 hf).1
  exact ⟨xs[i]'(by omega), by rw [hi i f hf]; exact List.getElem?_eq_getElem _⟩
theorem opens_elems {e : TypeId} {k : Nat} (ht : P.underlying t = some (.array k e)) (h : DataW.trod enc P W base spare held fuel t cs = some x) :
    ∃ n, cs.length = P.cellsOf t ∧ ∀ i, i < k → ∃ y, DataW.trod enc P W base spare held n e ((cs.drop (i * P.cellsOf e)).take (P.cellsOf e)) = some y := by
  obtain ⟨xs, n, _, _, hl, hxl, hi⟩ := DataW.trod_array ht h
  refine ⟨n, hl, fun i hik => ?_⟩
  exact ⟨xs[i]'(by omega), by rw [hi i hik]; exact List.getElem?_eq_getElem _⟩
end
end Go.Proofs.Ytbiohkncdlhigaa

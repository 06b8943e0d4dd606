/-
  From a contract of a law to its statement (any layer): what is read lies in a snapshot of the start. Conditions: none.
  Openers of the layer of documents: raw edits, edits, triples of numbers. Conditions: none.
  Openers of the layer of undoing: described steps, steps, pairs. Conditions: none.
-/
import Derived.Test.YtbiohkncdlhigaaRows
import Derived.Test.YtbiohkncdlhigaaAs
import Derived.Test.YtbiohkncdlhigaaTy
import Derived.ProofKit
import Derived.OpenShut
import Derived.ChangeMaps5
import Derived.Test.YtbiohkncdlhigaaMD11
import Derived.Test.YtbiohkncdlhigaaUv
namespace Go.Proofs.Ytbiohkncdlhigaa
open Go Go.ChangeShapes Go.WideShapes Go.ChangeAt Go.RowKit

theorem Try.own : ownKnob Try.prog.godebug = none := by kernel_rfl
theorem Try.laidOut : laidOutB Try.prog = true := by kernel_rfl

section
variable {H : Type} {enc : TypeId × Value → H} {P : Program}
theorem trodAll_stays (hl : laidOutB P = true) {W W' : World} (hb : Below W.heap.size W W') : ∀ {ts : List TypeId} {vs : List Value} {ds : List (DataW H)} {p : List MemPlace}, (∀ t ∈ ts, P.readableRec t = true ∧ t < P.types.size) →
    DataW.TrodAll enc P W 0 (fun _ => true) true ts vs ds p → (∀ x ∈ p, x.block < W.heap.size) → DataW.TrodAll enc P W' 0 (fun b => decide (b < W.heap.size)) true ts vs ds p
  | [], _, _, _, _, h, _ => by
    obtain ⟨rfl, rfl, rfl⟩ := trodAll_nil h
    rfl
  | t :: ts, _, _, _, hr, h, hlt => by
    obtain ⟨v, vs1, d, ds1, a, b, rfl, rfl, rfl, h1, h2⟩ := trodAll_cons h
    have h3 := hr t (List.mem_cons_self ..)
    exact ⟨a, b, Below.trod hl h3.1 h3.2 h1 hb (fun x hx => hlt x (List.mem_append_left _ hx)), trodAll_stays hl hb (fun t ht => hr t (List.mem_cons_of_mem _ ht)) h2 (fun x hx => hlt x (List.mem_append_right _ hx)), rfl⟩
theorem keptBut_below {W W' : World} (hb : Below W.heap.size W W') (may : MemPlace → Prop) : W.keptBut W' may := by
  refine ⟨hb.os, hb.output, fun i hi => ?_⟩
  rw [hb.block i hi]
  exact (World.keptBut_refl W may).2.2 i hi
theorem law_post {f : Func} {s : ChangeSpec} {W W' : World} {args : Array Value} {ds gs : List (DataW H)} {before : List MemPlace} {tb : TypeId} (hl : laidOutB P = true)
    (hW : DataW.Whole enc P f.params.toList s.vars false W args.toList ds gs before) (hvars : s.vars = []) (hb : Below W.heap.size W W') (hr : f.resultTypes = #[tb]) (htb : P.underlying tb = some .bool)
    (hp : ∀ t ∈ f.params.toList, P.readableRec t = true ∧ t < P.types.size) (hs1 : (s.fn H (ds ++ gs)).results = [.lit (.bool true)]) (hs2 : (s.fn H (ds ++ gs)).args = ds) (hs3 : (s.fn H (ds ++ gs)).vars = []) :
    s.post enc P f false true false false W args (.bool true) W' := by
  have hW' := hW
  obtain ⟨p, q, hA, hV, rfl, hfz, hnd⟩ := hW
  have hlt := hW'.lt
  refine ⟨ds, gs, p ++ q, [], p, [], hW', ?_, ?_, ?_, keptBut_below hb _, fun h => by cases h⟩
  · rw [hr, hs1]
    exact trodAll_mk1 (shut_bool htb true)
  · rw [hs2]
    exact trodAll_stays hl hb hp hA (fun x hx => hlt x (List.mem_append_left _ hx))
  · rw [hvars, hs3]
    have : gs = [] := by
      rw [hvars] at hV
      exact (trodVars_none hV).1
    subst this
    rfl
end
/-! ### What is read at the start lies in the snapshot of the start -/
abbrev snap0 (W : World) : Snap := fun b => W.heap[b]?
theorem snap0_cell (W : World) (a : Addr) : (snap0 W).cell a = W.cell? a := rfl
def Opens {α : Type} (P : Program) (t : TypeId) (L : Lay α) (ok : α → Prop) : Prop :=
  ∀ (H : Type) (enc : TypeId × Value → H) (W : World) (base : Nat) (spare : Nat → Bool) (held : Bool) (fuel : Nat) (cs : List Value) (x : DataW H × List MemPlace), DataW.trod enc P W base spare held fuel t cs = some x → ∃ a, L.rep (snap0 W) a cs ∧ ok a
theorem opens_u8 {P : Program} {t : TypeId} (ht : P.underlying t = some (.int .u8)) : Opens P t U8 isByte := by
  intro H enc W base spare held fuel cs x h
  obtain ⟨n, rfl, _, hw⟩ := DataW.trod_int ht h
  refine ⟨n, rfl, ?_⟩
  simp [Lit.wf] at hw
  have h2 := of_decide_eq_true (p := IntKind.u8.min ≤ n ∧ n ≤ IntKind.u8.max) (by simpa using hw)
  exact h2
theorem build_cells {α : Type} {L : Lay α} {H : Snap} {ok : α → Prop} (f : Nat → Addr) : ∀ n : Nat, (∀ i, i < n → ∃ a c, L.rep H a c ∧ ok a ∧ ∀ j u, c[j]? = some u → H.cell (f (i * L.sz + j)) = some u) →
    ∃ xs cs, xs.length = n ∧ CellsRep H L xs cs ∧ (∀ x ∈ xs, ok x) ∧ ∀ j u, cs[j]? = some u → H.cell (f j) = some u
  | 0, _ => ⟨[], [], rfl, rfl, by simp, by simp⟩
  | n + 1, h => by
    obtain ⟨xs, cs, h1, h2, h3, h4⟩ := build_cells f n fun i hi => h i (by omega)
    obtain ⟨a, c, g1, g2, g3⟩ := h n (by omega)
    refine ⟨xs ++ [a], cs ++ c, by simp [h1], h2.append (CellsRep.one g1), fun x hx => ?_, fun j u hu => ?_⟩
    · rcases List.mem_append.1 hx with hx | hx
      · exact h3 x hx
      · rw [List.mem_singleton] at hx; subst hx; exact g2
    · have hl := h2.length
      rw [h1] at hl
      by_cases hj : j < cs.length
      · rw [List.getElem?_append_left hj] at hu; exact h4 j u hu
      · rw [List.getElem?_append_right (by omega)] at hu
        have := g3 _ u hu
        rwa [show n * L.sz + (j - cs.length) = j by omega] at this
theorem opens_slice {α : Type} {P : Program} {t e : TypeId} {L : Lay α} {ok : α → Prop} (ht : P.underlying t = some (.slice e)) (he : P.cellsOf e = L.sz) (h0 : 0 < L.sz) (ho : Opens P e L ok) {H : Type} {enc : TypeId × Value → H} {W : World} {base : Nat} {spare : Nat → Bool} {held : Bool} {fuel : Nat} {cs : List Value} {x : DataW H × List MemPlace}
    (h : DataW.trod enc P W base spare held fuel t cs = some x) : ∃ v xs, cs = [v] ∧ SliceRep (snap0 W) L v xs ∧ ∀ x ∈ xs, ok x := by
  rcases DataW.trod_slice ht h with ⟨rfl, _⟩ | ⟨a, len, cap, elems, rest, n, _, rfl, _, _, hlc, hcm, hel, hi, _⟩
  · exact ⟨_, [], rfl, SliceRep.nil, by simp⟩
  · rw [he] at hi
    have elem : ∀ i, i < len → ∃ b c, L.rep (snap0 W) b c ∧ ok b ∧ c.length = L.sz ∧ ∀ j, j < L.sz → W.cell? ((a.add (i * L.sz)).add j) = c[j]? := by
      intro i hil
      have h1 := hi i hil
      obtain ⟨y, hy⟩ : ∃ y, elems[i]? = some y := ⟨_, List.getElem?_eq_getElem (by omega)⟩
      rw [hy] at h1
      obtain ⟨c, hc, hx⟩ := Option.bind_eq_some_iff.1 h1
      obtain ⟨b, hb, hok⟩ := ho H enc W base spare held n c y hx
      obtain ⟨_, hcl, hcell⟩ := World.cells?_some hc
      exact ⟨b, c, hb, hok, hcl, hcell⟩
    have hsp : 0 < len → a.spot = none := by
      intro hp
      obtain ⟨b, c, _, _, hcl, hcell⟩ := elem 0 hp
      have h1 := hcell 0 h0
      rw [List.getElem?_eq_getElem (by omega)] at h1
      have e : (a.add (0 * L.sz)).add 0 = a := by simp [Addr.add]
      rw [e] at h1
      unfold World.cell? at h1
      cases hs : a.spot with
      | none => rfl
      | some q =>
        rw [hs] at h1
        split at h1 <;> simp at h1
    have key : ∀ i, i < len → ∃ b c, L.rep (snap0 W) b c ∧ ok b ∧ ∀ j u, c[j]? = some u → (snap0 W).cell (vat (.slice (some a) len cap) (i * L.sz + j)) = some u := by
      intro i hil
      obtain ⟨b, c, hb, hok, hcl, hcell⟩ := elem i hil
      have hs := hsp (by omega)
      refine ⟨b, c, hb, hok, fun j u hu => ?_⟩
      have hj := (List.getElem?_eq_some_iff.1 hu).1
      have h1 := hcell j (by omega)
      rw [hu] at h1
      rw [snap0_cell]
      obtain ⟨bl, off, sp⟩ := a
      simp only at hs
      subst hs
      simpa [vat, Addr.add_lit, Nat.add_assoc] using h1
    obtain ⟨xs, cs, g1, g2, g3, g4⟩ := build_cells (L := L) (H := snap0 W) (ok := ok) (fun j => vat (.slice (some a) len cap) j) len (fun i hil => by
      obtain ⟨b, c, k1, k2, k3⟩ := key i hil
      exact ⟨b, c, k1, k2, k3⟩)
    refine ⟨_, xs, rfl, ⟨⟨some a, cap, by rw [g1], by omega, hcm, fun hp => ?_⟩, cs, g2, g4⟩, g3⟩
    have hs := hsp (by omega)
    obtain ⟨b, off, sp⟩ := a
    simp only at hs
    subst hs
    exact ⟨b, off, rfl⟩
theorem agg_of_struct {P : Program} {W : World} {base : Nat} {r : Reach} {t : TypeId} {fs : Array Field} {v : Value} (ht : P.underlying t = some (.struct fs)) (h : Value.okWide P W r base t v) : ∃ cs, v = .agg cs := by
  unfold Value.okWide at h
  rw [ht] at h
  obtain ⟨cs, h, _⟩ := h
  exact ⟨cs, h⟩
theorem agg_of_array {P : Program} {W : World} {base : Nat} {r : Reach} {t e : TypeId} {n : Nat} {v : Value} (ht : P.underlying t = some (.array n e)) (h : Value.okWide P W r base t v) : ∃ cs, v = .agg cs := by
  unfold Value.okWide at h
  rw [ht] at h
  obtain ⟨cs, h, _⟩ := h
  exact ⟨cs, h⟩
theorem slice_of_ok {P : Program} {W : World} {base : Nat} {r : Reach} {t e : TypeId} {v : Value} (ht : P.underlying t = some (.slice e)) (h : Value.okWide P W r base t v) : v.cells.toList = [v] := by
  unfold Value.okWide at h
  rw [ht] at h
  unfold Cell.okWide Cell.ok at h
  rw [ht] at h
  cases v <;> simp_all [Value.cells]
theorem opens_sl {α : Type} {P : Program} {t e : TypeId} {L : Lay α} {ok : α → Prop} {H : Type} {enc : TypeId × Value → H} {W : World} {base b2 : Nat} {r : Reach} {spare : Nat → Bool} {held : Bool} {v : Value} {d : DataW H} {ps : List MemPlace} (ht : P.underlying t = some (.slice e)) (he : P.cellsOf e = L.sz) (h0 : 0 < L.sz) (ho : Opens P e L ok) (hv : Value.okWide P W r b2 t v)
    (h : DataW.Trod enc P W base spare held t v d ps) : ∃ xs, SliceRep (snap0 W) L v xs ∧ ∀ x ∈ xs, ok x := by
  obtain ⟨fuel, h⟩ := h
  rw [slice_of_ok ht hv] at h
  obtain ⟨v', xs, e1, h1, h2⟩ := opens_slice ht he h0 ho h
  injection e1 with e1
  subst e1
  exact ⟨xs, h1, h2⟩
theorem u8_range {n : Int} (h : (Lit.int .u8 n).wf = true) : isByte n := by
  simp [Lit.wf] at h
  have h2 := of_decide_eq_true (p := IntKind.u8.min ≤ n ∧ n ≤ IntKind.u8.max) (by simpa using h)
  exact h2
theorem i64_range {n : Int} (h : (Lit.int .i64 n).wf = true) : inI64 n := by
  simp [Lit.wf] at h
  have h2 := of_decide_eq_true (p := IntKind.i64.min ≤ n ∧ n ≤ IntKind.i64.max) (by simpa using h)
  exact h2
def isI16 (x : Int) : Prop := -32768 ≤ x ∧ x ≤ 32767
theorem i16_range {n : Int} (h : (Lit.int .i16 n).wf = true) : isI16 n := by
  simp [Lit.wf] at h
  have h2 := of_decide_eq_true (p := IntKind.i16.min ≤ n ∧ n ≤ IntKind.i16.max) (by simpa using h)
  exact h2
theorem i8_range {n : Int} (h : (Lit.int .i8 n).wf = true) : isI8 n := by
  simp [Lit.wf] at h
  have h2 := of_decide_eq_true (p := IntKind.i8.min ≤ n ∧ n ≤ IntKind.i8.max) (by simpa using h)
  exact h2
section
variable {P : Program} {t : TypeId} {H : Type} {enc : TypeId × Value → H} {W : World} {base : Nat} {spare : Nat → Bool} {held : Bool} {fuel : Nat} {cs : List Value} {x : DataW H × List MemPlace}
theorem opens_i64 (ht : P.underlying t = some (.int .i64)) (h : DataW.trod enc P W base spare held fuel t cs = some x) : ∃ n, cs = [.int .i64 n] ∧ inI64 n := by
  obtain ⟨n, rfl, _, hw⟩ := DataW.trod_int ht h
  exact ⟨n, rfl, i64_range hw⟩
theorem opens_i16 (ht : P.underlying t = some (.int .i16)) (h : DataW.trod enc P W base spare held fuel t cs = some x) : ∃ n, cs = [.int .i16 n] ∧ isI16 n := by
  obtain ⟨n, rfl, _, hw⟩ := DataW.trod_int ht h
  exact ⟨n, rfl, i16_range hw⟩
theorem opens_b8 (ht : P.underlying t = some (.int .u8)) (h : DataW.trod enc P W base spare held fuel t cs = some x) : ∃ n, cs = [.int .u8 n] ∧ isByte n := by
  obtain ⟨n, rfl, _, hw⟩ := DataW.trod_int ht h
  exact ⟨n, rfl, u8_range hw⟩
theorem str_of (s : ByteArray) : Value.string s = str s.data.toList := by simp
theorem opens_str (ht : P.underlying t = some .string) (h : DataW.trod enc P W base spare held fuel t cs = some x) : ∃ s : List UInt8, cs = [str s] ∧ s.length ≤ maxLen := by
  obtain ⟨s, rfl, _, hs⟩ := DataW.trod_string ht h
  exact ⟨s.data.toList, by rw [str_of], hs⟩
theorem opens_fields {fs : Array Field} (ht : P.underlying t = some (.struct fs)) (h : DataW.trod enc P W base spare held fuel t cs = some x) :
    ∃ n, cs.length = P.cellsOf t ∧ ∀ (i : Nat) (f : Field), fs[i]? = some f → ∃ y, DataW.trod enc P W base spare held n f.type ((cs.drop f.offset).take (P.cellsOf f.type)) = some y := by
  obtain ⟨xs, n, _, _, hl, hxl, hi⟩ := DataW.trod_struct ht h
  refine ⟨n, hl, fun i f hf => ?_⟩
  have hil := (Array.getElem?_eq_some_iff.1 hf).1
  exact ⟨xs[i]'(by omega), by rw [hi i f hf]; exact List.getElem?_eq_getElem _⟩
theorem opens_elems {e : TypeId} {k : Nat} (ht : P.underlying t = some (.array k e)) (h : DataW.trod enc P W base spare held fuel t cs = some x) :
    ∃ n, cs.length = P.cellsOf t ∧ ∀ i, i < k → ∃ y, DataW.trod enc P W base spare held n e ((cs.drop (i * P.cellsOf e)).take (P.cellsOf e)) = some y := by
  obtain ⟨xs, n, _, _, hl, hxl, hi⟩ := DataW.trod_array ht h
  refine ⟨n, hl, fun i hik => ?_⟩
  exact ⟨xs[i]'(by omega), by rw [hi i hik]; exact List.getElem?_eq_getElem _⟩
end
end Go.Proofs.Ytbiohkncdlhigaa
namespace Go.Proofs.Ytbiohkncdlhigaa
open Go Go.ChangeShapes Go.WideShapes Go.ChangeAt Go.RowKit

set_option maxRecDepth 20000
theorem opens_rw {H : Type} {enc : TypeId × Value → H} {W : World} {base : Nat} {spare : Nat → Bool} {held : Bool} {fuel : Nat} {cs : List Value} {x : DataW H × List MemPlace} (h : DataW.trod enc Try.prog W base spare held fuel 56 cs = some x) :
    ∃ (a : Rw) (v : Value), cs = [.int .u8 a.k, .int .u8 a.a, .int .u8 a.l, .int .u8 a.t, v] ∧ SliceRep (snap0 W) U8 v a.tx ∧ okRw a := by
  obtain ⟨n, hl, hf⟩ := opens_fields Try.underlying56 h
  rw [show Try.prog.cellsOf 56 = 5 by kernel_rfl] at hl
  have cu : Try.prog.cellsOf 5 = 1 := by kernel_rfl
  have cl : Try.prog.cellsOf 54 = 1 := by kernel_rfl
  match cs, hl with
  | [c0, c1, c2, c3, c4], _ =>
    obtain ⟨y0, h0⟩ := hf 0 _ rfl
    obtain ⟨y1, h1⟩ := hf 1 _ rfl
    obtain ⟨y2, h2⟩ := hf 2 _ rfl
    obtain ⟨y3, h3⟩ := hf 3 _ rfl
    obtain ⟨y4, h4⟩ := hf 4 _ rfl
    simp [cu, cl] at h0 h1 h2 h3 h4
    obtain ⟨n0, e0, k0⟩ := opens_b8 Try.underlying5 h0
    obtain ⟨n1, e1, k1⟩ := opens_b8 Try.underlying5 h1
    obtain ⟨n2, e2, k2⟩ := opens_b8 Try.underlying5 h2
    obtain ⟨n3, e3, k3⟩ := opens_b8 Try.underlying5 h3
    obtain ⟨v, xs, e4, k4, k5⟩ := opens_slice Try.underlying54 cu (by decide) (opens_u8 Try.underlying5) h4
    injection e0 with e0; injection e1 with e1; injection e2 with e2; injection e3 with e3; injection e4 with e4
    subst e0; subst e1; subst e2; subst e3; subst e4
    exact ⟨⟨n0, n1, n2, n3, xs⟩, c4, rfl, k4, k0, k1, k2, k3, k5⟩
theorem opens_rwL : Opens Try.prog 56 RwL okRw := by
  intro H enc W base spare held fuel cs x h
  obtain ⟨a, v, e, h1, h2⟩ := opens_rw h
  exact ⟨a, ⟨v, e, h1⟩, h2⟩
theorem opens_rwV {H : Type} {enc : TypeId × Value → H} {W : World} {base : Nat} {spare : Nat → Bool} {held : Bool} {v : Value} {d : DataW H} {ps : List MemPlace} {b2 : Nat} {r : Reach} (hv : Value.okWide Try.prog W r b2 56 v) (h : DataW.Trod enc Try.prog W base spare held 56 v d ps) :
    ∃ (a : Rw) (vl : Value), v = .agg #[.int .u8 a.k, .int .u8 a.a, .int .u8 a.l, .int .u8 a.t, vl] ∧ SliceRep (snap0 W) U8 vl a.tx ∧ okRw a := by
  obtain ⟨cs, rfl⟩ := agg_of_struct Try.underlying56 hv
  obtain ⟨fuel, h⟩ := h
  obtain ⟨a, vl, e, h1, h2⟩ := opens_rw h
  refine ⟨a, vl, ?_, h1, h2⟩
  have : cs.toList = [.int .u8 a.k, .int .u8 a.a, .int .u8 a.l, .int .u8 a.t, vl] := e
  rw [← Array.toArray_toList (xs := cs), this]
theorem opens_edit {H : Type} {enc : TypeId × Value → H} {W : World} {base : Nat} {spare : Nat → Bool} {held : Bool} {v : Value} {d : DataW H} {ps : List MemPlace} {b2 : Nat} {r : Reach} (hv : Value.okWide Try.prog W r b2 31 v) (h : DataW.Trod enc Try.prog W base spare held 31 v d ps) :
    ∃ e : Ed, v = edV e := by
  obtain ⟨cs, rfl⟩ := agg_of_struct Try.underlying31 hv
  obtain ⟨fuel, h⟩ := h
  have h : DataW.trod enc Try.prog W base spare held fuel 31 cs.toList = some (d, ps) := h
  obtain ⟨n, hl, hf⟩ := opens_fields Try.underlying31 h
  rw [show Try.prog.cellsOf 31 = 5 by kernel_rfl] at hl
  have cu : Try.prog.cellsOf 3 = 1 := by kernel_rfl
  have cl : Try.prog.cellsOf 9 = 1 := by kernel_rfl
  rw [← Array.toArray_toList (xs := cs)]
  generalize cs.toList = cs at *
  match cs, hl with
  | [c0, c1, c2, c3, c4], _ =>
    obtain ⟨y0, h0⟩ := hf 0 _ rfl
    obtain ⟨y1, h1⟩ := hf 1 _ rfl
    obtain ⟨y2, h2⟩ := hf 2 _ rfl
    obtain ⟨y3, h3⟩ := hf 3 _ rfl
    obtain ⟨y4, h4⟩ := hf 4 _ rfl
    simp [cu, cl] at h0 h1 h2 h3 h4
    obtain ⟨n0, e0, k0⟩ := opens_i64 Try.underlying3 h0
    obtain ⟨n1, e1, k1⟩ := opens_i64 Try.underlying3 h1
    obtain ⟨n2, e2, k2⟩ := opens_i64 Try.underlying3 h2
    obtain ⟨n3, e3, k3⟩ := opens_i64 Try.underlying3 h3
    obtain ⟨s, e4, k4⟩ := opens_str Try.underlying9 h4
    injection e0 with e0; injection e1 with e1; injection e2 with e2; injection e3 with e3; injection e4 with e4
    subst e0; subst e1; subst e2; subst e3; subst e4
    exact ⟨⟨n0, n1, n2, n3, s⟩, rfl⟩
end Go.Proofs.Ytbiohkncdlhigaa
namespace Go.Proofs.Ytbiohkncdlhigaa
open Go Go.ChangeShapes Go.WideShapes Go.ChangeAt Go.RowKit

set_option maxRecDepth 20000
theorem opens_bool {P : Program} {t : TypeId} {H : Type} {enc : TypeId × Value → H} {W : World} {base : Nat} {spare : Nat → Bool} {held : Bool} {fuel : Nat} {cs : List Value} {x : DataW H × List MemPlace} (ht : P.underlying t = some .bool) (h : DataW.trod enc P W base spare held fuel t cs = some x) : ∃ b, cs = [.bool b] := by
  obtain ⟨b, h1, _⟩ := DataW.trod_bool ht h
  exact ⟨b, h1⟩
set_option maxRecDepth 20000 in
theorem opens_rq {H : Type} {enc : TypeId × Value → H} {W : World} {base : Nat} {spare : Nat → Bool} {held : Bool} {fuel : Nat} {cs : List Value} {x : DataW H × List MemPlace} (h : DataW.trod enc Try.prog W base spare held fuel 58 cs = some x) :
    ∃ (a : Rq) (v : Value), cs = [.int .u8 a.app, .bool a.undo, .int .u8 a.x.k, .int .u8 a.x.a, .int .u8 a.x.l, .int .u8 a.x.t, v] ∧ SliceRep (snap0 W) U8 v a.x.tx ∧ okRq a := by
  obtain ⟨n, hl, hf⟩ := opens_fields Try.underlying58 h
  rw [show Try.prog.cellsOf 58 = 7 by kernel_rfl] at hl
  have cu : Try.prog.cellsOf 5 = 1 := by kernel_rfl
  have cb : Try.prog.cellsOf 4 = 1 := by kernel_rfl
  have cl : Try.prog.cellsOf 56 = 5 := by kernel_rfl
  match cs, hl with
  | [c0, c1, c2, c3, c4, c5, c6], _ =>
    obtain ⟨y0, h0⟩ := hf 0 _ rfl
    obtain ⟨y1, h1⟩ := hf 1 _ rfl
    obtain ⟨y2, h2⟩ := hf 2 _ rfl
    simp [cu, cl, cb] at h0 h1 h2
    obtain ⟨n0, e0, k0⟩ := opens_b8 Try.underlying5 h0
    obtain ⟨n1, e1⟩ := opens_bool Try.underlying4 h1
    obtain ⟨a, v, e2, k2, k3⟩ := opens_rw h2
    injection e0 with e0; injection e1 with e1
    subst e0; subst e1
    exact ⟨⟨n0, n1, a⟩, v, by rw [e2], k2, k0, k3⟩
theorem opens_rqL : Opens Try.prog 58 RqL okRq := by
  intro H enc W base spare held fuel cs x h
  obtain ⟨a, v, e, h1, h2⟩ := opens_rq h
  exact ⟨a, ⟨v, e, h1⟩, h2⟩
theorem opens_rqV {H : Type} {enc : TypeId × Value → H} {W : World} {base : Nat} {spare : Nat → Bool} {held : Bool} {v : Value} {d : DataW H} {ps : List MemPlace} {b2 : Nat} {r : Reach} (hv : Value.okWide Try.prog W r b2 58 v) (h : DataW.Trod enc Try.prog W base spare held 58 v d ps) :
    ∃ (a : Rq) (vl : Value), v = rqV a vl ∧ SliceRep (snap0 W) U8 vl a.x.tx ∧ okRq a := by
  obtain ⟨cs, rfl⟩ := agg_of_struct Try.underlying58 hv
  obtain ⟨fuel, h⟩ := h
  obtain ⟨a, vl, e, h1, h2⟩ := opens_rq h
  refine ⟨a, vl, ?_, h1, h2⟩
  have : cs.toList = [.int .u8 a.app, .bool a.undo, .int .u8 a.x.k, .int .u8 a.x.a, .int .u8 a.x.l, .int .u8 a.x.t, vl] := e
  unfold rqV
  rw [← Array.toArray_toList (xs := cs), this]
set_option maxRecDepth 20000 in
theorem opens_editC {H : Type} {enc : TypeId × Value → H} {W : World} {base : Nat} {spare : Nat → Bool} {held : Bool} {fuel : Nat} {cs : List Value} {x : DataW H × List MemPlace} (h : DataW.trod enc Try.prog W base spare held fuel 31 cs = some x) : ∃ e : Ed, cs = edC e ∧ e.tx.length ≤ maxLen := by
  obtain ⟨n, hl, hf⟩ := opens_fields Try.underlying31 h
  rw [show Try.prog.cellsOf 31 = 5 by kernel_rfl] at hl
  have cu : Try.prog.cellsOf 3 = 1 := by kernel_rfl
  have cl : Try.prog.cellsOf 9 = 1 := by kernel_rfl
  match cs, hl with
  | [c0, c1, c2, c3, c4], _ =>
    obtain ⟨y0, h0⟩ := hf 0 _ rfl
    obtain ⟨y1, h1⟩ := hf 1 _ rfl
    obtain ⟨y2, h2⟩ := hf 2 _ rfl
    obtain ⟨y3, h3⟩ := hf 3 _ rfl
    obtain ⟨y4, h4⟩ := hf 4 _ rfl
    simp [cu, cl] at h0 h1 h2 h3 h4
    obtain ⟨n0, e0, k0⟩ := opens_i64 Try.underlying3 h0
    obtain ⟨n1, e1, k1⟩ := opens_i64 Try.underlying3 h1
    obtain ⟨n2, e2, k2⟩ := opens_i64 Try.underlying3 h2
    obtain ⟨n3, e3, k3⟩ := opens_i64 Try.underlying3 h3
    obtain ⟨s, e4, k4⟩ := opens_str Try.underlying9 h4
    injection e0 with e0; injection e1 with e1; injection e2 with e2; injection e3 with e3; injection e4 with e4
    subst e0; subst e1; subst e2; subst e3; subst e4
    exact ⟨⟨n0, n1, n2, n3, s⟩, rfl, k4⟩
set_option maxRecDepth 20000 in
theorem opens_step {H : Type} {enc : TypeId × Value → H} {W : World} {base : Nat} {spare : Nat → Bool} {held : Bool} {v : Value} {d : DataW H} {ps : List MemPlace} {b2 : Nat} {r : Reach} (hv : Value.okWide Try.prog W r b2 33 v) (h : DataW.Trod enc Try.prog W base spare held 33 v d ps) :
    ∃ s : Stp, v = stpV s ∧ s.e.tx.length ≤ maxLen := by
  obtain ⟨cs, rfl⟩ := agg_of_struct Try.underlying33 hv
  obtain ⟨fuel, h⟩ := h
  have h : DataW.trod enc Try.prog W base spare held fuel 33 cs.toList = some (d, ps) := h
  obtain ⟨n, hl, hf⟩ := opens_fields Try.underlying33 h
  rw [show Try.prog.cellsOf 33 = 8 by kernel_rfl] at hl
  have cu : Try.prog.cellsOf 3 = 1 := by kernel_rfl
  have cb : Try.prog.cellsOf 4 = 1 := by kernel_rfl
  have cl : Try.prog.cellsOf 31 = 5 := by kernel_rfl
  rw [← Array.toArray_toList (xs := cs)]
  generalize cs.toList = cs at *
  match cs, hl with
  | [c0, c1, c2, c3, c4, c5, c6, c7], _ =>
    obtain ⟨y0, h0⟩ := hf 0 _ rfl
    obtain ⟨y1, h1⟩ := hf 1 _ rfl
    obtain ⟨y2, h2⟩ := hf 2 _ rfl
    obtain ⟨y3, h3⟩ := hf 3 _ rfl
    simp [cu, cl, cb] at h0 h1 h2 h3
    obtain ⟨n0, e0, k0⟩ := opens_i64 Try.underlying3 h0
    obtain ⟨n1, e1, k1⟩ := opens_i64 Try.underlying3 h1
    obtain ⟨e, e2, k2⟩ := opens_editC h2
    obtain ⟨u, e3⟩ := opens_bool Try.underlying4 h3
    unfold edC at e2
    injection e0 with e0; injection e1 with e1; injection e3 with e3
    injection e2 with e20 e2; injection e2 with e21 e2; injection e2 with e22 e2; injection e2 with e23 e2; injection e2 with e24 e2
    subst e0; subst e1; subst e3; subst e20; subst e21; subst e22; subst e23; subst e24
    exact ⟨⟨n0, n1, e, u⟩, rfl, k2⟩
theorem opens_u2 {H : Type} {enc : TypeId × Value → H} {W : World} {base : Nat} {spare : Nat → Bool} {held : Bool} {v : Value} {d : DataW H} {ps : List MemPlace} {b2 : Nat} {r : Reach} (hv : Value.okWide Try.prog W r b2 52 v) (h : DataW.Trod enc Try.prog W base spare held 52 v d ps) :
    ∃ a b : Int, v = .agg #[.int .u8 a, .int .u8 b] ∧ isByte a ∧ isByte b := by
  obtain ⟨cs, rfl⟩ := agg_of_array Try.underlying52 hv
  obtain ⟨fuel, h⟩ := h
  have h : DataW.trod enc Try.prog W base spare held fuel 52 cs.toList = some (d, ps) := h
  obtain ⟨n, hl, hf⟩ := opens_elems Try.underlying52 h
  rw [show Try.prog.cellsOf 52 = 2 by kernel_rfl] at hl
  have cu : Try.prog.cellsOf 5 = 1 := by kernel_rfl
  rw [← Array.toArray_toList (xs := cs)]
  generalize cs.toList = cs at *
  match cs, hl with
  | [c0, c1], _ =>
    obtain ⟨y0, h0⟩ := hf 0 (by decide)
    obtain ⟨y1, h1⟩ := hf 1 (by decide)
    simp [cu] at h0 h1
    obtain ⟨n0, e0, k0⟩ := opens_b8 Try.underlying5 h0
    obtain ⟨n1, e1, k1⟩ := opens_b8 Try.underlying5 h1
    injection e0 with e0; injection e1 with e1
    subst e0; subst e1
    exact ⟨n0, n1, rfl, k0, k1⟩
theorem opens_i8w {P : Program} {t : TypeId} {H : Type} {enc : TypeId × Value → H} {W : World} {base : Nat} {spare : Nat → Bool} {held : Bool} {fuel : Nat} {cs : List Value} {x : DataW H × List MemPlace} (ht : P.underlying t = some (.int .i8)) (h : DataW.trod enc P W base spare held fuel t cs = some x) : ∃ n, cs = [.int .i8 n] ∧ isI8 n := by
  obtain ⟨n, rfl, _, hw⟩ := DataW.trod_int ht h
  exact ⟨n, rfl, i8_range hw⟩
theorem opens_s2 {H : Type} {enc : TypeId × Value → H} {W : World} {base : Nat} {spare : Nat → Bool} {held : Bool} {v : Value} {d : DataW H} {ps : List MemPlace} {b2 : Nat} {r : Reach} (hv : Value.okWide Try.prog W r b2 65 v) (h : DataW.Trod enc Try.prog W base spare held 65 v d ps) :
    ∃ a b : Int, v = .agg #[.int .i8 a, .int .i8 b] ∧ isI8 a ∧ isI8 b := by
  obtain ⟨cs, rfl⟩ := agg_of_array Try.underlying65 hv
  obtain ⟨fuel, h⟩ := h
  have h : DataW.trod enc Try.prog W base spare held fuel 65 cs.toList = some (d, ps) := h
  obtain ⟨n, hl, hf⟩ := opens_elems Try.underlying65 h
  rw [show Try.prog.cellsOf 65 = 2 by kernel_rfl] at hl
  have cu : Try.prog.cellsOf 64 = 1 := by kernel_rfl
  rw [← Array.toArray_toList (xs := cs)]
  generalize cs.toList = cs at *
  match cs, hl with
  | [c0, c1], _ =>
    obtain ⟨y0, h0⟩ := hf 0 (by decide)
    obtain ⟨y1, h1⟩ := hf 1 (by decide)
    simp [cu] at h0 h1
    obtain ⟨n0, e0, k0⟩ := opens_i8w Try.underlying64 h0
    obtain ⟨n1, e1, k1⟩ := opens_i8w Try.underlying64 h1
    injection e0 with e0; injection e1 with e1
    subst e0; subst e1
    exact ⟨n0, n1, rfl, k0, k1⟩
end Go.Proofs.Ytbiohkncdlhigaa

/-
  From a contract of a law to its statement (any layer): what is read lies in a snapshot of the start. Conditions: none.
  The plain side of the layer of documents: marks, edits, what an edit does. Conditions: none.
-/
import Derived.Test.YtbiohkncdlhigaaRows
import Derived.Test.YtbiohkncdlhigaaAs
import Derived.Test.YtbiohkncdlhigaaTy
import Derived.ProofKit
import Derived.OpenShut
import Derived.ChangeMaps5
namespace Go.Proofs.Ytbiohkncdlhigaa
open Go Go.ChangeShapes Go.WideShapes Go.ChangeAt Go.RowKit

theorem Try.own : ownKnob Try.prog.godebug = none := by kernel_rfl
theorem Try.laidOut : laidOutB Try.prog = true := by kernel_rfl

section
variable {H : Type} {enc : TypeId × Value → H} {P : Program}
theorem trodAll_stays (hl : laidOutB P = true) {W W' : World} (hb : Below W.heap.size W W') : ∀ {ts : List TypeId} {vs : List Value} {ds : List (DataW H)} {p : List MemPlace}, (∀ t ∈ ts, P.readableRec t = true ∧ t < P.types.size) →
    DataW.TrodAll enc P W 0 (fun _ => true) true ts vs ds p → (∀ x ∈ p, x.block < W.heap.size) → DataW.TrodAll enc P W' 0 (fun b => decide (b < W.heap.size)) true ts vs ds p
  | [], _, _, _, _, h, _ => by
    obtain ⟨rfl, rfl, rfl⟩ := trodAll_nil h
    rfl
  | t :: ts, _, _, _, hr, h, hlt => by
    obtain ⟨v, vs1, d, ds1, a, b, rfl, rfl, rfl, h1, h2⟩ := trodAll_cons h
    have h3 := hr t (List.mem_cons_self ..)
    exact ⟨a, b, Below.trod hl h3.1 h3.2 h1 hb (fun x hx => hlt x (List.mem_append_left _ hx)), trodAll_stays hl hb (fun t ht => hr t (List.mem_cons_of_mem _ ht)) h2 (fun x hx => hlt x (List.mem_append_right _ hx)), rfl⟩
theorem keptBut_below {W W' : World} (hb : Below W.heap.size W W') (may : MemPlace → Prop) : W.keptBut W' may := by
  refine ⟨hb.os, hb.output, fun i hi => ?_⟩
  rw [hb.block i hi]
  exact (World.keptBut_refl W may).2.2 i hi
theorem law_post {f : Func} {s : ChangeSpec} {W W' : World} {args : Array Value} {ds gs : List (DataW H)} {before : List MemPlace} {tb : TypeId} (hl : laidOutB P = true)
    (hW : DataW.Whole enc P f.params.toList s.vars false W args.toList ds gs before) (hvars : s.vars = []) (hb : Below W.heap.size W W') (hr : f.resultTypes = #[tb]) (htb : P.underlying tb = some .bool)
    (hp : ∀ t ∈ f.params.toList, P.readableRec t = true ∧ t < P.types.size) (hs1 : (s.fn H (ds ++ gs)).results = [.lit (.bool true)]) (hs2 : (s.fn H (ds ++ gs)).args = ds) (hs3 : (s.fn H (ds ++ gs)).vars = []) :
    s.post enc P f false true false false W args (.bool true) W' := by
  have hW' := hW
  obtain ⟨p, q, hA, hV, rfl, hfz, hnd⟩ := hW
  have hlt := hW'.lt
  refine ⟨ds, gs, p ++ q, [], p, [], hW', ?_, ?_, ?_, keptBut_below hb _, fun h => by cases h⟩
  · rw [hr, hs1]
    exact trodAll_mk1 (shut_bool htb true)
  · rw [hs2]
    exact trodAll_stays hl hb hp hA (fun x hx => hlt x (List.mem_append_left _ hx))
  · rw [hvars, hs3]
    have : gs = [] := by
      rw [hvars] at hV
      exact (trodVars_none hV).1
    subst this
    rfl
end
/-! ### What is read at the start lies in the snapshot of the start -/
abbrev snap0 (W : World) : Snap := fun b => W.heap[b]?
theorem snap0_cell (W : World) (a : Addr) : (snap0 W).cell a = W.cell? a := rfl
def Opens {α : Type} (P : Program) (t : TypeId) (L : Lay α) (ok : α → Prop) : Prop :=
  ∀ (H : Type) (enc : TypeId × Value → H) (W : World) (base : Nat) (spare : Nat → Bool) (held : Bool) (fuel : Nat) (cs : List Value) (x : DataW H × List MemPlace), DataW.trod enc P W base spare held fuel t cs = some x → ∃ a, L.rep (snap0 W) a cs ∧ ok a
theorem opens_u8 {P : Program} {t : TypeId} (ht : P.underlying t = some (.int .u8)) : Opens P t U8 isByte := by
  intro H enc W base spare held fuel cs x h
  obtain ⟨n, rfl, _, hw⟩ := DataW.trod_int ht h
  refine ⟨n, rfl, ?_⟩
  simp [Lit.wf] at hw
  have h2 := of_decide_eq_true (p := IntKind.u8.min ≤ n ∧ n ≤ IntKind.u8.max) (by simpa using hw)
  exact h2
theorem build_cells {α : Type} {L : Lay α} {H : Snap} {ok : α → Prop} (f : Nat → Addr) : ∀ n : Nat, (∀ i, i < n → ∃ a c, L.rep H a c ∧ ok a ∧ ∀ j u, c[j]? = some u → H.cell (f (i * L.sz + j)) = some u) →
    ∃ xs cs, xs.length = n ∧ CellsRep H L xs cs ∧ (∀ x ∈ xs, ok x) ∧ ∀ j u, cs[j]? = some u → H.cell (f j) = some u
  | 0, _ => ⟨[], [], rfl, rfl, by simp, by simp⟩
  | n + 1, h => by
    obtain ⟨xs, cs, h1, h2, h3, h4⟩ := build_cells f n fun i hi => h i (by omega)
    obtain ⟨a, c, g1, g2, g3⟩ := h n (by omega)
    refine ⟨xs ++ [a], cs ++ c, by simp [h1], h2.append (CellsRep.one g1), fun x hx => ?_, fun j u hu => ?_⟩
    · rcases List.mem_append.1 hx with hx | hx
      · exact h3 x hx
      · rw [List.mem_singleton] at hx; subst hx; exact g2
    · have hl := h2.length
      rw [h1] at hl
      by_cases hj : j < cs.length
      · rw [List.getElem?_append_left hj] at hu; exact h4 j u hu
      · rw [List.getElem?_append_right (by omega)] at hu
        have := g3 _ u hu
        rwa [show n * L.sz + (j - cs.length) = j by omega] at this
theorem opens_slice {α : Type} {P : Program} {t e : TypeId} {L : Lay α} {ok : α → Prop} (ht : P.underlying t = some (.slice e)) (he : P.cellsOf e = L.sz) (h0 : 0 < L.sz) (ho : Opens P e L ok) {H : Type} {enc : TypeId × Value → H} {W : World} {base : Nat} {spare : Nat → Bool} {held : Bool} {fuel : Nat} {cs : List Value} {x : DataW H × List MemPlace}
    (h : DataW.trod enc P W base spare held fuel t cs = some x) : ∃ v xs, cs = [v] ∧ SliceRep (snap0 W) L v xs ∧ ∀ x ∈ xs, ok x := by
  rcases DataW.trod_slice ht h with ⟨rfl, _⟩ | ⟨a, len, cap, elems, rest, n, _, rfl, _, _, hlc, hcm, hel, hi, _⟩
  · exact ⟨_, [], rfl, SliceRep.nil, by simp⟩
  · rw [he] at hi
    have elem : ∀ i, i < len → ∃ b c, L.rep (snap0 W) b c ∧ ok b ∧ c.length = L.sz ∧ ∀ j, j < L.sz → W.cell? ((a.add (i * L.sz)).add j) = c[j]? := by
      intro i hil
      have h1 := hi i hil
      obtain ⟨y, hy⟩ : ∃ y, elems[i]? = some y := ⟨_, List.getElem?_eq_getElem (by omega)⟩
      rw [hy] at h1
      obtain ⟨c, hc, hx⟩ := Option.bind_eq_some_iff.1 h1
      obtain ⟨b, hb, hok⟩ := ho H enc W base spare held n c y hx
      obtain ⟨_, hcl, hcell⟩ := World.cells?_some hc
      exact ⟨b, c, hb, hok, hcl, hcell⟩
    have hsp : 0 < len → a.spot = none := by
      intro hp
      obtain ⟨b, c, _, _, hcl, hcell⟩ := elem 0 hp
      have h1 := hcell 0 h0
      rw [List.getElem?_eq_getElem (by omega)] at h1
      have e : (a.add (0 * L.sz)).add 0 = a := by simp [Addr.add]
      rw [e] at h1
      unfold World.cell? at h1
      cases hs : a.spot with
      | none => rfl
      | some q =>
        rw [hs] at h1
        split at h1 <;> simp at h1
    have key : ∀ i, i < len → ∃ b c, L.rep (snap0 W) b c ∧ ok b ∧ ∀ j u, c[j]? = some u → (snap0 W).cell (vat (.slice (some a) len cap) (i * L.sz + j)) = some u := by
      intro i hil
      obtain ⟨b, c, hb, hok, hcl, hcell⟩ := elem i hil
      have hs := hsp (by omega)
      refine ⟨b, c, hb, hok, fun j u hu => ?_⟩
      have hj := (List.getElem?_eq_some_iff.1 hu).1
      have h1 := hcell j (by omega)
      rw [hu] at h1
      rw [snap0_cell]
      obtain ⟨bl, off, sp⟩ := a
      simp only at hs
      subst hs
      simpa [vat, Addr.add_lit, Nat.add_assoc] using h1
    obtain ⟨xs, cs, g1, g2, g3, g4⟩ := build_cells (L := L) (H := snap0 W) (ok := ok) (fun j => vat (.slice (some a) len cap) j) len (fun i hil => by
      obtain ⟨b, c, k1, k2, k3⟩ := key i hil
      exact ⟨b, c, k1, k2, k3⟩)
    refine ⟨_, xs, rfl, ⟨⟨some a, cap, by rw [g1], by omega, hcm, fun hp => ?_⟩, cs, g2, g4⟩, g3⟩
    have hs := hsp (by omega)
    obtain ⟨b, off, sp⟩ := a
    simp only at hs
    subst hs
    exact ⟨b, off, rfl⟩
theorem agg_of_struct {P : Program} {W : World} {base : Nat} {r : Reach} {t : TypeId} {fs : Array Field} {v : Value} (ht : P.underlying t = some (.struct fs)) (h : Value.okWide P W r base t v) : ∃ cs, v = .agg cs := by
  unfold Value.okWide at h
  rw [ht] at h
  obtain ⟨cs, h, _⟩ := h
  exact ⟨cs, h⟩
theorem agg_of_array {P : Program} {W : World} {base : Nat} {r : Reach} {t e : TypeId} {n : Nat} {v : Value} (ht : P.underlying t = some (.array n e)) (h : Value.okWide P W r base t v) : ∃ cs, v = .agg cs := by
  unfold Value.okWide at h
  rw [ht] at h
  obtain ⟨cs, h, _⟩ := h
  exact ⟨cs, h⟩
theorem slice_of_ok {P : Program} {W : World} {base : Nat} {r : Reach} {t e : TypeId} {v : Value} (ht : P.underlying t = some (.slice e)) (h : Value.okWide P W r base t v) : v.cells.toList = [v] := by
  unfold Value.okWide at h
  rw [ht] at h
  unfold Cell.okWide Cell.ok at h
  rw [ht] at h
  cases v <;> simp_all [Value.cells]
theorem opens_sl {α : Type} {P : Program} {t e : TypeId} {L : Lay α} {ok : α → Prop} {H : Type} {enc : TypeId × Value → H} {W : World} {base b2 : Nat} {r : Reach} {spare : Nat → Bool} {held : Bool} {v : Value} {d : DataW H} {ps : List MemPlace} (ht : P.underlying t = some (.slice e)) (he : P.cellsOf e = L.sz) (h0 : 0 < L.sz) (ho : Opens P e L ok) (hv : Value.okWide P W r b2 t v)
    (h : DataW.Trod enc P W base spare held t v d ps) : ∃ xs, SliceRep (snap0 W) L v xs ∧ ∀ x ∈ xs, ok x := by
  obtain ⟨fuel, h⟩ := h
  rw [slice_of_ok ht hv] at h
  obtain ⟨v', xs, e1, h1, h2⟩ := opens_slice ht he h0 ho h
  injection e1 with e1
  subst e1
  exact ⟨xs, h1, h2⟩
theorem u8_range {n : Int} (h : (Lit.int .u8 n).wf = true) : isByte n := by
  simp [Lit.wf] at h
  have h2 := of_decide_eq_true (p := IntKind.u8.min ≤ n ∧ n ≤ IntKind.u8.max) (by simpa using h)
  exact h2
theorem i64_range {n : Int} (h : (Lit.int .i64 n).wf = true) : inI64 n := by
  simp [Lit.wf] at h
  have h2 := of_decide_eq_true (p := IntKind.i64.min ≤ n ∧ n ≤ IntKind.i64.max) (by simpa using h)
  exact h2
def isI16 (x : Int) : Prop := -32768 ≤ x ∧ x ≤ 32767
theorem i16_range {n : Int} (h : (Lit.int .i16 n).wf = true) : isI16 n := by
  simp [Lit.wf] at h
  have h2 := of_decide_eq_true (p := IntKind.i16.min ≤ n ∧ n ≤ IntKind.i16.max) (by simpa using h)
  exact h2
theorem i8_range {n : Int} (h : (Lit.int .i8 n).wf = true) : isI8 n := by
  simp [Lit.wf] at h
  have h2 := of_decide_eq_true (p := IntKind.i8.min ≤ n ∧ n ≤ IntKind.i8.max) (by simpa using h)
  exact h2
section
variable {P : Program} {t : TypeId} {H : Type} {enc : TypeId × Value → H} {W : World} {base : Nat} {spare : Nat → Bool} {held : Bool} {fuel : Nat} {cs : List Value} {x : DataW H × List MemPlace}
theorem opens_i64 (ht : P.underlying t = some (.int .i64)) (h : DataW.trod enc P W base spare held fuel t cs = some x) : ∃ n, cs = [.int .i64 n] ∧ inI64 n := by
  obtain ⟨n, rfl, _, hw⟩ := DataW.trod_int ht h
  exact ⟨n, rfl, i64_range hw⟩
theorem opens_i16 (ht : P.underlying t = some (.int .i16)) (h : DataW.trod enc P W base spare held fuel t cs = some x) : ∃ n, cs = [.int .i16 n] ∧ isI16 n := by
  obtain ⟨n, rfl, _, hw⟩ := DataW.trod_int ht h
  exact ⟨n, rfl, i16_range hw⟩
theorem opens_b8 (ht : P.underlying t = some (.int .u8)) (h : DataW.trod enc P W base spare held fuel t cs = some x) : ∃ n, cs = [.int .u8 n] ∧ isByte n := by
  obtain ⟨n, rfl, _, hw⟩ := DataW.trod_int ht h
  exact ⟨n, rfl, u8_range hw⟩
theorem str_of (s : ByteArray) : Value.string s = str s.data.toList := by simp
theorem opens_str (ht : P.underlying t = some .string) (h : DataW.trod enc P W base spare held fuel t cs = some x) : ∃ s : List UInt8, cs = [str s] ∧ s.length ≤ maxLen := by
  obtain ⟨s, rfl, _, hs⟩ := DataW.trod_string ht h
  exact ⟨s.data.toList, by rw [str_of], hs⟩
theorem opens_fields {fs : Array Field} (ht : P.underlying t = some (.struct fs)) (h : DataW.trod enc P W base spare held fuel t cs = some x) :
    ∃ n, cs.length = P.cellsOf t ∧ ∀ (i : Nat) (f : Field), fs[i]? = some f → ∃ y, DataW.trod enc P W base spare held n f.type ((cs.drop f.offset).take (P.cellsOf f.type)) = some y := by
  obtain ⟨xs, n, _, _, hl, hxl, hi⟩ := DataW.trod_struct ht h
  refine ⟨n, hl, fun i f hf => ?_⟩
  have hil := (Array.getElem?_eq_some_iff.1 hf).1
  exact ⟨xs[i]'(by omega), by rw [hi i f hf]; exact List.getElem?_eq_getElem _⟩
theorem opens_elems {e : TypeId} {k : Nat} (ht : P.underlying t = some (.array k e)) (h : DataW.trod enc P W base spare held fuel t cs = some x) :
    ∃ n, cs.length = P.cellsOf t ∧ ∀ i, i < k → ∃ y, DataW.trod enc P W base spare held n e ((cs.drop (i * P.cellsOf e)).take (P.cellsOf e)) = some y := by
  obtain ⟨xs, n, _, _, hl, hxl, hi⟩ := DataW.trod_array ht h
  refine ⟨n, hl, fun i hik => ?_⟩
  exact ⟨xs[i]'(by omega), by rw [hi i hik]; exact List.getElem?_eq_getElem _⟩
end
end Go.Proofs.Ytbiohkncdlhigaa
namespace Go.Proofs.Ytbiohkncdlhigaa
open Go Go.RowKit

structure Mk where
  id : Int
  fr : Int
  to_ : Int
  wh : Bool
  deriving DecidableEq
structure Ed where
  k : Int
  at_ : Int
  len : Int
  to_ : Int
  tx : List UInt8
  deriving DecidableEq
abbrev mkC (x : Mk) : List Value := [.int .i64 x.id, .int .i64 x.fr, .int .i64 x.to_, .bool x.wh]
abbrev mkV (x : Mk) : Value := .agg #[.int .i64 x.id, .int .i64 x.fr, .int .i64 x.to_, .bool x.wh]
abbrev MarkL : Lay Mk := Lay.flat 4 mkC (fun _ => rfl) (by simp [one1])
abbrev edV (e : Ed) : Value := .agg #[.int .i64 e.k, .int .i64 e.at_, .int .i64 e.len, .int .i64 e.to_, str e.tx]
theorem SliceRep.mk {H : Snap} {v : Value} {ms : List Mk} (h : SliceRep H MarkL v ms) {k : Nat} {x : Mk} (hx : ms[k]? = some x) : ∀ j u, (mkC x)[j]? = some u → H.cell (vat v (k * 4 + j)) = some u := fun j u hu => h.flat hx hu

def plainP (s : List UInt8) : Prop := ∀ b ∈ s, 32 ≤ b.toNat ∧ b.toNat ≤ 126
instance (s : List UInt8) : Decidable (plainP s) := inferInstanceAs (Decidable (∀ b ∈ s, _))
def possE (e : Ed) (n : Int) : Prop := 0 ≤ e.at_ ∧ e.at_ ≤ n ∧ (e.k = 1 ∧ e.tx ≠ [] ∧ e.tx.length ≤ 40 ∧ plainP e.tx ∨ (e.k = 2 ∨ e.k = 4) ∧ 0 ≤ e.len ∧ e.len ≤ n - e.at_ ∨ e.k = 3 ∧ 0 ≤ e.len ∧ e.len ≤ n - e.at_ ∧ 0 ≤ e.to_ ∧ e.to_ ≤ n - e.len)
instance (e : Ed) (n : Int) : Decidable (possE e n) := inferInstanceAs (Decidable (_ ∧ _))
def insT (s : List UInt8) (i : Nat) (t : List UInt8) : List UInt8 := s.take i ++ t ++ s.drop i
def delT (s : List UInt8) (i n : Nat) : List UInt8 := s.take i ++ s.drop (i + n)
def applyT (s : List UInt8) (e : Ed) : List UInt8 :=
  if e.k = 1 then insT s e.at_.toNat e.tx
  else if e.k = 2 then delT s e.at_.toNat e.len.toNat
  else if e.k = 3 then insT (delT s e.at_.toNat e.len.toNat) e.to_.toNat ((s.take (e.at_.toNat + e.len.toNat)).drop e.at_.toNat)
  else s
def shutP (p at_ n : Int) : Int := if p ≤ at_ then p else if p ≤ at_ + n then at_ else p - n
def openM (m : Mk) (at_ k : Int) : Mk := if m.to_ ≤ at_ then m else if m.fr < at_ then ⟨m.id, m.fr, m.to_ + k, false⟩ else ⟨m.id, m.fr + k, m.to_ + k, m.wh⟩
def withoutM (m : Mk) (at_ n : Int) : Mk := ⟨m.id, shutP m.fr at_ n, shutP m.to_ at_ n, m.wh && decide (shutP m.to_ at_ n - shutP m.fr at_ n = m.to_ - m.fr)⟩
def carryM (m : Mk) (e : Ed) : Mk × Bool :=
  if e.k = 1 then (openM m e.at_ e.tx.length, true)
  else if e.k = 4 ∨ e.len = 0 then (m, true)
  else if e.k = 3 ∧ e.at_ ≤ m.fr ∧ m.to_ ≤ e.at_ + e.len then (⟨m.id, m.fr + e.to_ - e.at_, m.to_ + e.to_ - e.at_, m.wh⟩, true)
  else if (withoutM m e.at_ e.len).fr = (withoutM m e.at_ e.len).to_ then (⟨0, 0, 0, false⟩, false)
  else if e.k = 3 then (openM (withoutM m e.at_ e.len) e.to_ e.len, true)
  else (withoutM m e.at_ e.len, true)
def carryL (ms : List Mk) (e : Ed) : List Mk := ms.filterMap fun m => if (carryM m e).2 then some (carryM m e).1 else none
/-- A mark within a text of n bytes. -/
def okM (n : Int) (m : Mk) : Prop := 0 ≤ m.id ∧ 0 ≤ m.fr ∧ m.fr < m.to_ ∧ m.to_ ≤ n
instance (n : Int) (m : Mk) : Decidable (okM n m) := inferInstanceAs (Decidable (_ ∧ _))
structure Dc where
  tx : List UInt8
  ms : List Mk
  deriving DecidableEq
def validD (d : Dc) : Prop := plainP d.tx ∧ d.tx.length ≤ 400 ∧ d.ms.length ≤ 100 ∧ (∀ m ∈ d.ms, okM d.tx.length m) ∧ d.ms.Pairwise (fun a b => a.id < b.id)
def DocR (H : Snap) (v : Value) (d : Dc) : Prop := ∃ vm, v = .agg #[str d.tx, vm] ∧ SliceRep H MarkL vm d.ms
theorem DocR.mono {H H' : Snap} {v : Value} {d : Dc} (h : DocR H v d) (hle : H.le H') : DocR H' v d := by
  obtain ⟨vm, h1, h2⟩ := h
  exact ⟨vm, h1, h2.mono hle⟩
def doD (d : Dc) (e : Ed) : Dc × Int :=
  if possE e d.tx.length then (if 400 < (applyT d.tx e).length then (⟨[], []⟩, 2) else (⟨applyT d.tx e, carryL d.ms e⟩, 0)) else (⟨[], []⟩, 290)
def hasId (ms : List Mk) (i : Int) : Prop := ∃ m ∈ ms, m.id = i
instance (ms : List Mk) (i : Int) : Decidable (hasId ms i) := inferInstanceAs (Decidable (∃ m ∈ ms, _))
def insM (x : Mk) (ms : List Mk) : List Mk := ms.takeWhile (fun m => decide (m.id < x.id)) ++ x :: ms.dropWhile (fun m => decide (m.id < x.id))
def putD (d : Dc) (i at_ : Int) (t : List UInt8) : Dc × Int :=
  if ¬ possE ⟨1, at_, 0, 0, t⟩ d.tx.length ∨ i < 0 ∨ hasId d.ms i then (⟨[], []⟩, 290)
  else if (doD d ⟨1, at_, 0, 0, t⟩).2 ≠ 0 ∨ 100 ≤ d.ms.length then (⟨[], []⟩, 2)
  else (⟨(doD d ⟨1, at_, 0, 0, t⟩).1.tx, insM ⟨i, at_, at_ + t.length, true⟩ (doD d ⟨1, at_, 0, 0, t⟩).1.ms⟩, 0)

/-! ### Bounds -/
theorem insT_length {s t : List UInt8} {i : Nat} (h : i ≤ s.length) : (insT s i t).length = s.length + t.length := by simp [insT]; omega
theorem delT_length {s : List UInt8} {i n : Nat} (h : i + n ≤ s.length) : (delT s i n).length = s.length - n := by simp [delT]; omega
theorem applyT_length {s : List UInt8} {e : Ed} (h : possE e s.length) : (e.k = 1 → (applyT s e).length = s.length + e.tx.length) ∧ (e.k = 2 → ((applyT s e).length : Int) = s.length - e.len) ∧ (e.k = 3 ∨ e.k = 4 → (applyT s e).length = s.length) := by
  unfold possE at h
  obtain ⟨h1, h2, h3⟩ := h
  unfold applyT
  refine ⟨fun h4 => ?_, fun h4 => ?_, fun h4 => ?_⟩
  · rw [if_pos h4, insT_length (by omega)]
  · rw [if_neg (by omega), if_pos h4, delT_length (by omega)]; omega
  · rcases h4 with h4 | h4
    · rw [if_neg (by omega), if_neg (by omega), if_pos h4, insT_length (by rw [delT_length (by omega)]; omega), delT_length (by omega)]
      simp; omega
    · rw [if_neg (by omega), if_neg (by omega), if_neg (by omega)]
theorem openM_bound {m : Mk} {a k : Int} (h : m.fr < m.to_) (hk : 0 ≤ k) : m.fr ≤ (openM m a k).fr ∧ (openM m a k).fr < (openM m a k).to_ ∧ (openM m a k).to_ ≤ m.to_ + k ∧ (openM m a k).id = m.id := by
  unfold openM
  by_cases h1 : m.to_ ≤ a
  · rw [if_pos h1]; omega
  · rw [if_neg h1]
    by_cases h2 : m.fr < a
    · rw [if_pos h2]; dsimp only; omega
    · rw [if_neg h2]; dsimp only; omega
theorem shutP_bound {p a n : Int} (h0 : 0 ≤ a) (hn : 0 ≤ n) (hp : 0 ≤ p) : 0 ≤ shutP p a n ∧ shutP p a n ≤ p := by
  unfold shutP
  split
  · omega
  · split <;> omega
theorem shutP_mono {p q a n : Int} (hn : 0 ≤ n) (h : p ≤ q) : shutP p a n ≤ shutP q a n := by
  unfold shutP
  split <;> split <;> (try split) <;> (try split) <;> omega
theorem shutP_le {p a n N : Int} (hn : 0 ≤ n) (ha : a ≤ N - n) (hp : p ≤ N) : shutP p a n ≤ N - n := by
  unfold shutP
  split
  · omega
  · split <;> omega
theorem carryM_ok {m : Mk} {e : Ed} {s : List UInt8} (hm : okM s.length m) (h : possE e s.length) (hc : (carryM m e).2 = true) : okM (applyT s e).length (carryM m e).1 ∧ (carryM m e).1.id = m.id := by
  have hl := applyT_length h
  unfold okM at *
  unfold possE at h
  obtain ⟨l1, l2, l3⟩ := hl
  generalize (applyT s e).length = La at *
  unfold carryM at *
  by_cases h1 : e.k = 1
  · rw [if_pos h1] at *
    have := openM_bound (m := m) (a := e.at_) (k := e.tx.length) hm.2.2.1 (by omega)
    have := l1 h1
    dsimp only
    omega
  · rw [if_neg h1] at *
    by_cases h2 : e.k = 4 ∨ e.len = 0
    · rw [if_pos h2] at *
      dsimp only
      by_cases h4 : e.k = 2
      · have := l2 h4; omega
      · have := l3 (by omega); omega
    · rw [if_neg h2] at *
      by_cases h3 : e.k = 3 ∧ e.at_ ≤ m.fr ∧ m.to_ ≤ e.at_ + e.len
      · rw [if_pos h3] at *
        have := l3 (by omega)
        dsimp only
        omega
      · rw [if_neg h3] at *
        have b1 := shutP_bound (p := m.fr) (a := e.at_) (n := e.len) (by omega) (by omega) (by omega)
        have b2 := shutP_mono (p := m.fr) (q := m.to_) (a := e.at_) (n := e.len) (by omega) (by omega)
        have b3 := shutP_le (p := m.to_) (a := e.at_) (n := e.len) (N := s.length) (by omega) (by omega) (by omega)
        have e1 : (withoutM m e.at_ e.len).fr = shutP m.fr e.at_ e.len := rfl
        have e2 : (withoutM m e.at_ e.len).to_ = shutP m.to_ e.at_ e.len := rfl
        have e3 : (withoutM m e.at_ e.len).id = m.id := rfl
        by_cases h4 : (withoutM m e.at_ e.len).fr = (withoutM m e.at_ e.len).to_
        · rw [if_pos h4] at hc; cases hc
        · rw [if_neg h4] at *
          by_cases h5 : e.k = 3
          · rw [if_pos h5] at *
            have := openM_bound (m := withoutM m e.at_ e.len) (a := e.to_) (k := e.len) (by omega) (by omega)
            have := l3 (by omega)
            dsimp only
            omega
          · rw [if_neg h5] at *
            have := l2 (by omega)
            dsimp only
            omega
theorem carryL_ok {ms : List Mk} {e : Ed} {s : List UInt8} (hm : ∀ m ∈ ms, okM s.length m) (h : possE e s.length) : ∀ m ∈ carryL ms e, okM (applyT s e).length m := by
  intro m hmem
  obtain ⟨x, hx, he⟩ := List.mem_filterMap.1 hmem
  split at he
  · rename_i hc
    injection he with he
    subst he
    exact (carryM_ok (hm x hx) h hc).1
  · cases he
theorem carryL_sorted {ms : List Mk} {e : Ed} {s : List UInt8} (hm : ∀ m ∈ ms, okM s.length m) (h : possE e s.length) (hs : ms.Pairwise (fun a b => a.id < b.id)) : (carryL ms e).Pairwise (fun a b => a.id < b.id) := by
  refine List.pairwise_filterMap.2 (List.Pairwise.imp_of_mem ?_ hs)
  intro a b ha hb hab x hx y hy
  split at hx
  · rename_i hc
    injection hx with hx
    subst hx
    split at hy
    · rename_i hc2
      injection hy with hy
      subst hy
      rw [(carryM_ok (hm a ha) h hc).2, (carryM_ok (hm b hb) h hc2).2]; exact hab
    · cases hy
  · cases hx
theorem plain_take {s : List UInt8} (h : plainP s) (n : Nat) : plainP (s.take n) := fun b hb => h b (List.mem_of_mem_take hb)
theorem plain_drop {s : List UInt8} (h : plainP s) (n : Nat) : plainP (s.drop n) := fun b hb => h b (List.mem_of_mem_drop hb)
theorem plain_app {s t : List UInt8} (h : plainP s) (h2 : plainP t) : plainP (s ++ t) := fun b hb => by
  rcases List.mem_append.1 hb with hb | hb
  · exact h b hb
  · exact h2 b hb
theorem applyT_plain {s : List UInt8} {e : Ed} (hs : plainP s) (h : possE e s.length) : plainP (applyT s e) := by
  unfold possE at h
  unfold applyT
  split
  · rename_i h1
    rcases h.2.2 with h3 | h3 | h3
    · exact plain_app (plain_app (plain_take hs _) h3.2.2.2) (plain_drop hs _)
    · omega
    · omega
  · split
    · exact plain_app (plain_take hs _) (plain_drop hs _)
    · split
      · have hd : plainP (delT s e.at_.toNat e.len.toNat) := plain_app (plain_take hs _) (plain_drop hs _)
        exact plain_app (plain_app (plain_take hd _) (plain_drop (plain_take hs _) _)) (plain_drop hd _)
      · exact hs
theorem carryL_length (ms : List Mk) (e : Ed) : (carryL ms e).length ≤ ms.length := List.length_filterMap_le _ _
theorem doD_valid {d : Dc} {e : Ed} (h : validD d) (h0 : (doD d e).2 = 0) : validD (doD d e).1 := by
  unfold doD at *
  split at h0
  · rename_i hp
    split at h0
    · simp at h0
    · rename_i hl
      rw [if_pos hp, if_neg hl]
      obtain ⟨a1, a2, a3, a4, a5⟩ := h
      exact ⟨applyT_plain a1 hp, by simpa using hl, Nat.le_trans (carryL_length _ _) a3, carryL_ok a4 hp, carryL_sorted a4 hp a5⟩
  · simp at h0
end Go.Proofs.Ytbiohkncdlhigaa

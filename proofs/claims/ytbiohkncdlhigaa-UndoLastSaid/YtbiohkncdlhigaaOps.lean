/-
  What the operations do, one lemma each, over slots, snapshots and owned blocks. Conditions: as each lemma names them.
-/
import Derived.Test.YtbiohkncdlhigaaStep
namespace Go.Proofs.Ytbiohkncdlhigaa
open Go Go.RowKit

/-! ### Facts on types -/
class TDesc (P : Program) (T : TypeId) (d : outParam TypeDesc) : Prop where
  h : P.underlying T = some d
class TSz (P : Program) (T : TypeId) (s : outParam Nat) : Prop where
  h : ∀ w, (sizeOf T).run P w = .ok s w
class TAgg (P : Program) (T : TypeId) (b : outParam Bool) : Prop where
  h : ∀ w, (isAgg T).run P w = .ok b w
class TZero (P : Program) (T : TypeId) (z : outParam Value) : Prop where
  h : ∀ w, (zeroValue T).run P w = .ok z w
class TInfo (P : Program) (T : TypeId) (z : outParam Value) (sz bytes : outParam Nat) : Prop where
  h : ∃ i : TypeInfo, P.info? T = some i ∧ i.zero = some z ∧ i.size = sz ∧ i.bytes = bytes
theorem tinfo_of {P : Program} {T : TypeId} {i : TypeInfo} {z : Value} {sz bytes : Nat} (h : P.types[T]? = some i) (hz : i.zero = some z) (hs : i.size = sz) (hb : i.bytes = bytes) : TInfo P T z sz bytes := ⟨i, (by unfold Tables.info?; rw [if_pos (Array.getElem?_eq_some_iff.1 h).1]; exact h), hz, hs, hb⟩
class TFld (P : Program) (T : TypeId) (j : Nat) (off : outParam Nat) : Prop where
  h : ∀ a w, (Instr.fieldAt T (.pointer (some a)) j).run P w = .ok (.pointer (some (a.add off))) w
class TPl (P : Program) (T : TypeId) (pl : outParam (List (Nat × Nat))) : Prop where
  h : ∃ fs : Array Field, P.underlying T = some (.struct fs) ∧ ∀ w, (fs.mapM (fun (f : Field) => (do pure (f.offset, ← sizeOf f.type) : Sem (Nat × Nat)))).run P w = .ok pl.toArray w

theorem tfld_of {P : Program} {T : TypeId} {fs : Array Field} {j off ft : Nat} (s : Nat) (h : P.underlying T = some (.struct fs)) (hj : (fs[j]?).map (fun f => (f.offset, f.type)) = some (off, ft)) (hs : ∀ w, (sizeOf ft).run P w = .ok (s + 1) w) : TFld P T j off := by
  cases hf : fs[j]? with
  | none => rw [hf] at hj; cases hj
  | some fl =>
    rw [hf] at hj
    simp only [Option.map_some, Option.some.injEq, Prod.mk.injEq] at hj
    obtain ⟨rfl, rfl⟩ := hj
    exact ⟨fun a w => by simp [Instr.fieldAt, run_underlying h, hf, Instr.sureAddr, fieldPlace, hs]⟩
def SizesAre (P : Program) : List Field → List (Nat × Nat) → Prop
  | [], [] => True
  | f :: r, p :: q => f.offset = p.1 ∧ TSz P f.type p.2 ∧ SizesAre P r q
  | _, _ => False
theorem run_mapM_sizes {P : Program} : ∀ (fl : List Field) (pl : List (Nat × Nat)), SizesAre P fl pl → ∀ w, (fl.mapM (fun (f : Field) => (do pure (f.offset, ← sizeOf f.type) : Sem (Nat × Nat)))).run P w = .ok pl w
  | [], [], _, w => by simp
  | [], _ :: _, h, _ => h.elim
  | _ :: _, [], h, _ => h.elim
  | f :: r, p :: q, h, w => by
    obtain ⟨h1, h2, h3⟩ := h
    have h4 := run_mapM_sizes r q h3 w
    simp only [List.mapM_cons, Sem.run_bind, h2.h, Result.andThen_ok, Sem.run_pure, h4, h1]
theorem tpl_of {P : Program} {T : TypeId} {fl : List Field} {pl : List (Nat × Nat)} (h : P.underlying T = some (.struct fl.toArray)) (hs : SizesAre P fl pl) : TPl P T pl :=
  ⟨_, h, fun w => by rw [List.mapM_toArray]; simp only [Sem.run_map, run_mapM_sizes fl pl hs w, Result.andThen_ok]⟩

/-! ### Lists written at a place -/
def setAt {α : Type} : List α → Nat → α → Option (List α)
  | [], _, _ => none
  | _ :: r, 0, v => some (v :: r)
  | c :: r, i + 1, v => match setAt r i v with
    | some r' => some (c :: r')
    | none => none
theorem setAt_eq {α : Type} : ∀ (cs : List α) (i : Nat) (v : α) (cs' : List α), setAt cs i v = some cs' → i < cs.length ∧ cs' = cs.set i v
  | [], i, v, cs', h => by cases h
  | c :: r, 0, v, cs', h => by simp [setAt] at h; subst h; simp
  | c :: r, i + 1, v, cs', h => by
    simp only [setAt] at h
    split at h
    · rename_i r' hr
      have h1 := setAt_eq r i v r' hr
      simp at h; subst h
      refine ⟨by simp; omega, by simp [h1.2]⟩
    · cases h
def putAll {α : Type} : List α → Nat → List α → Option (List α)
  | cs, _, [] => some cs
  | cs, o, v :: r => match setAt cs o v with
    | some cs' => putAll cs' (o + 1) r
    | none => none
def cellsL : Value → List Value
  | .agg cs => cs.toList
  | v => [v]
def cellsO : Value → Option (List Value)
  | .agg ⟨l⟩ => some l
  | v => some [v]
theorem cellsO_eq {v : Value} {cs : List Value} (h : cellsO v = some cs) : cellsL v = cs := by
  cases v <;> simp [cellsO, cellsL] at * <;> exact h
theorem cellsL_eq (v : Value) : v.cells = (cellsL v).toArray := by cases v <;> simp [Value.cells, cellsL]

def one1 : Value → Bool
  | .agg _ | .tuple _ => false
  | _ => true
theorem one1_eq {v : Value} (h : one1 v = true) : v.oneCell' = true := by cases v <;> first | rfl | cases h

/-! ### Slices -/
def vat : Value → Nat → Addr
  | .slice (some a) _ _, m => ⟨a.block, a.off + m, none⟩
  | _, m => ⟨0, m, none⟩
theorem vat_add (v : Value) (m off : Nat) : (vat v m).add off = vat v (m + off) := by
  unfold Addr.add
  split
  · rename_i h; subst h; rfl
  · cases v with
    | slice a x y => cases a <;> simp [vat, Nat.add_assoc]
    | _ => simp [vat]
/-- A slice value of a length: nil or not; with an address where it is not empty. -/
def IsSl (v : Value) (len : Nat) : Prop := ∃ A cap, v = .slice A len cap ∧ len ≤ cap ∧ cap ≤ maxLen ∧ (0 < len → ∃ b off, A = some ⟨b, off, none⟩)

theorem IsSl.one1 {v : Value} {len : Nat} (h : IsSl v len) : one1 v = true := by obtain ⟨A, cap, rfl, _⟩ := h; rfl
theorem cellsL_one {v : Value} (h : Go.Proofs.Ytbiohkncdlhigaa.one1 v = true) : cellsL v = [v] := by cases v <;> first | rfl | cases h
theorem IsSl.bound {v : Value} {len : Nat} (h : IsSl v len) : len ≤ 9223372036854775807 := by
  obtain ⟨A, cap, _, h1, h2, _⟩ := h
  simp only [maxLen] at h2
  omega
theorem isSl_nil : IsSl (.slice none 0 0) 0 := ⟨none, 0, rfl, Nat.le_refl _, by simp [maxLen], fun h => absurd h (by omega)⟩

structure Lay (α : Type) where
  sz : Nat
  rep : Snap → α → List Value → Prop
  mono : ∀ {H H' : Snap} {x : α} {c : List Value}, H.le H' → rep H x c → rep H' x c
  len : ∀ {H : Snap} {x : α} {c : List Value}, rep H x c → c.length = sz
  one : ∀ {H : Snap} {x : α} {c : List Value}, rep H x c → ∀ u ∈ c, one1 u = true

/-- Values that hold no address. -/
def Lay.flat {α : Type} (sz : Nat) (enc : α → List Value) (h : ∀ x, (enc x).length = sz) (h1 : ∀ x, ∀ u ∈ enc x, one1 u = true) : Lay α where
  sz := sz
  rep _ x c := c = enc x
  mono _ h := h
  len hc := by rw [hc]; exact h _
  one hc := by rw [hc]; exact h1 _

def CellsRep {α : Type} (H : Snap) (L : Lay α) : List α → List Value → Prop
  | [], cs => cs = []
  | x :: xs, cs => ∃ c r, cs = c ++ r ∧ L.rep H x c ∧ CellsRep H L xs r

section
variable {α : Type} {L : Lay α} {H H' : Snap}
theorem CellsRep.mono (hle : H.le H') : ∀ {xs : List α} {cs : List Value}, CellsRep H L xs cs → CellsRep H' L xs cs
  | [], _, h => h
  | _ :: _, _, ⟨c, r, h1, h2, h3⟩ => ⟨c, r, h1, L.mono hle h2, CellsRep.mono hle h3⟩
theorem CellsRep.length : ∀ {xs : List α} {cs : List Value}, CellsRep H L xs cs → cs.length = xs.length * L.sz
  | [], cs, h => by simp only [CellsRep] at h; subst h; simp
  | x :: xs, cs, ⟨c, r, h1, h2, h3⟩ => by subst h1; rw [List.length_append, L.len h2, CellsRep.length h3, List.length_cons, Nat.succ_mul]; omega
theorem CellsRep.one1 : ∀ {xs : List α} {cs : List Value}, CellsRep H L xs cs → ∀ u ∈ cs, one1 u = true
  | [], cs, h => by simp only [CellsRep] at h; subst h; simp
  | x :: xs, cs, ⟨c, r, h1, h2, h3⟩ => by
    subst h1
    intro u hu
    rcases List.mem_append.1 hu with hu | hu
    · exact L.one h2 u hu
    · exact CellsRep.one1 h3 u hu
theorem CellsRep.append : ∀ {xs ys : List α} {cs ds : List Value}, CellsRep H L xs cs → CellsRep H L ys ds → CellsRep H L (xs ++ ys) (cs ++ ds)
  | [], _, cs, _, h, h' => by simp only [CellsRep] at h; subst h; simpa using h'
  | x :: xs, _, cs, _, ⟨c, r, h1, h2, h3⟩, h' => by subst h1; exact ⟨c, r ++ _, by simp, h2, CellsRep.append h3 h'⟩
theorem CellsRep.one {x : α} {c : List Value} (h : L.rep H x c) : CellsRep H L [x] c := ⟨c, [], by simp, h, rfl⟩
theorem CellsRep.at : ∀ {xs : List α} {cs : List Value}, CellsRep H L xs cs → ∀ {k : Nat} {x : α}, xs[k]? = some x → ∃ c, L.rep H x c ∧ ∀ j u, c[j]? = some u → cs[k * L.sz + j]? = some u
  | [], _, _, k, x, hx => by simp at hx
  | y :: ys, cs, ⟨c, r, h1, h2, h3⟩, 0, x, hx => by
    simp at hx; subst hx; subst h1
    refine ⟨c, h2, fun j u hu => ?_⟩
    rw [Nat.zero_mul, Nat.zero_add, List.getElem?_append_left (List.getElem?_eq_some_iff.1 hu).1]
    exact hu
  | y :: ys, cs, ⟨c, r, h1, h2, h3⟩, k + 1, x, hx => by
    subst h1
    obtain ⟨c', h4, h5⟩ := CellsRep.at h3 (k := k) (x := x) (by simpa using hx)
    refine ⟨c', h4, fun j u hu => ?_⟩
    have h6 := h5 j u hu
    have h7 := L.len h2
    rw [List.getElem?_append_right (by rw [h7, Nat.succ_mul]; omega)]
    rw [← h6]
    congr 1
    rw [h7, Nat.succ_mul]; omega
end

def SliceRep {α : Type} (H : Snap) (L : Lay α) (v : Value) (xs : List α) : Prop :=
  IsSl v xs.length ∧ ∃ cs, CellsRep H L xs cs ∧ ∀ j u, cs[j]? = some u → H.cell (vat v j) = some u

section
variable {α : Type} {L : Lay α} {H H' : Snap} {v : Value} {xs : List α}
theorem SliceRep.mono (hle : H.le H') (h : SliceRep H L v xs) : SliceRep H' L v xs := by
  obtain ⟨h1, cs, h2, h3⟩ := h
  exact ⟨h1, cs, h2.mono hle, fun j u hu => hle.cell (h3 j u hu)⟩
theorem SliceRep.nil : SliceRep H L (.slice none 0 0) [] := ⟨isSl_nil, [], rfl, fun j u hu => by simp at hu⟩
theorem SliceRep.isSl (h : SliceRep H L v xs) : IsSl v xs.length := h.1
theorem SliceRep.at (h : SliceRep H L v xs) {k : Nat} {x : α} (hx : xs[k]? = some x) : ∃ c, L.rep H x c ∧ ∀ j u, c[j]? = some u → H.cell (vat v (k * L.sz + j)) = some u := by
  obtain ⟨h1, cs, h2, h3⟩ := h
  obtain ⟨c, h4, h5⟩ := h2.at hx
  exact ⟨c, h4, fun j u hu => h3 _ _ (h5 j u hu)⟩
theorem SliceRep.flat {sz : Nat} {enc : α → List Value} {he : ∀ x, (enc x).length = sz} {h1 : ∀ x, ∀ u ∈ enc x, one1 u = true} (h : SliceRep H (Lay.flat sz enc he h1) v xs) {k j : Nat} {x : α} {u : Value} (hx : xs[k]? = some x) (hu : (enc x)[j]? = some u) :
    H.cell (vat v (k * sz + j)) = some u := by
  obtain ⟨c, h4, h5⟩ := h.at hx
  simp only [Lay.flat] at h4
  subst h4
  exact h5 j u hu
theorem SliceRep.flat1 {enc : α → List Value} {he : ∀ x, (enc x).length = 1} {h1 : ∀ x, ∀ u ∈ enc x, one1 u = true} (h : SliceRep H (Lay.flat 1 enc he h1) v xs) {k : Nat} {x : α} {u : Value} (hx : xs[k]? = some x) (hu : (enc x)[0]? = some u) :
    H.cell (vat v (k * 1)) = some u := h.flat hx hu
end

abbrev I64 : Lay Int := Lay.flat 1 (fun x => [.int .i64 x]) (fun _ => rfl) (by simp [one1])

/-! ### Finding an owned entry -/
class GetBlk (O : List Own) (b : Nat) (T : outParam TypeId) (cs : outParam (List Value)) : Prop where
  h : .blk b T cs ∈ O
instance (priority := high) {O : List Own} {b : Nat} {T : TypeId} {cs : List Value} : GetBlk (.blk b T cs :: O) b T cs := ⟨List.mem_cons_self ..⟩
instance {O : List Own} {x : Own} {b : Nat} {T : TypeId} {cs : List Value} [i : GetBlk O b T cs] : GetBlk (x :: O) b T cs := ⟨List.mem_cons_of_mem _ i.h⟩
class GetRow (O : List Own) (v : Value) (T : outParam TypeId) (sz : outParam Nat) (n : outParam Nat) (xs : outParam (List Value)) : Prop where
  h : .row T sz v n xs ∈ O
instance (priority := high) {O : List Own} {v : Value} {T : TypeId} {sz n : Nat} {xs : List Value} : GetRow (.row T sz v n xs :: O) v T sz n xs := ⟨List.mem_cons_self ..⟩
instance {O : List Own} {x : Own} {v : Value} {T : TypeId} {sz n : Nat} {xs : List Value} [i : GetRow O v T sz n xs] : GetRow (x :: O) v T sz n xs := ⟨List.mem_cons_of_mem _ i.h⟩
section
variable {P : Program} {E : Ent} {w : World} {Hs : List Snap} {O : List Own}
theorem Mem.cellH {H : Snap} (h : Mem E w Hs O) [i : InH Hs H] {a : Addr} {u : Value} (hc : H.cell a = some u) : w.cell? a = some u :=
  (h.agr H (List.mem_cons_of_mem _ i.h)).cell hc
theorem Mem.cellB (h : Mem E w Hs O) {b : Nat} {T : TypeId} {cs : List Value} [i : GetBlk O b T cs] {o : Nat} {u : Value} (hc : cs[o]? = some u) : w.cell? ⟨b, o, none⟩ = some u := by
  have h1 : Own.holds w (.blk b T cs) := h.own _ i.h
  simp only [Own.holds] at h1
  simp [World.cell?, h1, hc]
theorem row_cell {T : TypeId} {sz n : Nat} {v : Value} {xs : List Value} (h1 : w.ownsRow 0 T sz v n xs) {j : Nat} {u : Value} (hc : xs[j]? = some u) : w.cell? (vat v j) = some u := by
  rcases h1.2 with ⟨rfl, h0⟩ | ⟨g, cap, cur, rfl, _, hh, _, _, _, hx⟩
  · have h2 := h1.1
    subst h0
    simp at h2
    subst h2
    simp at hc
  · have h3 : cur[j]? = some u := by
      rw [← hx] at hc
      have hj : j < n * sz := by
        have := (List.getElem?_eq_some_iff.1 hc).1
        simp at this
        omega
      rw [List.getElem?_take_of_lt hj] at hc
      simpa using hc
    simp [World.cell?, vat, hh, h3]
theorem Mem.cellR (h : Mem E w Hs O) {v : Value} {T : TypeId} {sz n : Nat} {xs : List Value} [i : GetRow O v T sz n xs] {j : Nat} {u : Value} (hc : xs[j]? = some u) : w.cell? (vat v j) = some u :=
  row_cell (h.own _ i.h) hc
theorem row_isSl {T : TypeId} {sz n : Nat} {v : Value} {xs : List Value} (h1 : w.ownsRow 0 T sz v n xs) : IsSl v n := by
  rcases h1.2 with ⟨rfl, h0⟩ | ⟨g, cap, cur, rfl, _, hh, h2, h3, _, hx⟩
  · subst h0; exact isSl_nil
  · exact ⟨_, cap, rfl, h2, h3, fun _ => ⟨g, 0, rfl⟩⟩
end

/-! ### Operations that only look -/
section
variable {P : Program} {E : Ent} {Hs : List Snap} {O : List Own} {l : Env}

theorem QF.move {x : Operand} {v : Value} (hx : opv l x = some v) : QF P l (.move x) v := by
  intro o ho ρ hρ w; simp only [execOp, ho, hρ x v hx]; rfl
theorem QF.assign {x : Operand} {v : Value} (hx : opv l x = some v) : QF P l (.assign x) v := by
  intro o ho ρ hρ w; simp only [execOp, ho, hρ x v hx]; rfl
theorem QF.pick_t {c a b : Operand} {v : Value} (hc : opv l c = some (.bool true)) (ha : opv l a = some v) : QF P l (.pick c a b) v := by
  intro o ho ρ hρ w; simp only [execOp, ho, hρ _ _ hc, hρ _ _ ha]; rfl
theorem QF.pick_f {c a b : Operand} {v : Value} (hc : opv l c = some (.bool false)) (hb : opv l b = some v) : QF P l (.pick c a b) v := by
  intro o ho ρ hρ w; simp only [execOp, ho, hρ _ _ hc, hρ _ _ hb]; rfl
theorem QF.nilCheck {x : Operand} {a : Addr} (hx : opv l x = some (.pointer (some a))) : QF P l (.nilCheck x) (.pointer (some a)) := by
  intro o ho ρ hρ w; simp only [execOp, ho, hρ x _ hx]; rfl
theorem QF.extract {x : Operand} {vs : Array Value} {i : Nat} {v : Value} (hx : opv l x = some (.tuple vs)) (hv : vs[i]? = some v) : QF P l (.extract x i) v := by
  intro o ho ρ hρ w; simp [execOp, ho, hρ x _ hx, Instr.extract, hv]

/-! numbers -/
def inI64 (z : Int) : Prop := -9223372036854775808 ≤ z ∧ z ≤ 9223372036854775807
theorem wrap_i64 {z : Int} (h : inI64 z) : IntKind.i64.wrap z = z := IntWalk.i64_in z h
theorem QF.add {T T' : TypeId} {x y : Operand} {k : IntKind} {a b : Int} (hx : opv l x = some (.int k a)) (hy : opv l y = some (.int k b)) : QF P l (.binOp .add T x y T') (.int k (k.wrap (a + b))) := by
  intro o ho ρ hρ w; simp [execOp, ho, hρ _ _ hx, hρ _ _ hy, eqGuard_add, binOp_add, Op.intArith]
theorem QF.sub {T T' : TypeId} {x y : Operand} {k : IntKind} {a b : Int} (hx : opv l x = some (.int k a)) (hy : opv l y = some (.int k b)) : QF P l (.binOp .sub T x y T') (.int k (k.wrap (a - b))) := by
  intro o ho ρ hρ w; simp [execOp, ho, hρ _ _ hx, hρ _ _ hy, eqGuard_sub, binOp_sub, Op.intArith]
theorem QF.mul {T T' : TypeId} {x y : Operand} {k : IntKind} {a b : Int} (hx : opv l x = some (.int k a)) (hy : opv l y = some (.int k b)) : QF P l (.binOp .mul T x y T') (.int k (k.wrap (a * b))) := by
  intro o ho ρ hρ w; simp [execOp, ho, hρ _ _ hx, hρ _ _ hy, eqGuard_mul, binOp_mul, Op.intArith]
theorem QF.addI {T T' : TypeId} {x y : Operand} {a b : Int} (hx : opv l x = some (.int .i64 a)) (hy : opv l y = some (.int .i64 b)) (h : inI64 (a + b)) : QF P l (.binOp .add T x y T') (.int .i64 (a + b)) := by
  have := QF.add (P := P) (T := T) (T' := T') hx hy; rwa [wrap_i64 h] at this
theorem QF.subI {T T' : TypeId} {x y : Operand} {a b : Int} (hx : opv l x = some (.int .i64 a)) (hy : opv l y = some (.int .i64 b)) (h : inI64 (a - b)) : QF P l (.binOp .sub T x y T') (.int .i64 (a - b)) := by
  have := QF.sub (P := P) (T := T) (T' := T') hx hy; rwa [wrap_i64 h] at this
theorem QF.mulI {T T' : TypeId} {x y : Operand} {a b : Int} (hx : opv l x = some (.int .i64 a)) (hy : opv l y = some (.int .i64 b)) (h : inI64 (a * b)) : QF P l (.binOp .mul T x y T') (.int .i64 (a * b)) := by
  have := QF.mul (P := P) (T := T) (T' := T') hx hy; rwa [wrap_i64 h] at this
theorem QF.rem {T T' : TypeId} {x y : Operand} {k : IntKind} {a b : Int} (hx : opv l x = some (.int k a)) (hy : opv l y = some (.int k b)) (h0 : 0 ≤ a) (h1 : 1 ≤ b) : QF P l (.binOp .rem T x y T') (.int k (a % b)) := by
  intro o ho ρ hρ w
  have hb : b ≠ 0 := by omega
  simp [execOp, ho, hρ _ _ hx, hρ _ _ hy, eqGuard_rem, binOp_rem, Op.intDiv, hb, Int.tmod_eq_emod_of_nonneg h0]
theorem QF.quo {T T' : TypeId} {x y : Operand} {a b : Int} (hx : opv l x = some (.int .i64 a)) (hy : opv l y = some (.int .i64 b)) (h0 : 0 ≤ a) (h1 : 1 ≤ b) (h2 : a ≤ 9223372036854775807) : QF P l (.binOp .quo T x y T') (.int .i64 (a / b)) := by
  intro o ho ρ hρ w
  have hb : b ≠ 0 := by omega
  have h3 : a.tdiv b = a / b := Int.tdiv_eq_ediv_of_nonneg h0
  have h4 : 0 ≤ a / b := Int.ediv_nonneg h0 (by omega)
  have h5 : a / b ≤ a := Int.ediv_le_self _ h0
  simp [execOp, ho, hρ _ _ hx, hρ _ _ hy, eqGuard_quo, binOp_quo, Op.intDiv, hb, h3]
  exact wrap_i64 ⟨by omega, by omega⟩
theorem QF.lss {T T' : TypeId} {x y : Operand} {k : IntKind} {a b : Int} (hx : opv l x = some (.int k a)) (hy : opv l y = some (.int k b)) : QF P l (.binOp .lss T x y T') (.bool (decide (a < b))) := by
  intro o ho ρ hρ w; simp [execOp, ho, hρ _ _ hx, hρ _ _ hy, eqGuard_lss, binOp_lss]
theorem QF.leq {T T' : TypeId} {x y : Operand} {k : IntKind} {a b : Int} (hx : opv l x = some (.int k a)) (hy : opv l y = some (.int k b)) : QF P l (.binOp .leq T x y T') (.bool (decide (a ≤ b))) := by
  intro o ho ρ hρ w; simp [execOp, ho, hρ _ _ hx, hρ _ _ hy, eqGuard_leq, binOp_leq]
theorem QF.gtr {T T' : TypeId} {x y : Operand} {k : IntKind} {a b : Int} (hx : opv l x = some (.int k a)) (hy : opv l y = some (.int k b)) : QF P l (.binOp .gtr T x y T') (.bool (decide (b < a))) := by
  intro o ho ρ hρ w; simp [execOp, ho, hρ _ _ hx, hρ _ _ hy, eqGuard_gtr, binOp_gtr]
theorem QF.geq {T T' : TypeId} {x y : Operand} {k : IntKind} {a b : Int} (hx : opv l x = some (.int k a)) (hy : opv l y = some (.int k b)) : QF P l (.binOp .geq T x y T') (.bool (decide (b ≤ a))) := by
  intro o ho ρ hρ w; simp [execOp, ho, hρ _ _ hx, hρ _ _ hy, eqGuard_geq, binOp_geq]
theorem QF.eql {T T' : TypeId} {x y : Operand} {k : IntKind} {a b : Int} (hx : opv l x = some (.int k a)) (hy : opv l y = some (.int k b)) : QF P l (.binOp .eql T x y T') (.bool (decide (a = b))) := by
  intro o ho ρ hρ w
  simp [execOp, ho, hρ _ _ hx, hρ _ _ hy, eqGuard_at_int, binOp_eql]
  rw [Bool.eq_iff_iff]; simp
theorem QF.neq {T T' : TypeId} {x y : Operand} {k : IntKind} {a b : Int} (hx : opv l x = some (.int k a)) (hy : opv l y = some (.int k b)) : QF P l (.binOp .neq T x y T') (.bool (decide (a ≠ b))) := by
  intro o ho ρ hρ w
  simp [execOp, ho, hρ _ _ hx, hρ _ _ hy, eqGuard_at_int, binOp_neq]
  rw [Bool.eq_iff_iff]; simp
theorem QF.not {T : TypeId} {x : Operand} {b : Bool} (hx : opv l x = some (.bool b)) : QF P l (.unOp .not T x) (.bool (!b)) := by
  intro o ho ρ hρ w; simp [execOp, ho, hρ _ _ hx, Op.unary]
theorem QF.conv {s t : TypeId} {x : Operand} {k k' : IntKind} {a : Int} [i : TDesc P s (.int k)] [j : TDesc P t (.int k')] (hx : opv l x = some (.int k a)) : QF P l (.convert s t x) (.int k' (k'.wrap a)) := by
  intro o ho ρ hρ w; simp [execOp, ho, hρ _ _ hx, convert, run_underlying i.h, run_underlying j.h, Conv.intToInt]
theorem QF.convI {s t : TypeId} {x : Operand} {k : IntKind} {a : Int} [i : TDesc P s (.int k)] [j : TDesc P t (.int .i64)] (hx : opv l x = some (.int k a)) (h : inI64 a) : QF P l (.convert s t x) (.int .i64 a) := by
  have := QF.conv (P := P) (s := s) (t := t) (k := k) (k' := .i64) hx; rwa [wrap_i64 h] at this

/-! memory -/
theorem run_loadVar_one {T : TypeId} {a : Addr} {u : Value} {w : World} [i : TAgg P T false] (h : w.cell? a = some u) : (loadVar T a).run P w = .ok u w := by
  simp [loadVar, i.h, h]
theorem QV.loadB {T T' : TypeId} {x : Operand} {b o : Nat} {cs : List Value} {u : Value} [i : TAgg P T false] (hx : opv l x = some (.pointer (some ⟨b, o, none⟩))) [g : GetBlk O b T' cs] (hc : cs[o]? = some u) : QV P E Hs O l (.load T x) u := by
  intro o' ho ρ hρ w hm
  simp [execOp, ho, hρ _ _ hx, Instr.loadAt, Instr.sureAddr, run_loadVar_one (hm.cellB hc)]
theorem QV.loadH {T : TypeId} {x : Operand} {a : Addr} {H : Snap} {u : Value} [i : TAgg P T false] (hx : opv l x = some (.pointer (some a))) (hc : H.cell a = some u) [g : InH Hs H] : QV P E Hs O l (.load T x) u := by
  intro o' ho ρ hρ w hm
  simp [execOp, ho, hρ _ _ hx, Instr.loadAt, Instr.sureAddr, run_loadVar_one (hm.cellH hc)]
theorem QV.loadR {T T' : TypeId} {x : Operand} {v : Value} {sz m j : Nat} {xs : List Value} {u : Value} [i : TAgg P T false] (hx : opv l x = some (.pointer (some (vat v j)))) [g : GetRow O v T' sz m xs] (hc : xs[j]? = some u) : QV P E Hs O l (.load T x) u := by
  intro o' ho ρ hρ w hm
  simp [execOp, ho, hρ _ _ hx, Instr.loadAt, Instr.sureAddr, run_loadVar_one (hm.cellR hc)]
theorem run_loadVar_agg {T : TypeId} {a : Addr} {c : List Value} {w : World} [i : TAgg P T true] [s : TSz P T c.length] (h : ∀ j u, c[j]? = some u → w.cell? (a.add j) = some u) : (loadVar T a).run P w = .ok (.agg c.toArray) w := by
  have h1 := run_loadCells_list (P := P) (w := w) a c h
  simp [loadVar, i.h, s.h, h1]
theorem QV.loadBs {T T' : TypeId} {x : Operand} {b : Nat} {cs : List Value} [i : TAgg P T true] (hx : opv l x = some (.pointer (some ⟨b, 0, none⟩))) [g : GetBlk O b T' cs] [s : TSz P T cs.length] : QV P E Hs O l (.load T x) (.agg cs.toArray) := by
  intro o' ho ρ hρ w hm
  have h1 : (loadVar T ⟨b, 0, none⟩).run P w = .ok (.agg cs.toArray) w := run_loadVar_agg (fun j u hj => by
    have h2 := hm.cellB (i := g) hj
    by_cases h0 : j = 0
    · subst h0; simpa [Addr.add] using h2
    · simpa [Addr.add, h0] using h2)
  simp [execOp, ho, hρ _ _ hx, Instr.loadAt, Instr.sureAddr, h1]
theorem QV.loadHs {T : TypeId} {x : Operand} {v : Value} {m : Nat} {H : Snap} {c : List Value} [i : TAgg P T true] [s : TSz P T c.length] (hx : opv l x = some (.pointer (some (vat v m)))) (hc : ∀ j u, c[j]? = some u → H.cell (vat v (m + j)) = some u) [g : InH Hs H] : QV P E Hs O l (.load T x) (.agg c.toArray) := by
  intro o' ho ρ hρ w hm
  have h1 : (loadVar T (vat v m)).run P w = .ok (.agg c.toArray) w := run_loadVar_agg (fun j u hj => by rw [vat_add]; exact hm.cellH (hc j u hj))
  simp [execOp, ho, hρ _ _ hx, Instr.loadAt, Instr.sureAddr, h1]
theorem QV.loadRs {T T' : TypeId} {x : Operand} {v : Value} {sz m j : Nat} {xs c : List Value} [i : TAgg P T true] [s : TSz P T c.length] (hx : opv l x = some (.pointer (some (vat v m)))) [g : GetRow O v T' sz j xs] (hc : ∀ i u, c[i]? = some u → xs[m + i]? = some u) : QV P E Hs O l (.load T x) (.agg c.toArray) := by
  intro o' ho ρ hρ w hm
  have h1 : (loadVar T (vat v m)).run P w = .ok (.agg c.toArray) w := run_loadVar_agg (fun j u hj => by rw [vat_add]; exact hm.cellR (hc j u hj))
  simp [execOp, ho, hρ _ _ hx, Instr.loadAt, Instr.sureAddr, h1]

theorem QF.fieldB {T : TypeId} {x : Operand} {j off b o : Nat} [i : TFld P T j off] (hx : opv l x = some (.pointer (some ⟨b, o, none⟩))) : QF P l (.fieldAddr T x j) (.pointer (some ⟨b, o + off, none⟩)) := by
  intro o' ho ρ hρ w
  have : (⟨b, o, none⟩ : Addr).add off = ⟨b, o + off, none⟩ := Addr.add_lit b o off
  simp [execOp, ho, hρ _ _ hx, i.h, this]
theorem QF.fieldV {T : TypeId} {x : Operand} {j off m : Nat} {v : Value} [i : TFld P T j off] (hx : opv l x = some (.pointer (some (vat v m)))) : QF P l (.fieldAddr T x j) (.pointer (some (vat v (m + off)))) := by
  intro o' ho ρ hρ w
  simp [execOp, ho, hρ _ _ hx, i.h, vat_add]

theorem QF.index {T e : TypeId} {x ix : Operand} {v : Value} {kd : IntKind} {len j s : Nat} {i : Int} (hx : opv l x = some v) (hi : opv l ix = some (.int kd i)) (hs : IsSl v len) (hj : i = (j : Int)) (hlt : j < len) [t : TDesc P T (.slice e)] [z : TSz P e s] :
    QF P l (.indexAddr T x ix) (.pointer (some (vat v (j * s)))) := by
  intro o' ho ρ hρ w
  obtain ⟨A, cap, rfl, h1, h2, h3⟩ := hs
  obtain ⟨b, off, rfl⟩ := h3 (by omega)
  subst hj
  have h6 : ¬ len ≤ j := by omega
  have h5 : (⟨b, off, none⟩ : Addr).add (j * s) = vat (.slice (some ⟨b, off, none⟩) len cap) (j * s) := by rw [Addr.add_lit]; rfl
  simp [execOp, ho, hρ _ _ hx, hρ _ _ hi, Instr.indexAt, asIntOf, run_underlying t.h, z.h, h5, h6]
theorem QF.indexArr {T e : TypeId} {x ix : Operand} {v : Value} {kd : IntKind} {len j s m : Nat} {i : Int} (hx : opv l x = some (.pointer (some (vat v m)))) (hi : opv l ix = some (.int kd i)) (hj : i = (j : Int)) (hlt : j < len) [t : TDesc P T (.array len e)] [z : TSz P e s] :
    QF P l (.indexAddr T x ix) (.pointer (some (vat v (m + j * s)))) := by
  intro o' ho ρ hρ w
  subst hj
  have h6 : ¬ len ≤ j := by omega
  simp [execOp, ho, hρ _ _ hx, hρ _ _ hi, Instr.indexAt, asIntOf, run_underlying t.h, z.h, Instr.sureAddr, h6, vat_add]
theorem QF.indexT {T e : TypeId} {x ix : Operand} {v : Value} {kd : IntKind} {len s : Nat} {i : Int} (hx : opv l x = some v) (hi : opv l ix = some (.int kd i)) (hs : IsSl v len) (hj : 0 ≤ i ∧ i.toNat < len) [t : TDesc P T (.slice e)] [z : TSz P e s] :
    QF P l (.indexAddr T x ix) (.pointer (some (vat v (i.toNat * s)))) := QF.index hx hi hs (by omega) hj.2
theorem QV.indexRT {T T' e : TypeId} {x ix : Operand} {v : Value} {kd : IntKind} {sz len s : Nat} {xs : List Value} {i : Int} (hx : opv l x = some v) (hi : opv l ix = some (.int kd i)) [g : GetRow O v T' sz len xs] (hj : 0 ≤ i ∧ i.toNat < len) [t : TDesc P T (.slice e)] [z : TSz P e s] :
    QV P E Hs O l (.indexAddr T x ix) (.pointer (some (vat v (i.toNat * s)))) := fun o' ho ρ hρ w hm => QF.indexT hx hi (row_isSl (hm.own _ g.h)) hj o' ho ρ hρ w
theorem QF.indexArrT {T e : TypeId} {x ix : Operand} {v : Value} {kd : IntKind} {len s m : Nat} {i : Int} (hx : opv l x = some (.pointer (some (vat v m)))) (hi : opv l ix = some (.int kd i)) (hj : 0 ≤ i ∧ i.toNat < len) [t : TDesc P T (.array len e)] [z : TSz P e s] :
    QF P l (.indexAddr T x ix) (.pointer (some (vat v (m + i.toNat * s)))) := QF.indexArr hx hi (by omega) hj.2
theorem QF.min {x y : Operand} {ts : Array TypeId} {k : IntKind} {a b : Int} (hx : opv l x = some (.int k a)) (hy : opv l y = some (.int k b)) : QF P l (.call ⟨.builtin .min, #[x, y], ts⟩) (.int k (if b < a then b else a)) := by
  intro o' ho ρ hρ w
  simp [execOp, ho, resolve, invoke, builtin, hρ _ _ hx, hρ _ _ hy, Builtin.min_, Builtin.min2]
theorem QF.max {x y : Operand} {ts : Array TypeId} {k : IntKind} {a b : Int} (hx : opv l x = some (.int k a)) (hy : opv l y = some (.int k b)) : QF P l (.call ⟨.builtin .max, #[x, y], ts⟩) (.int k (if a < b then b else a)) := by
  intro o' ho ρ hρ w
  simp [execOp, ho, resolve, invoke, builtin, hρ _ _ hx, hρ _ _ hy, Builtin.max_, Builtin.max2]
theorem QF.len {x : Operand} {v : Value} {len : Nat} {T e : TypeId} (hx : opv l x = some v) (hs : IsSl v len) [t : TDesc P T (.slice e)] : QF P l (.call ⟨.builtin .len, #[x], #[T]⟩) (.int .i64 (len : Int)) := by
  intro o' ho ρ hρ w
  obtain ⟨A, cap, rfl, h1, h2, h3⟩ := hs
  simp [execOp, ho, resolve, invoke, builtin, hρ _ _ hx, Builtin.len_, run_underlying t.h, goInt]
theorem QV.lenR {x : Operand} {v : Value} {T T' e : TypeId} {sz m : Nat} {xs : List Value} (hx : opv l x = some v) [g : GetRow O v T' sz m xs] [t : TDesc P T (.slice e)] : QV P E Hs O l (.call ⟨.builtin .len, #[x], #[T]⟩) (.int .i64 (m : Int)) := by
  intro o' ho ρ hρ w hm
  exact QF.len hx (row_isSl (hm.own _ g.h)) o' ho ρ hρ w
theorem QV.indexR {T T' e : TypeId} {x ix : Operand} {v : Value} {kd : IntKind} {sz len j s : Nat} {xs : List Value} {i : Int} (hx : opv l x = some v) (hi : opv l ix = some (.int kd i)) [g : GetRow O v T' sz len xs] (hj : i = (j : Int)) (hlt : j < len) [t : TDesc P T (.slice e)] [z : TSz P e s] :
    QV P E Hs O l (.indexAddr T x ix) (.pointer (some (vat v (j * s)))) := by
  intro o' ho ρ hρ w hm
  exact QF.index hx hi (row_isSl (hm.own _ g.h)) hj hlt o' ho ρ hρ w

end
end Go.Proofs.Ytbiohkncdlhigaa

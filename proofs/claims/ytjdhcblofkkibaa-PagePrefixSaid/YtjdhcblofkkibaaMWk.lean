/-
  More openers: signed bytes, a graph. Conditions: none.
  Openers of the layer of proofs: lists of numbers, triples of signed bytes, spoils. Conditions: none.
  Openers of the layer of pages: four bytes, two triples of bytes. Conditions: none.
  More words for the walks: scopes, calls that hand on all that is owned, two operations of a drawn region that are ready at once, a row that is frozen beside what the caller owns. Conditions: as each lemma names them.
-/
import Derived.Test.YtjdhcblofkkibaaMTop
import Derived.Test.YtjdhcblofkkibaaMDx
import Derived.Test.YtjdhcblofkkibaaAs
namespace Go.Proofs.Ytjdhcblofkkibaa
open Go Go.ChangeShapes Go.WideShapes Go.ChangeAt Go.RowKit

theorem opens_i8 {P : Program} {t : TypeId} (ht : P.underlying t = some (.int .i8)) : Opens P t I8 isI8 := by
  intro H enc W base spare held fuel cs x h
  obtain ⟨n, rfl, _, hw⟩ := DataW.trod_int ht h
  refine ⟨n, rfl, ?_⟩
  simp [Lit.wf] at hw
  have h2 := of_decide_eq_true (p := IntKind.i8.min ≤ n ∧ n ≤ IntKind.i8.max) (by simpa using hw)
  exact h2
theorem i8_range {n : Int} (h : (Lit.int .i8 n).wf = true) : isI8 n := by
  simp [Lit.wf] at h
  have h2 := of_decide_eq_true (p := IntKind.i8.min ≤ n ∧ n ≤ IntKind.i8.max) (by simpa using h)
  exact h2
theorem i64_range {n : Int} (h : (Lit.int .i64 n).wf = true) : inI64 n := by
  simp [Lit.wf] at h
  have h2 := of_decide_eq_true (p := IntKind.i64.min ≤ n ∧ n ≤ IntKind.i64.max) (by simpa using h)
  exact h2
theorem opens_i64 {P : Program} {t : TypeId} (ht : P.underlying t = some (.int .i64)) {H : Type} {enc : TypeId × Value → H} {W : World} {base : Nat} {spare : Nat → Bool} {held : Bool} {fuel : Nat} {cs : List Value} {x : DataW H × List MemPlace}
    (h : DataW.trod enc P W base spare held fuel t cs = some x) : ∃ n, cs = [.int .i64 n] ∧ inI64 n := by
  obtain ⟨n, rfl, _, hw⟩ := DataW.trod_int ht h
  exact ⟨n, rfl, i64_range hw⟩
def lnkIn (x : Lnk) : Prop := inI64 x.f ∧ inI64 x.t ∧ inI64 x.lab ∧ inI64 x.c
set_option maxRecDepth 20000 in
theorem opens_link : Opens Try.prog 58 LinkL lnkIn := by
  intro H enc W base spare held fuel cs x h
  obtain ⟨xs, n, _, _, hl, hxl, hi⟩ := DataW.trod_struct Try.underlying58 h
  rw [show Try.prog.cellsOf 58 = 4 by kernel_rfl] at hl
  match cs, hl with
  | [a, b, c, d], _ =>
    have g : ∀ i, i < 4 → ∃ y, xs[i]? = some y := fun i h => ⟨_, List.getElem?_eq_getElem (by simp at hxl; omega)⟩
    obtain ⟨y0, hy0⟩ := g 0 (by omega)
    obtain ⟨y1, hy1⟩ := g 1 (by omega)
    obtain ⟨y2, hy2⟩ := g 2 (by omega)
    obtain ⟨y3, hy3⟩ := g 3 (by omega)
    have ci : Try.prog.cellsOf 3 = 1 := by kernel_rfl
    have e0 := hi 0 _ rfl
    have e1 := hi 1 _ rfl
    have e2 := hi 2 _ rfl
    have e3 := hi 3 _ rfl
    rw [hy0] at e0
    rw [hy1] at e1
    rw [hy2] at e2
    rw [hy3] at e3
    simp [ci] at e0 e1 e2 e3
    obtain ⟨z0, w0, k0⟩ := opens_i64 Try.underlying3 e0
    obtain ⟨z1, w1, k1⟩ := opens_i64 Try.underlying3 e1
    obtain ⟨z2, w2, k2⟩ := opens_i64 Try.underlying3 e2
    obtain ⟨z3, w3, k3⟩ := opens_i64 Try.underlying3 e3
    injection w0 with w0; injection w1 with w1; injection w2 with w2; injection w3 with w3
    subst w0; subst w1; subst w2; subst w3
    exact ⟨⟨z0, z1, z2, z3⟩, rfl, k0, k1, k2, k3⟩
set_option maxRecDepth 20000 in
theorem opens_graph {H : Type} {enc : TypeId × Value → H} {W : World} {base : Nat} {spare : Nat → Bool} {held : Bool} {v : Value} {d : DataW H} {ps : List MemPlace} {b2 : Nat} {r : Reach} (hv : Value.okWide Try.prog W r b2 29 v) (h : DataW.Trod enc Try.prog W base spare held 29 v d ps) :
    ∃ n vL xs, v = .agg #[.int .i64 n, vL] ∧ inI64 n ∧ SliceRep (snap0 W) LinkL vL xs ∧ ∀ x ∈ xs, lnkIn x := by
  obtain ⟨cs, rfl⟩ := agg_of_struct Try.underlying29 hv
  obtain ⟨fuel, h⟩ := h
  obtain ⟨a, b, n, y0, y1, e, h0, h1⟩ := opens_struct2 Try.underlying29 rfl (by kernel_rfl) rfl (by kernel_rfl) (by kernel_rfl) h
  obtain ⟨n, e0, k0⟩ := opens_i64 Try.underlying3 h0
  obtain ⟨vL, xs, e1, k1, k2⟩ := opens_slice Try.underlying27 (by kernel_rfl) (by decide) opens_link h1
  injection e0 with e0; injection e1 with e1
  subst e0; subst e1
  refine ⟨n, b, xs, ?_, k0, k1, k2⟩
  have : cs.toList = [.int .i64 n, b] := e
  rw [← Array.toArray_toList (xs := cs), this]
end Go.Proofs.Ytjdhcblofkkibaa
namespace Go.Proofs.Ytjdhcblofkkibaa
open Go Go.ChangeShapes Go.WideShapes Go.ChangeAt Go.RowKit

theorem opens_i64L {P : Program} {t : TypeId} (ht : P.underlying t = some (.int .i64)) : Opens P t I64 inI64 := by
  intro H enc W base spare held fuel cs x h
  obtain ⟨n, rfl, hw⟩ := opens_i64 ht h
  exact ⟨n, rfl, hw⟩
section
variable {P : Program} {H : Type} {enc : TypeId × Value → H} {W : World} {base : Nat} {spare : Nat → Bool} {held : Bool} {fuel : Nat} {t : TypeId} {cs : List Value} {x : DataW H × List MemPlace}
theorem opens_i8' (ht : P.underlying t = some (.int .i8)) (h : DataW.trod enc P W base spare held fuel t cs = some x) : ∃ n, cs = [.int .i8 n] ∧ isI8 n := by
  obtain ⟨n, rfl, _, hw⟩ := DataW.trod_int ht h
  exact ⟨n, rfl, i8_range hw⟩
theorem opens_b8 (ht : P.underlying t = some (.int .u8)) (h : DataW.trod enc P W base spare held fuel t cs = some x) : ∃ n, cs = [.int .u8 n] ∧ isByte n := by
  obtain ⟨n, rfl, _, hw⟩ := DataW.trod_int ht h
  exact ⟨n, rfl, u8_range hw⟩
theorem opens_fields {fs : Array Field} (ht : P.underlying t = some (.struct fs)) (h : DataW.trod enc P W base spare held fuel t cs = some x) :
    ∃ n, cs.length = P.cellsOf t ∧ ∀ (i : Nat) (f : Field), fs[i]? = some f → ∃ y, DataW.trod enc P W base spare held n f.type ((cs.drop f.offset).take (P.cellsOf f.type)) = some y := by
  obtain ⟨xs, n, _, _, hl, hxl, hi⟩ := DataW.trod_struct ht h
  refine ⟨n, hl, fun i f hf => ?_⟩
  have hil := (Array.getElem?_eq_some_iff.1 hf).1
  exact ⟨xs[i]'(by omega), by rw [hi i f hf]; exact List.getElem?_eq_getElem _⟩
theorem opens_elems {e : TypeId} {k : Nat} (ht : P.underlying t = some (.array k e)) (h : DataW.trod enc P W base spare held fuel t cs = some x) :
    ∃ n, cs.length = P.cellsOf t ∧ ∀ i, i < k → ∃ y, DataW.trod enc P W base spare held n e ((cs.drop (i * P.cellsOf e)).take (P.cellsOf e)) = some y := by
  obtain ⟨xs, n, _, _, hl, hxl, hi⟩ := DataW.trod_array ht h
  refine ⟨n, hl, fun i hik => ?_⟩
  exact ⟨xs[i]'(by omega), by rw [hi i hik]; exact List.getElem?_eq_getElem _⟩
end
/-- A spoil: what, where (twice), by what. -/
structure Spo where
  w : Int
  i : Int
  k : Int
  b : Int
def Spo.ok (s : Spo) : Prop := isByte s.w ∧ isByte s.i ∧ isByte s.k ∧ isI8 s.b
def Spo.cells (s : Spo) : List Value := [.int .u8 s.w, .int .u8 s.i, .int .u8 s.k, .int .i8 s.b]
end Go.Proofs.Ytjdhcblofkkibaa
namespace Go.Proofs.Ytjdhcblofkkibaa
open Go Go.ChangeShapes Go.WideShapes Go.ChangeAt Go.RowKit

set_option maxRecDepth 20000 in
theorem opens_w4 {H : Type} {enc : TypeId × Value → H} {W : World} {base : Nat} {spare : Nat → Bool} {held : Bool} {v : Value} {d : DataW H} {ps : List MemPlace} {b2 : Nat} {r : Reach} (hv : Value.okWide Try.prog W r b2 25 v) (h : DataW.Trod enc Try.prog W base spare held 25 v d ps) :
    ∃ a b c d : Int, v = .agg #[.int .u8 a, .int .u8 b, .int .u8 c, .int .u8 d] ∧ isByte a ∧ isByte b ∧ isByte c ∧ isByte d := by
  obtain ⟨cs, rfl⟩ := agg_of_array Try.underlying25 hv
  obtain ⟨fuel, h⟩ := h
  have h : DataW.trod enc Try.prog W base spare held fuel 25 cs.toList = some (d, ps) := h
  obtain ⟨n, hl, hf⟩ := opens_elems Try.underlying25 h
  rw [show Try.prog.cellsOf 25 = 4 by kernel_rfl] at hl
  have cu : Try.prog.cellsOf 5 = 1 := by kernel_rfl
  rw [← Array.toArray_toList (xs := cs)]
  generalize cs.toList = cs at *
  match cs, hl with
  | [c0, c1, c2, c3], _ =>
    obtain ⟨y0, h0⟩ := hf 0 (by decide)
    obtain ⟨y1, h1⟩ := hf 1 (by decide)
    obtain ⟨y2, h2⟩ := hf 2 (by decide)
    obtain ⟨y3, h3⟩ := hf 3 (by decide)
    simp [cu] at h0 h1 h2 h3
    obtain ⟨n0, e0, k0⟩ := opens_b8 Try.underlying5 h0
    obtain ⟨n1, e1, k1⟩ := opens_b8 Try.underlying5 h1
    obtain ⟨n2, e2, k2⟩ := opens_b8 Try.underlying5 h2
    obtain ⟨n3, e3, k3⟩ := opens_b8 Try.underlying5 h3
    injection e0 with e0; injection e1 with e1; injection e2 with e2; injection e3 with e3
    subst e0; subst e1; subst e2; subst e3
    exact ⟨n0, n1, n2, n3, rfl, k0, k1, k2, k3⟩
set_option maxRecDepth 20000 in
theorem opens_b3 {H : Type} {enc : TypeId × Value → H} {W : World} {base : Nat} {spare : Nat → Bool} {held : Bool} {fuel : Nat} {cs : List Value} {x : DataW H × List MemPlace} (h : DataW.trod enc Try.prog W base spare held fuel 42 cs = some x) :
    ∃ a b c : Int, cs = [.int .u8 a, .int .u8 b, .int .u8 c] ∧ isByte a ∧ isByte b ∧ isByte c := by
  obtain ⟨n, hl, hf⟩ := opens_elems Try.underlying42 h
  rw [show Try.prog.cellsOf 42 = 3 by kernel_rfl] at hl
  have cu : Try.prog.cellsOf 5 = 1 := by kernel_rfl
  match cs, hl with
  | [c0, c1, c2], _ =>
    obtain ⟨y0, h0⟩ := hf 0 (by decide)
    obtain ⟨y1, h1⟩ := hf 1 (by decide)
    obtain ⟨y2, h2⟩ := hf 2 (by decide)
    simp [cu] at h0 h1 h2
    obtain ⟨n0, e0, k0⟩ := opens_b8 Try.underlying5 h0
    obtain ⟨n1, e1, k1⟩ := opens_b8 Try.underlying5 h1
    obtain ⟨n2, e2, k2⟩ := opens_b8 Try.underlying5 h2
    injection e0 with e0; injection e1 with e1; injection e2 with e2
    subst e0; subst e1; subst e2
    exact ⟨n0, n1, n2, rfl, k0, k1, k2⟩
set_option maxRecDepth 20000 in
theorem opens_w23 {H : Type} {enc : TypeId × Value → H} {W : World} {base : Nat} {spare : Nat → Bool} {held : Bool} {v : Value} {d : DataW H} {ps : List MemPlace} {b2 : Nat} {r : Reach} (hv : Value.okWide Try.prog W r b2 47 v) (h : DataW.Trod enc Try.prog W base spare held 47 v d ps) :
    ∃ a b c e f g : Int, v = .agg #[.int .u8 a, .int .u8 b, .int .u8 c, .int .u8 e, .int .u8 f, .int .u8 g] ∧ (isByte a ∧ isByte b ∧ isByte c) ∧ isByte e ∧ isByte f ∧ isByte g := by
  obtain ⟨cs, rfl⟩ := agg_of_array Try.underlying47 hv
  obtain ⟨fuel, h⟩ := h
  have h : DataW.trod enc Try.prog W base spare held fuel 47 cs.toList = some (d, ps) := h
  obtain ⟨n, hl, hf⟩ := opens_elems Try.underlying47 h
  rw [show Try.prog.cellsOf 47 = 6 by kernel_rfl] at hl
  have cu : Try.prog.cellsOf 42 = 3 := by kernel_rfl
  rw [← Array.toArray_toList (xs := cs)]
  generalize cs.toList = cs at *
  match cs, hl with
  | [c0, c1, c2, c3, c4, c5], _ =>
    obtain ⟨y0, h0⟩ := hf 0 (by decide)
    obtain ⟨y1, h1⟩ := hf 1 (by decide)
    simp [cu] at h0 h1
    obtain ⟨a, b, c, e0, k0⟩ := opens_b3 h0
    obtain ⟨e, f, g, e1, k1⟩ := opens_b3 h1
    injection e0 with e00 e0; injection e0 with e01 e0; injection e0 with e02 e0
    injection e1 with e10 e1; injection e1 with e11 e1; injection e1 with e12 e1
    subst e00; subst e01; subst e02; subst e10; subst e11; subst e12
    exact ⟨a, b, c, e, f, g, rfl, k0, k1⟩
end Go.Proofs.Ytjdhcblofkkibaa
namespace Go.Proofs.Ytjdhcblofkkibaa
open Go Go.RowKit

section
variable {P : Program} {f : FuncId} {n : Nat} {E : Ent} {R : Value → World → Prop} {k : List Item} {Hs : List Snap} {O : List Own} {l : Env}
variable {L : List Oper} {d : Nat} {ty : TypeId} {pos : String} {aft : Array Edge} {os : List Oper} {g : Option (Nat × Bool)}
/-- A call that is handed what O1 owns; all else that is owned is forgotten. -/
theorem RW.callD {fx : Operand} {La : List Operand} {ts : Array TypeId} {fid : FuncId} {cap vals : List Value} {H : Snap} {O1 : List Own} {post : Snap → List Own → Value → Prop} (hf : opv l fx = some (.func (.func fid) #[] cap.toArray)) (ha : opvL l La = some vals) [c : TCall P fid] (hc : Ctr P fid (vals ++ cap).toArray H O1 post) [hH : InH Hs H] (hO : O1.Sublist O) (hg : guardIs L l g = some true) (hd : Nat.blt d n = true)
    (h : ∀ v H' O2, post H' O2 v → H.le H' → RW P f n E R L.toArray os k (H' :: Hs) O2 ((d, v) :: l)) : RW P f n E R L.toArray (⟨some d, .call ⟨.value fx, La.toArray, ts⟩, ty, pos, aft, g⟩ :: os) k Hs O l := by
  obtain ⟨F, hF⟩ := hO.exists_perm_append
  refine RW.h (HV.callF (cap := cap) hf ha hc hF) hg hd ?_
  rintro v Hs' O' ⟨H', O2, h1, h2, rfl, rfl⟩
  intro w hm
  exact h v H' O2 h1 h2 w (hm.sub (fun x hx => List.mem_cons_of_mem _ hx) (List.sublist_append_left ..))
/-- A call whose result is dropped. -/
theorem RW.callD0 {fx : Operand} {La : List Operand} {ts : Array TypeId} {fid : FuncId} {cap vals : List Value} {H : Snap} {O1 : List Own} {post : Snap → List Own → Value → Prop} (hf : opv l fx = some (.func (.func fid) #[] cap.toArray)) (ha : opvL l La = some vals) [c : TCall P fid] (hc : Ctr P fid (vals ++ cap).toArray H O1 post) [hH : InH Hs H] (hO : O1.Sublist O) (hg : guardIs L l g = some true)
    (h : ∀ v H' O2, post H' O2 v → H.le H' → RW P f n E R L.toArray os k (H' :: Hs) O2 l) : RW P f n E R L.toArray (⟨none, .call ⟨.value fx, La.toArray, ts⟩, ty, pos, aft, g⟩ :: os) k Hs O l := by
  obtain ⟨F, hF⟩ := hO.exists_perm_append
  refine RW.h0 (HV.callF (cap := cap) hf ha hc hF) hg ?_
  rintro v Hs' O' ⟨H', O2, h1, h2, rfl, rfl⟩
  intro w hm
  exact h v H' O2 h1 h2 w (hm.sub (fun x hx => List.mem_cons_of_mem _ hx) (List.sublist_append_left ..))

theorem RW.appendF {α : Type} {A : Lay α} {H : Snap} {ys : List α} {T e : TypeId} {x y : Operand} {v vy z : Value} {sz bytes m : Nat} {ds : List Value} [t : TDesc P T (.slice e)] [j : TInfo P e z sz bytes] (hx : opv l x = some v) (hr : SliceRep H A v ys) (hcap : capOf v = ys.length) [i : InH Hs H] (hsz : A.sz = sz) (hy : opv l y = some vy) [q : GetRow O vy e sz m ds]
    (hm0 : 0 < m) (h1 : allOne ds = true) (hz : Nat.beq (cellsL z).length sz = true) (h0 : sz ≠ 0) (hb : (ys.length + m) * bytes ≤ 140737488355328) (hb2 : ys.length + m ≤ 140737488355328) (hg : guardIs L l g = some true) (hd : Nat.blt d n = true)
    (h : ∀ xs v', CellsRep H A ys xs → IsSl v' (ys.length + m) → RW P f n E R L.toArray os k Hs (.row e sz v' (ys.length + m) (xs ++ ds) :: O) ((d, v') :: l)) : RW P f n E R L.toArray (⟨some d, .call ⟨.builtin .append, #[x, y], #[T, T]⟩, ty, pos, aft, g⟩ :: os) k Hs O l := by
  obtain ⟨hs, xs, hc, hcell⟩ := hr
  intro w hm
  have hrow := hm.own _ q.h
  have hvy : IsSl vy m := row_isSl hrow
  have hlen : ds.length = m * sz := hrow.1
  refine RW.h (HV.appendF (P := P) (E := E) (Hs := Hs) (O := O) (xs := xs) (T := T) (e := e) (bytes := bytes) hx hy hs hcap (by rw [hc.length, hsz]) (fun w hm k u hu => hm.cellH (hcell k u hu)) hvy hm0 hlen (fun w hm k u hu => hm.cellR hu) (allOne_eq h1) hz h0 hb hb2) hg hd ?_ w hm
  rintro v' Hs' O' ⟨rfl, rfl, h3⟩
  exact h xs v' hc h3

/-- A row of ours goes into a snapshot, beside what the caller owns. -/
theorem Mem.freezeRowM {w : World} {O' : List Own} {H : Snap} {v : Value} {T : TypeId} {sz m : Nat} {xs : List Value} [q : DelRow O v T sz m xs O'] [i : InH Hs H] (hM : ∀ b ∈ E.M, b ∈ feet O') (hm : Mem E w Hs O) :
    ∃ H', H.le H' ∧ IsSl v m ∧ (∀ j u, xs[j]? = some u → H'.cell (vat v j) = some u) ∧ Mem E w (H' :: Hs) O' := by
  have hm2 := hm.perm q.h
  have hown : w.ownsRow 0 T sz v m xs := hm2.own _ (List.mem_cons_self ..)
  rcases hown.2 with ⟨rfl, h0⟩ | ⟨b, cap, cur, rfl, _, hh, hnc, hcap, hcs, htake⟩
  · subst h0
    have hx : xs = [] := List.eq_nil_of_length_eq_zero (by simpa using hown.1)
    subst hx
    refine ⟨H, Snap.le.refl H, isSl_nil, fun j u hu => by simp at hu, hm2.sub ?_ (List.sublist_cons_self _ _)⟩
    intro x hx
    rcases List.mem_cons.1 hx with rfl | hx
    · exact List.mem_cons_of_mem _ i.h
    · exact List.mem_cons_of_mem _ hx
  · obtain ⟨h1, h2⟩ := hm2.freeze (List.mem_cons_of_mem _ i.h) (b := b) rfl hh (fun hb => by
      obtain ⟨o, ho, hob⟩ := mem_feet.1 (hM b hb)
      exact (List.pairwise_cons.1 hm2.dis).1 o ho b rfl hob)
    refine ⟨_, h2, ⟨_, cap, rfl, hnc, hcap, fun _ => ⟨b, 0, rfl⟩⟩, fun j u hu => ?_, h1⟩
    have hj : j < m * sz := by have := (List.getElem?_eq_some_iff.1 hu).1; rw [hown.1] at this; exact this
    rw [← htake, List.getElem?_take_of_lt hj] at hu
    simp [Snap.cell, Snap.join, vat]
    simpa using hu
theorem Runs.freezeM {O' : List Own} {H : Snap} (v : Value) {T : TypeId} {sz m : Nat} {xs : List Value} [q : DelRow O v T sz m xs O'] [i : InH Hs H] (hM : ∀ b ∈ E.M, b ∈ feet O')
    (h : ∀ H', H.le H' → IsSl v m → (∀ j u, xs[j]? = some u → H'.cell (vat v j) = some u) → Runs P f n E R k (H' :: Hs) O' l) : Runs P f n E R k Hs O l := by
  intro w hm
  obtain ⟨H', h1, h2, h3, h4⟩ := hm.freezeRowM (q := q) (i := i) hM
  exact h H' h1 h2 h3 w h4
theorem RW.freezeM {ops : Array Oper} {O' : List Own} {H : Snap} (v : Value) {T : TypeId} {sz m : Nat} {xs : List Value} [q : DelRow O v T sz m xs O'] [i : InH Hs H] (hM : ∀ b ∈ E.M, b ∈ feet O')
    (h : ∀ H', H.le H' → IsSl v m → (∀ j u, xs[j]? = some u → H'.cell (vat v j) = some u) → RW P f n E R ops os k (H' :: Hs) O' l) : RW P f n E R ops os k Hs O l := by
  intro w hm
  obtain ⟨H', h1, h2, h3, h4⟩ := hm.freezeRowM (q := q) (i := i) hM
  exact h H' h1 h2 h3 w h4
theorem feet_sub {O O' : List Own} (h : O.Sublist O') : ∀ b ∈ feet O, b ∈ feet O' := fun b hb => by
  obtain ⟨o, ho, e⟩ := mem_feet.1 hb
  exact mem_feet.2 ⟨o, h.subset ho, e⟩

theorem cs1_step {k k' : List Item} (h : cs1 k = some k') (b : Frame) (a : Act) (cs : List Frame) (w : World) : step P (lone (b.at a k) cs w) = .next (lone (b.at a k') cs w) := by
  unfold cs1 at h
  split at h
  · cases h; exact step_seq
  · cases h; exact step_skip
  · cases h; exact step_label
  · cases h; exact step_block
  · cases h; exact step_inBlock
  · cases h; exact step_scope
  · cases h; exact step_inScope
  · exact step_exit h
  · cases h
theorem Runs.cs1_inv {k k' : List Item} (h : cs1 k = some k') (hr : Runs P f n E R k Hs O l) : Runs P f n E R k' Hs O l := by
  intro w hm a ha b hb hk cs
  obtain ⟨v, w', fr, hR, hs, hv⟩ := hr w hm a ha b hb hk cs
  refine ⟨v, w', fr, hR, ?_, hv⟩
  obtain ⟨m, hs⟩ := hs
  cases m with
  | zero =>
    simp only [runN] at hs
    injection hs with hs
    have e1 : fr = b.at a k := by
      have := congrArg (fun (m : Machine) => (m.gs[0]?).map (·.frame)) hs
      simpa [lone] using this.symm
    have h9 := hv.2.1
    rw [e1] at h9
    cases h9
  | succ m =>
    simp only [runN, cs1_step h] at hs
    exact ⟨m, hs⟩
theorem Runs.cstep_inv : ∀ (fuel : Nat) (k k' : List Item), cstep fuel k = some k' → Runs P f n E R k Hs O l → Runs P f n E R k' Hs O l
  | 0, k, k', h, hr => by simp only [cstep, Option.some.injEq] at h; subst h; exact hr
  | fuel + 1, k, k', h, hr => by
    simp only [cstep] at h
    split at h
    · rename_i k1 h1; exact Runs.cstep_inv fuel _ _ h (Runs.cs1_inv h1 hr)
    · simp only [Option.some.injEq] at h; subst h; exact hr
/-- The code's steps, taken back: for a place where several ways meet. -/
theorem Runs.uncode {k k' : List Item} (hr : Runs P f n E R k Hs O l) (h : csteps k = some k' := by exact rfl) : Runs P f n E R k' Hs O l := by
  unfold csteps at h
  split at h
  · rename_i k1 h1; exact Runs.cstep_inv 60 _ _ h (Runs.cs1_inv h1 hr)
  · cases h

variable {Hs0 : List Snap} {O0 : List Own} {lt : List Nat} {st : Bool} {fuel : Nat} {listed : Array Bool}
/-- A call behind which nothing of the region reads memory. -/
theorem DW.callD (i : Nat) {fx : Operand} {La : List Operand} {ts : Array TypeId} {fid : FuncId} {cap vals : List Value} {H : Snap} {O1 : List Own} {post : Snap → List Own → Value → Prop} (hi : opAt L i = some ⟨some d, .call ⟨.value fx, La.toArray, ts⟩, ty, pos, aft, g⟩)
    (hrd : (Region.ready .any L.toArray listed == [i]) = true) (hlt : lt.contains i = true) (hf : opv l fx = some (.func (.func fid) #[] cap.toArray)) (ha : opvL l La = some vals) [c : TCall P fid] (hc : Ctr P fid (vals ++ cap).toArray H O1 post) [hH : InH Hs H] (hO : O1.Sublist O) (hg : guardIs L l g = some true) (hd : Nat.blt d n = true)
    (h : ∀ v H' O2, post H' O2 v → H.le H' → DW P f n E R L Hs0 O0 lt false fuel (listed.setIfInBounds i true) k (H' :: Hs) O2 ((d, v) :: l)) : DW P f n E R L Hs0 O0 lt st (fuel + 1) listed k Hs O l := by
  obtain ⟨F, hF⟩ := hO.exists_perm_append
  refine DW.h i false hi hrd (HV.callF (cap := cap) hf ha hc hF) hg hd (by rw [hlt]; rfl) ?_
  rintro v Hs' O' ⟨H', O2, h1, h2, rfl, rfl⟩
  refine ⟨fun e => (by cases e), fun _ w hm => h v H' O2 h1 h2 (fun e => by cases e) w (hm.sub (fun x hx => List.mem_cons_of_mem _ hx) (List.sublist_append_left ..))⟩
theorem DW.callD0 (i : Nat) {fx : Operand} {La : List Operand} {ts : Array TypeId} {fid : FuncId} {cap vals : List Value} {H : Snap} {O1 : List Own} {post : Snap → List Own → Value → Prop} (hi : opAt L i = some ⟨none, .call ⟨.value fx, La.toArray, ts⟩, ty, pos, aft, g⟩)
    (hrd : (Region.ready .any L.toArray listed == [i]) = true) (hlt : lt.contains i = true) (hf : opv l fx = some (.func (.func fid) #[] cap.toArray)) (ha : opvL l La = some vals) [c : TCall P fid] (hc : Ctr P fid (vals ++ cap).toArray H O1 post) [hH : InH Hs H] (hO : O1.Sublist O) (hg : guardIs L l g = some true)
    (h : ∀ v H' O2, post H' O2 v → H.le H' → DW P f n E R L Hs0 O0 lt false fuel (listed.setIfInBounds i true) k (H' :: Hs) O2 l) : DW P f n E R L Hs0 O0 lt st (fuel + 1) listed k Hs O l := by
  obtain ⟨F, hF⟩ := hO.exists_perm_append
  refine DW.h0 i false hi hrd (HV.callF (cap := cap) hf ha hc hF) hg (by rw [hlt]; rfl) ?_
  rintro v Hs' O' ⟨H', O2, h1, h2, rfl, rfl⟩
  refine ⟨fun e => (by cases e), fun _ w hm => h v H' O2 h1 h2 (fun e => by cases e) w (hm.sub (fun x hx => List.mem_cons_of_mem _ hx) (List.sublist_append_left ..))⟩
/-- A call behind which what the region looks at still holds. -/
theorem DW.callM (i : Nat) {fx : Operand} {La : List Operand} {ts : Array TypeId} {fid : FuncId} {cap vals : List Value} {H : Snap} {O1 F : List Own} {post : Snap → List Own → Value → Prop} (hi : opAt L i = some ⟨some d, .call ⟨.value fx, La.toArray, ts⟩, ty, pos, aft, g⟩)
    (hrd : (Region.ready .any L.toArray listed == [i]) = true) (hf : opv l fx = some (.func (.func fid) #[] cap.toArray)) (ha : opvL l La = some vals) [c : TCall P fid] (hc : Ctr P fid (vals ++ cap).toArray H O1 post) [hH : InH Hs H] (hO : O.Perm (O1 ++ F)) (hg : guardIs L l g = some true) (hd : Nat.blt d n = true)
    (hsub2 : ∀ v H' O2, post H' O2 v → ∀ w, Mem E w (H' :: Hs) (O2 ++ F) → Mem E w Hs0 O0)
    (h : ∀ v H' O2, post H' O2 v → H.le H' → DW P f n E R L Hs0 O0 lt true fuel (listed.setIfInBounds i true) k (H' :: Hs) (O2 ++ F) ((d, v) :: l)) : DW P f n E R L Hs0 O0 lt true (fuel + 1) listed k Hs O l := by
  intro hsub
  refine DW.h i true hi hrd (HV.callF (cap := cap) hf ha hc hO) hg hd (by simp) ?_ hsub
  rintro v Hs' O' ⟨H', O2, h1, h2, rfl, rfl⟩
  exact ⟨fun _ => hsub2 v H' O2 h1, fun _ => h v H' O2 h1 h2 (fun _ => hsub2 v H' O2 h1)⟩
/-- A call that changes nothing of ours. -/
theorem DW.callL (i : Nat) {fx : Operand} {La : List Operand} {ts : Array TypeId} {fid : FuncId} {cap vals : List Value} {H : Snap} {O1 : List Own} {post : Snap → Value → Prop} (hi : opAt L i = some ⟨some d, .call ⟨.value fx, La.toArray, ts⟩, ty, pos, aft, g⟩)
    (hrd : (Region.ready .any L.toArray listed == [i]) = true) (hf : opv l fx = some (.func (.func fid) #[] cap.toArray)) (ha : opvL l La = some vals) [c : TCall P fid] (hc : Ctr P fid (vals ++ cap).toArray H O1 (fun H' O' v => O' = O1 ∧ post H' v)) [hH : InH Hs H] (hO : O1.Sublist O) (hg : guardIs L l g = some true) (hd : Nat.blt d n = true)
    (h : ∀ v H', post H' v → H.le H' → DW P f n E R L Hs0 O0 lt true fuel (listed.setIfInBounds i true) k (H' :: Hs) O ((d, v) :: l)) : DW P f n E R L Hs0 O0 lt true (fuel + 1) listed k Hs O l := by
  obtain ⟨F, hF⟩ := hO.exists_perm_append
  intro hsub
  refine DW.h i true hi hrd (HV.callF (cap := cap) hf ha hc hF) hg hd (by simp) ?_ hsub
  rintro v Hs' O' ⟨H', O2, ⟨rfl, h1⟩, h2, rfl, rfl⟩
  refine ⟨fun _ w hm => hsub rfl w ((hm.perm hF.symm).sub (fun x hx => List.mem_cons_of_mem _ (List.mem_cons_of_mem _ hx)) (List.Sublist.refl _)), fun hs2 w hm => ?_⟩
  exact h v H' h1 h2 (fun _ w hm => hs2 rfl w (hm.perm hF)) w (hm.perm hF.symm)
theorem RW.callL {fx : Operand} {La : List Operand} {ts : Array TypeId} {fid : FuncId} {cap vals : List Value} {H : Snap} {O1 : List Own} {post : Snap → Value → Prop} (hf : opv l fx = some (.func (.func fid) #[] cap.toArray)) (ha : opvL l La = some vals) [c : TCall P fid] (hc : Ctr P fid (vals ++ cap).toArray H O1 (fun H' O' v => O' = O1 ∧ post H' v)) [hH : InH Hs H] (hO : O1.Sublist O) (hg : guardIs L l g = some true) (hd : Nat.blt d n = true)
    (h : ∀ v H', post H' v → H.le H' → RW P f n E R L.toArray os k (H' :: Hs) O ((d, v) :: l)) : RW P f n E R L.toArray (⟨some d, .call ⟨.value fx, La.toArray, ts⟩, ty, pos, aft, g⟩ :: os) k Hs O l := by
  obtain ⟨F, hF⟩ := hO.exists_perm_append
  refine RW.h (HV.callF (cap := cap) hf ha hc hF) hg hd ?_
  rintro v Hs' O' ⟨H', O2, ⟨rfl, h1⟩, h2, rfl, rfl⟩
  intro w hm
  exact h v H' h1 h2 w (hm.perm hF.symm)

theorem HV.appendRR {T e : TypeId} {x y : Operand} {v vy z : Value} {sz bytes a m : Nat} {xs ds : List Value} [t : TDesc P T (.slice e)] [j : TInfo P e z sz bytes] (hx : opv l x = some v) (hy : opv l y = some vy) [q1 : GetRow O v e sz a xs] [q2 : GetRow O vy e sz m ds] (hs : IsSl vy m) (hd' : Nat.beq ds.length (m * sz) = true)
    (h1 : allOne ds = true) (hz : Nat.beq (cellsL z).length sz = true) (h0 : sz ≠ 0) (hb : (a + m) * bytes ≤ 140737488355328) (hb2 : a + m ≤ 140737488355328)
    {O1 : Value → List Own} (q : ∀ v', PutRow O v e sz a xs v' (a + m) (xs ++ ds) (O1 v')) : HV P E Hs O l (.call ⟨.builtin .append, #[x, y], #[T, T]⟩) (fun v' Hs' O2 => Hs' = Hs ∧ O2 = O1 v' ∧ IsSl v' (a + m)) :=
  HV.append hx hy hs (Nat.eq_of_beq_eq_true hd') (fun w hm k u hu => hm.cellR hu) (allOne_eq h1) hz h0 hb hb2 q
/-- Two operations that may come up in either order. -/
theorem DW.h2 (i j : Nat) {di dj : Nat} {opi opj : Op} {tyi tyj : TypeId} {posi posj : String} {afti aftj : Array Edge} {gi gj : Option (Nat × Bool)} {posti postj : Value → List Snap → List Own → Prop} (hi : opAt L i = some ⟨some di, opi, tyi, posi, afti, gi⟩) (hj : opAt L j = some ⟨some dj, opj, tyj, posj, aftj, gj⟩)
    (hc : (Region.ready .any L.toArray listed == [i, j]) = true) (hqi : HV P E Hs O l opi posti) (hqj : HV P E Hs O l opj postj) (hgi : guardIs L l gi = some true) (hgj : guardIs L l gj = some true) (hdi : Nat.blt di n = true) (hdj : Nat.blt dj n = true) (hst : st = true)
    (h1 : ∀ v Hs' O', posti v Hs' O' → (∀ w, Mem E w Hs' O' → Mem E w Hs0 O0) ∧ DW P f n E R L Hs0 O0 lt true fuel (listed.setIfInBounds i true) k Hs' O' ((di, v) :: l))
    (h2 : ∀ v Hs' O', postj v Hs' O' → (∀ w, Mem E w Hs' O' → Mem E w Hs0 O0) ∧ DW P f n E R L Hs0 O0 lt true fuel (listed.setIfInBounds j true) k Hs' O' ((dj, v) :: l)) : DW P f n E R L Hs0 O0 lt st (fuel + 1) listed k Hs O l := by
  rw [opAt_eq] at hi hj
  refine DW.all hc rfl (fun m hm w hs hmem a ha => ?_)
  have hm' : m = i ∨ m = j := by simpa using hm
  rcases hm' with rfl | rfl
  · unfold wpOp
    simp only [hi]
    rw [guardIs_spec (o := ⟨some di, opi, tyi, posi, afti, gi⟩) ha hgi, if_pos rfl]
    exact .inl (hqi ⟨some di, opi, tyi, posi, afti, gi⟩ rfl w hmem a (fun x u hx => ha.eval hx) _ _ (fun v w' Hs' O' hp hm' => ⟨fun _ _ => (h1 v Hs' O' hp).1 w' hm', fun _ => hm'.agr _ (List.mem_cons_self ..), (h1 v Hs' O' hp).2 (fun _ => (h1 v Hs' O' hp).1) w' hm' _ (ha.put di v hdi)⟩))
  · unfold wpOp
    simp only [hj]
    rw [guardIs_spec (o := ⟨some dj, opj, tyj, posj, aftj, gj⟩) ha hgj, if_pos rfl]
    exact .inl (hqj ⟨some dj, opj, tyj, posj, aftj, gj⟩ rfl w hmem a (fun x u hx => ha.eval hx) _ _ (fun v w' Hs' O' hp hm' => ⟨fun _ _ => (h2 v Hs' O' hp).1 w' hm', fun _ => hm'.agr _ (List.mem_cons_self ..), (h2 v Hs' O' hp).2 (fun _ => (h2 v Hs' O' hp).1) w' hm' _ (ha.put dj v hdj)⟩))
/-- What only looks at slots may be dropped from the facts held throughout. -/
theorem DW.drop (h : DW P f n E R L Hs0 O0 lt false fuel listed k Hs O l) : DW P f n E R L Hs0 O0 lt st fuel listed k Hs O l :=
  fun _ => h (fun e => by cases e)
theorem Runs.joinI {α : Type} {c : Item} (I : α → Prop) (sH : α → List Snap) (sO : α → List Own) (sl : α → Env) (h1 : (∀ s, I s → Runs P f n E R k (sH s) (sO s) (sl s)) → Runs P f n E R (c :: k) Hs O l) (h2 : ∀ s, I s → Runs P f n E R k (sH s) (sO s) (sl s)) : Runs P f n E R (c :: k) Hs O l := h1 h2
end
end Go.Proofs.Ytjdhcblofkkibaa

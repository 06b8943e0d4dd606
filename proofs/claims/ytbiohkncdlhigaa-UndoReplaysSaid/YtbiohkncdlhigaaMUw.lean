/-
  Openers of the layer of undoing: described steps, steps, pairs. Conditions: none.
  Contract: the fixed examples of the law. Conditions: none.
-/
import Derived.Test.YtbiohkncdlhigaaMD11
import Derived.Test.YtbiohkncdlhigaaUv
namespace Go.Proofs.Ytbiohkncdlhigaa
open Go Go.ChangeShapes Go.WideShapes Go.ChangeAt Go.RowKit

set_option maxRecDepth 20000
theorem opens_bool {P : Program} {t : TypeId} {H : Type} {enc : TypeId × Value → H} {W : World} {base : Nat} {spare : Nat → Bool} {held : Bool} {fuel : Nat} {cs : List Value} {x : DataW H × List MemPlace} (ht : P.underlying t = some .bool) (h : DataW.trod enc P W base spare held fuel t cs = some x) : ∃ b, cs = [.bool b] := by
  obtain ⟨b, h1, _⟩ := DataW.trod_bool ht h
  exact ⟨b, h1⟩
set_option maxRecDepth 20000 in
theorem opens_rq {H : Type} {enc : TypeId × Value → H} {W : World} {base : Nat} {spare : Nat → Bool} {held : Bool} {fuel : Nat} {cs : List Value} {x : DataW H × List MemPlace} (h : DataW.trod enc Try.prog W base spare held fuel 58 cs = some x) :
    ∃ (a : Rq) (v : Value), cs = [.int .u8 a.app, .bool a.undo, .int .u8 a.x.k, .int .u8 a.x.a, .int .u8 a.x.l, .int .u8 a.x.t, v] ∧ SliceRep (snap0 W) U8 v a.x.tx ∧ okRq a := by
  obtain ⟨n, hl, hf⟩ := opens_fields Try.underlying58 h
  rw [show Try.prog.cellsOf 58 = 7 by kernel_rfl] at hl
  have cu : Try.prog.cellsOf 5 = 1 := by kernel_rfl
  have cb : Try.prog.cellsOf 4 = 1 := by kernel_rfl
  have cl : Try.prog.cellsOf 56 = 5 := by kernel_rfl
  match cs, hl with
  | [c0, c1, c2, c3, c4, c5, c6], _ =>
    obtain ⟨y0, h0⟩ := hf 0 _ rfl
    obtain ⟨y1, h1⟩ := hf 1 _ rfl
    obtain ⟨y2, h2⟩ := hf 2 _ rfl
    simp [cu, cl, cb] at h0 h1 h2
    obtain ⟨n0, e0, k0⟩ := opens_b8 Try.underlying5 h0
    obtain ⟨n1, e1⟩ := opens_bool Try.underlying4 h1
    obtain ⟨a, v, e2, k2, k3⟩ := opens_rw h2
    injection e0 with e0; injection e1 with e1
    subst e0; subst e1
    exact ⟨⟨n0, n1, a⟩, v, by rw [e2], k2, k0, k3⟩
theorem opens_rqL : Opens Try.prog 58 RqL okRq := by
  intro H enc W base spare held fuel cs x h
  obtain ⟨a, v, e, h1, h2⟩ := opens_rq h
  exact ⟨a, ⟨v, e, h1⟩, h2⟩
theorem opens_rqV {H : Type} {enc : TypeId × Value → H} {W : World} {base : Nat} {spare : Nat → Bool} {held : Bool} {v : Value} {d : DataW H} {ps : List MemPlace} {b2 : Nat} {r : Reach} (hv : Value.okWide Try.prog W r b2 58 v) (h : DataW.Trod enc Try.prog W base spare held 58 v d ps) :
    ∃ (a : Rq) (vl : Value), v = rqV a vl ∧ SliceRep (snap0 W) U8 vl a.x.tx ∧ okRq a := by
  obtain ⟨cs, rfl⟩ := agg_of_struct Try.underlying58 hv
  obtain ⟨fuel, h⟩ := h
  obtain ⟨a, vl, e, h1, h2⟩ := opens_rq h
  refine ⟨a, vl, ?_, h1, h2⟩
  have : cs.toList = [.int .u8 a.app, .bool a.undo, .int .u8 a.x.k, .int .u8 a.x.a, .int .u8 a.x.l, .int .u8 a.x.t, vl] := e
  unfold rqV
  rw [← Array.toArray_toList (xs := cs), this]
set_option maxRecDepth 20000 in
theorem opens_editC {H : Type} {enc : TypeId × Value → H} {W : World} {base : Nat} {spare : Nat → Bool} {held : Bool} {fuel : Nat} {cs : List Value} {x : DataW H × List MemPlace} (h : DataW.trod enc Try.prog W base spare held fuel 31 cs = some x) : ∃ e : Ed, cs = edC e ∧ e.tx.length ≤ maxLen := by
  obtain ⟨n, hl, hf⟩ := opens_fields Try.underlying31 h
  rw [show Try.prog.cellsOf 31 = 5 by kernel_rfl] at hl
  have cu : Try.prog.cellsOf 3 = 1 := by kernel_rfl
  have cl : Try.prog.cellsOf 9 = 1 := by kernel_rfl
  match cs, hl with
  | [c0, c1, c2, c3, c4], _ =>
    obtain ⟨y0, h0⟩ := hf 0 _ rfl
    obtain ⟨y1, h1⟩ := hf 1 _ rfl
    obtain ⟨y2, h2⟩ := hf 2 _ rfl
    obtain ⟨y3, h3⟩ := hf 3 _ rfl
    obtain ⟨y4, h4⟩ := hf 4 _ rfl
    simp [cu, cl] at h0 h1 h2 h3 h4
    obtain ⟨n0, e0, k0⟩ := opens_i64 Try.underlying3 h0
    obtain ⟨n1, e1, k1⟩ := opens_i64 Try.underlying3 h1
    obtain ⟨n2, e2, k2⟩ := opens_i64 Try.underlying3 h2
    obtain ⟨n3, e3, k3⟩ := opens_i64 Try.underlying3 h3
    obtain ⟨s, e4, k4⟩ := opens_str Try.underlying9 h4
    injection e0 with e0; injection e1 with e1; injection e2 with e2; injection e3 with e3; injection e4 with e4
    subst e0; subst e1; subst e2; subst e3; subst e4
    exact ⟨⟨n0, n1, n2, n3, s⟩, rfl, k4⟩
set_option maxRecDepth 20000 in
theorem opens_step {H : Type} {enc : TypeId × Value → H} {W : World} {base : Nat} {spare : Nat → Bool} {held : Bool} {v : Value} {d : DataW H} {ps : List MemPlace} {b2 : Nat} {r : Reach} (hv : Value.okWide Try.prog W r b2 33 v) (h : DataW.Trod enc Try.prog W base spare held 33 v d ps) :
    ∃ s : Stp, v = stpV s ∧ s.e.tx.length ≤ maxLen := by
  obtain ⟨cs, rfl⟩ := agg_of_struct Try.underlying33 hv
  obtain ⟨fuel, h⟩ := h
  have h : DataW.trod enc Try.prog W base spare held fuel 33 cs.toList = some (d, ps) := h
  obtain ⟨n, hl, hf⟩ := opens_fields Try.underlying33 h
  rw [show Try.prog.cellsOf 33 = 8 by kernel_rfl] at hl
  have cu : Try.prog.cellsOf 3 = 1 := by kernel_rfl
  have cb : Try.prog.cellsOf 4 = 1 := by kernel_rfl
  have cl : Try.prog.cellsOf 31 = 5 := by kernel_rfl
  rw [← Array.toArray_toList (xs := cs)]
  generalize cs.toList = cs at *
  match cs, hl with
  | [c0, c1, c2, c3, c4, c5, c6, c7], _ =>
    obtain ⟨y0, h0⟩ := hf 0 _ rfl
    obtain ⟨y1, h1⟩ := hf 1 _ rfl
    obtain ⟨y2, h2⟩ := hf 2 _ rfl
    obtain ⟨y3, h3⟩ := hf 3 _ rfl
    simp [cu, cl, cb] at h0 h1 h2 h3
    obtain ⟨n0, e0, k0⟩ := opens_i64 Try.underlying3 h0
    obtain ⟨n1, e1, k1⟩ := opens_i64 Try.underlying3 h1
    obtain ⟨e, e2, k2⟩ := opens_editC h2
    obtain ⟨u, e3⟩ := opens_bool Try.underlying4 h3
    unfold edC at e2
    injection e0 with e0; injection e1 with e1; injection e3 with e3
    injection e2 with e20 e2; injection e2 with e21 e2; injection e2 with e22 e2; injection e2 with e23 e2; injection e2 with e24 e2
    subst e0; subst e1; subst e3; subst e20; subst e21; subst e22; subst e23; subst e24
    exact ⟨⟨n0, n1, e, u⟩, rfl, k2⟩
theorem opens_u2 {H : Type} {enc : TypeId × Value → H} {W : World} {base : Nat} {spare : Nat → Bool} {held : Bool} {v : Value} {d : DataW H} {ps : List MemPlace} {b2 : Nat} {r : Reach} (hv : Value.okWide Try.prog W r b2 52 v) (h : DataW.Trod enc Try.prog W base spare held 52 v d ps) :
    ∃ a b : Int, v = .agg #[.int .u8 a, .int .u8 b] ∧ isByte a ∧ isByte b := by
  obtain ⟨cs, rfl⟩ := agg_of_array Try.underlying52 hv
  obtain ⟨fuel, h⟩ := h
  have h : DataW.trod enc Try.prog W base spare held fuel 52 cs.toList = some (d, ps) := h
  obtain ⟨n, hl, hf⟩ := opens_elems Try.underlying52 h
  rw [show Try.prog.cellsOf 52 = 2 by kernel_rfl] at hl
  have cu : Try.prog.cellsOf 5 = 1 := by kernel_rfl
  rw [← Array.toArray_toList (xs := cs)]
  generalize cs.toList = cs at *
  match cs, hl with
  | [c0, c1], _ =>
    obtain ⟨y0, h0⟩ := hf 0 (by decide)
    obtain ⟨y1, h1⟩ := hf 1 (by decide)
    simp [cu] at h0 h1
    obtain ⟨n0, e0, k0⟩ := opens_b8 Try.underlying5 h0
    obtain ⟨n1, e1, k1⟩ := opens_b8 Try.underlying5 h1
    injection e0 with e0; injection e1 with e1
    subst e0; subst e1
    exact ⟨n0, n1, rfl, k0, k1⟩
theorem opens_i8w {P : Program} {t : TypeId} {H : Type} {enc : TypeId × Value → H} {W : World} {base : Nat} {spare : Nat → Bool} {held : Bool} {fuel : Nat} {cs : List Value} {x : DataW H × List MemPlace} (ht : P.underlying t = some (.int .i8)) (h : DataW.trod enc P W base spare held fuel t cs = some x) : ∃ n, cs = [.int .i8 n] ∧ isI8 n := by
  obtain ⟨n, rfl, _, hw⟩ := DataW.trod_int ht h
  exact ⟨n, rfl, i8_range hw⟩
theorem opens_s2 {H : Type} {enc : TypeId × Value → H} {W : World} {base : Nat} {spare : Nat → Bool} {held : Bool} {v : Value} {d : DataW H} {ps : List MemPlace} {b2 : Nat} {r : Reach} (hv : Value.okWide Try.prog W r b2 65 v) (h : DataW.Trod enc Try.prog W base spare held 65 v d ps) :
    ∃ a b : Int, v = .agg #[.int .i8 a, .int .i8 b] ∧ isI8 a ∧ isI8 b := by
  obtain ⟨cs, rfl⟩ := agg_of_array Try.underlying65 hv
  obtain ⟨fuel, h⟩ := h
  have h : DataW.trod enc Try.prog W base spare held fuel 65 cs.toList = some (d, ps) := h
  obtain ⟨n, hl, hf⟩ := opens_elems Try.underlying65 h
  rw [show Try.prog.cellsOf 65 = 2 by kernel_rfl] at hl
  have cu : Try.prog.cellsOf 64 = 1 := by kernel_rfl
  rw [← Array.toArray_toList (xs := cs)]
  generalize cs.toList = cs at *
  match cs, hl with
  | [c0, c1], _ =>
    obtain ⟨y0, h0⟩ := hf 0 (by decide)
    obtain ⟨y1, h1⟩ := hf 1 (by decide)
    simp [cu] at h0 h1
    obtain ⟨n0, e0, k0⟩ := opens_i8w Try.underlying64 h0
    obtain ⟨n1, e1, k1⟩ := opens_i8w Try.underlying64 h1
    injection e0 with e0; injection e1 with e1
    subst e0; subst e1
    exact ⟨n0, n1, rfl, k0, k1⟩
end Go.Proofs.Ytbiohkncdlhigaa
namespace Go.Proofs.Ytbiohkncdlhigaa
open Go Go.RowKit

section
variable {P : Program} {f : FuncId} {n : Nat} {E : Ent} {R : Value → World → Prop} {k : List Item} {Hs : List Snap} {O : List Own} {l : Env} {L : List Oper} {d : Nat} {ty : TypeId} {pos : String} {aft : Array Edge} {g : Option (Nat × Bool)}
  {Hs0 : List Snap} {O0 : List Own} {lt : List Nat} {fuel : Nat} {listed : Array Bool} {j dj : Nat} {T : TypeId} {cs : List Value}
/-- A second allocation beside the floating one. -/
theorem DWf.alloc (i : Nat) {zj : Value} [tj : TZero P T zj] {tyj : TypeId} {posj : String} {aftj : Array Edge} (hij : Nat.beq i j = false) (hj : opAt L j = some ⟨some dj, .alloc T, tyj, posj, aftj, none⟩) (hc : cellsO zj = some cs)
    (hrd : (Region.ready .any L.toArray listed == [i, j] || Region.ready .any L.toArray listed == [j, i]) = true) (hrd2 : (Region.ready .any L.toArray (listed.setIfInBounds j true) == [i]) = true)
    (hdj : Nat.blt dj n = true) (hnj : (efind l dj).isNone = true) {T2 : TypeId} {z2 : Value} {cs2 : List Value} [t2 : TZero P T2 z2] (hi : opAt L i = some ⟨some d, .alloc T2, ty, pos, aft, g⟩) (hg : guardIs L l g = some true) (hd : Nat.blt d n = true) (hc2 : cellsO z2 = some cs2)
    (h : ∀ b', DWf P f n E R L Hs0 O0 lt j dj T cs fuel (listed.setIfInBounds i true) k Hs (.blk b' T2 cs2 :: O) ((d, .pointer (some ⟨b', 0, none⟩)) :: l)) : DWf P f n E R L Hs0 O0 lt j dj T cs (fuel + 1) listed k Hs O l := by
  refine DWf.step i (post := fun v Hs' O1 => Hs' = Hs ∧ ∃ b, v = .pointer (some ⟨b, 0, none⟩) ∧ O1 = .blk b T2 (cellsL z2) :: O) hij hi hj hc hrd hrd2 HV.alloc (fun b o ho w hm a ha next Q hn => ?_) hg hd hdj hnj ?_ ?_
  · refine (HV.alloc (E := E) (Hs := Hs) (O := O ++ [.blk b T cs]) (i := t2)) o ho w hm a ha next Q ?_
    rintro v w' Hs' O' ⟨rfl, b', rfl, rfl⟩ hm'
    exact hn _ w' Hs' _ ⟨_, rfl, rfl, b', rfl, rfl⟩ hm'
  · rintro v Hs' O' ⟨rfl, b', rfl, rfl⟩ hsub w hm
    exact hsub w (hm.sub (fun x hx => List.mem_cons_of_mem _ hx) (List.sublist_cons_self _ _))
  · rintro v Hs' O' ⟨rfl, b', rfl, rfl⟩
    rw [cellsO_eq hc2]
    exact h b'
theorem HVf.alloc {T2 : TypeId} {z2 : Value} [t2 : TZero P T2 z2] : HVf P E Hs O l dj T cs (.alloc T2) (fun v Hs' O1 => Hs' = Hs ∧ ∃ b, v = .pointer (some ⟨b, 0, none⟩) ∧ O1 = .blk b T2 (cellsL z2) :: O) := by
  refine ⟨HV.alloc, fun b o ho w hm a ha next Q hn => ?_⟩
  refine (HV.alloc (E := E) (Hs := Hs) (O := O ++ [.blk b T cs]) (i := t2)) o ho w hm a ha next Q ?_
  rintro v w' Hs' O' ⟨rfl, b', rfl, rfl⟩ hm'
  exact hn _ w' Hs' _ ⟨_, rfl, rfl, b', rfl, rfl⟩ hm'
theorem HVf.callP {La : List Operand} {ts : Array TypeId} {fid : FuncId} {vals : List Value} {H : Snap} {post : Snap → Value → Prop} (ha : opvL l La = some vals) [c : TCall P fid] (hcp : Pure P fid vals.toArray H post) [hH : InH Hs H] :
    HVf P E Hs O l dj T cs (.call ⟨.value (.func fid), La.toArray, ts⟩) (fun v Hs' O1 => ∃ H', post H' v ∧ H.le H' ∧ Hs' = H' :: Hs ∧ O1 = O) := by
  refine ⟨fun o ho w hm a hρ next Q hn => ?_, fun b o ho w hm a hρ next Q hn => ?_⟩
  · refine (HV.call (E := E) (Hs := Hs) (O := O) ha hcp) o ho w hm a hρ next Q ?_
    rintro v w' Hs' O' ⟨H', O2, ⟨rfl, h1⟩, h2, rfl, rfl⟩ hm'
    exact hn v w' _ _ ⟨H', h1, h2, rfl, rfl⟩ hm'
  · refine (HV.call (E := E) (Hs := Hs) (O := O ++ [.blk b T cs]) (opvL_app ha) hcp) o ho w hm a hρ next Q ?_
    rintro v w' Hs' O' ⟨H', O2, ⟨rfl, h1⟩, h2, rfl, rfl⟩ hm'
    exact hn v w' _ _ ⟨O, rfl, H', h1, h2, rfl, rfl⟩ hm'
end
theorem QF.fieldU {l : Env} {x : Operand} {vd vs vl : Value} {e : Int} (hx : opv l x = some (.agg #[vd, vs, vl, .int .i64 e])) : QF Try.prog l (.field 40 x 2) (.int .i64 e) := by
  intro o ho ρ hρ w
  simp [execOp, ho, hρ _ _ hx, Instr.field, run_underlying Try.underlying40, asAgg, part, Try.isAgg38]
theorem QF.buildUnd1 {l : Env} {x : Operand} {vd vs : Value} (hx : opv l x = some (.agg #[vd, vs])) : QF Try.prog l (.build 40 #[(0, x)]) (.agg #[vd, vs, .slice none 0 0, .int .i64 0]) :=
  QF.build (L := [(0, x)]) (vs := [(0, .agg #[vd, vs])]) (cs := [vd, vs, .slice none 0 0, .int .i64 0]) (by simp only [opvs, hx]) (by
    have e2 : cellsL (.agg #[vd, vs]) = [vd, vs] := rfl
    simp only [fillL, e2]
    rfl)
theorem QF.buildDoc {l : Env} {x y : Operand} {s : List UInt8} {vm : Value} (hx : opv l x = some (str s)) (hy : opv l y = some vm) (h1 : one1 vm = true) : QF Try.prog l (.build 36 #[(0, x), (1, y)]) (.agg #[str s, vm]) :=
  QF.build (L := [(0, x), (1, y)]) (vs := [(0, str s), (1, vm)]) (cs := [str s, vm]) (by simp only [opvs, hx, hy]) (by
    have e1 := cellsL_one h1
    have e2 : cellsL (str s) = [str s] := rfl
    simp only [fillL, e1, e2]
    rfl)

/-! ### The examples -/
def c0 : Stp := ⟨0, 0, ⟨1, 0, 0, 0, [97, 98]⟩, false⟩
def c1 : Stp := ⟨0, 1, ⟨1, 1, 0, 0, [88, 89]⟩, false⟩
def c2 : Stp := ⟨0, 2, ⟨1, 4, 0, 0, [99]⟩, false⟩
def p1 : Pst := ⟨[⟨[97, 98], [⟨0, 0, 2, true⟩]⟩], [c0]⟩
def p2 : Pst := ⟨[⟨[97, 88, 89, 98], [⟨0, 0, 4, false⟩, ⟨1, 1, 3, true⟩]⟩], [c0, c1]⟩
def p3 : Pst := ⟨[⟨[97, 88, 89, 98, 99], [⟨0, 0, 4, false⟩, ⟨1, 1, 3, true⟩, ⟨2, 4, 5, true⟩]⟩], [c0, c1, c2]⟩
def w3 : Pst := ⟨[⟨[97, 98, 99], [⟨0, 0, 2, true⟩, ⟨2, 2, 3, true⟩]⟩], [c0, ⟨0, 1, ⟨1, 1, 0, 0, [88, 89]⟩, true⟩, ⟨0, 2, ⟨1, 2, 0, 0, [99]⟩, false⟩]⟩
theorem ex1 : doP (newP 1) c0 = (p1, 0) := by decide
theorem ex2 : doP p1 c1 = (p2, 0) := by decide
theorem ex3 : doP p2 c2 = (p3, 0) := by decide
theorem ex4 : doP p3 ⟨0, 1, ⟨1, 0, 0, 0, [113]⟩, false⟩ = (nilP, 290) := by decide
theorem ex5 : doP p3 ⟨1, -1, ⟨0, 0, 0, 0, []⟩, false⟩ = (nilP, 1) := by decide
theorem ex6 : depP p3.ss 0 = ([1], 0) := by decide
theorem ex7 : depP p3.ss 1 = ([], 0) := by decide
theorem ex8 : depP p3.ss 3 = ([], 1) := by decide
theorem ex9 : undoP p3 0 = (nilP, [1], 320) := by decide
theorem ex10 : undoP p3 1 = (w3, [], 0) := by decide
theorem ex11 : (undoP w3 0).2.2 = 0 ∧ (undoP w3 0).1.ds.length = 1 ∧ ((undoP w3 0).1.ds[0]?).map (·.tx) = some [99] := by decide
def x3 : Pst := ⟨[⟨[99], [⟨2, 0, 1, true⟩]⟩], [⟨0, 0, ⟨1, 0, 0, 0, [97, 98]⟩, true⟩, ⟨0, 1, ⟨1, 1, 0, 0, [88, 89]⟩, true⟩, ⟨0, 2, ⟨1, 0, 0, 0, [99]⟩, false⟩]⟩
theorem ex13 : undoP w3 0 = (x3, [], 0) := by decide
theorem ex12 : undoP w3 1 = (nilP, [], 1) := by decide
theorem good0 : GoodP (newP 1) := ⟨by decide, by simp [newP], by simp [newP], by simp [newP], by simp [newP], fun a ha => ⟨nilD, by
  rcases a with _ | a
  · rfl
  · simp [newP] at ha, rfl⟩⟩
theorem good1 : GoodP p1 := by have := doP_good (s := c0) good0 (by rw [ex1]) (by decide) (by decide) (by decide); rwa [ex1] at this
theorem good2 : GoodP p2 := by have := doP_good (s := c1) good1 (by rw [ex2]) (by decide) (by decide) (by decide); rwa [ex2] at this
theorem good3 : GoodP p3 := by have := doP_good (s := c2) good2 (by rw [ex3]) (by decide) (by decide) (by decide); rwa [ex3] at this
theorem goodW : GoodP w3 := by have := (undoP_good (i := 1) good3 (by rw [ex10])).1; rwa [ex10] at this
theorem doE {H : Snap} {vd vs : Value} {p q : Pst} {s : Stp} {k : Int} (hd : SliceRep H DocL vd p.ds) (hs : SliceRep H StepL vs p.ss) (hg : GoodP p) (ht : s.e.tx.length ≤ 100000) (he : doP p s = (q, k)) :
    Pure Try.prog 21 #[.agg #[vd, vs], stpV s] H (fun H' r => ∃ vd' vs', r = .tuple #[.agg #[vd', vs'], .int .i64 k] ∧ SliceRep H' DocL vd' q.ds ∧ SliceRep H' StepL vs' q.ss) := by
  have h := udo_c (s := s) hd hs (good_valid hg) (by have := hg.len; omega) (by have := hg.sz; omega) ht
  change Pure Try.prog 21 _ H (fun H' r => ∃ v, r = .tuple #[v, .int .i64 (doP p s).2] ∧ PastR H' v (doP p s).1) at h
  rw [he] at h
  refine h.mono ?_
  rintro H' r _ ⟨v, rfl, vd', vs', rfl, h1, h2⟩
  exact ⟨vd', vs', rfl, h1, h2⟩
theorem depE {H : Snap} {vd vs : Value} {p : Pst} {i : Int} {l : List Int} {k : Int} (hd : SliceRep H DocL vd p.ds) (hs : SliceRep H StepL vs p.ss) (hg : GoodP p) (he : depP p.ss i = (l, k)) :
    Pure Try.prog 18 #[.agg #[vd, vs], .int .i64 i] H (fun H' r => ∃ v, r = .tuple #[v, .int .i64 k] ∧ SliceRep H' I64 v l) := by
  have h := depends_c (i := i) hd hs (by have := hg.sz; omega) (good_ch hg) (fun s hs => Nat.le_trans (hg.tx s hs) (by omega))
  rwa [he] at h
theorem undE {H : Snap} {vd vs : Value} {p : Pst} {i : Int} (hd : SliceRep H DocL vd p.ds) (hs : SliceRep H StepL vs p.ss) (hg : GoodP p) :
    Pure Try.prog 13 #[.agg #[vd, vs], .int .i64 i] H (fun H' r => UndR H' r (undoP p i)) := undone_c hd hs hg
end Go.Proofs.Ytbiohkncdlhigaa

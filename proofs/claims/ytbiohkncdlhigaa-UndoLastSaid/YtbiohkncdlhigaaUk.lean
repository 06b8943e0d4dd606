/-
  More operations: values of an interface and their methods, a piece taken out of a row in place, the tail of a row cleared; two operations of a drawn region that are ready beside a floating allocation. Conditions: as each names them.
-/
import Derived.Test.YtbiohkncdlhigaaWk
import Derived.Test.YtbiohkncdlhigaaTy
import Derived.Laws.OwnMore
namespace Go.Proofs.Ytbiohkncdlhigaa
open Go Go.RowKit

class TIf (P : Program) (T : TypeId) : Prop where
  h : ∀ v w, (Instr.makeInterface T v).run P w = .ok (.iface T v) w
class TMeth (P : Program) (T : TypeId) (s : String) (g : outParam FuncId) : Prop where
  h : ∀ v w, (method (P.types.size + Made.depth) T v s).run P w = .ok (g, v) w
  h2 : ∀ v w, (nilAhead (P.types.size + Made.depth) T v s).run P w = .ok (some false) w
instance : TIf Try.prog 102 := ⟨fun v w => by kernel_rfl⟩
instance : TIf Try.prog 103 := ⟨fun v w => by kernel_rfl⟩
instance : TMeth Try.prog 102 "syllabary/undo.do" 88 := ⟨fun v w => by kernel_rfl, fun v w => by kernel_rfl⟩
instance : TMeth Try.prog 103 "syllabary/undo.do" 93 := ⟨fun v w => by kernel_rfl, fun v w => by kernel_rfl⟩
section
variable {P : Program} {f : FuncId} {n : Nat} {E : Ent} {R : Value → World → Prop} {k : List Item} {Hs : List Snap} {O : List Own} {l : Env}
variable {L : List Oper} {d : Nat} {ty : TypeId} {pos : String} {aft : Array Edge} {os : List Oper} {g : Option (Nat × Bool)}
theorem QF.makeIface {x : Operand} {v : Value} {T : TypeId} [t : TIf P T] (hx : opv l x = some v) : QF P l (.makeInterface T x) (.iface T v) := by
  intro o ho ρ hρ w
  simp only [execOp, ho, hρ _ _ hx, Sem.run_bind, t.h, Result.andThen_ok]
  rfl
theorem QF.makeMeth {x : Operand} {v : Value} {T : TypeId} {s : String} (hx : opv l x = some (.iface T v)) : QF P l (.makeFunc (.method s) #[x] #[]) (.func (.method s) #[.iface T v] #[]) := by
  intro o ho ρ hρ w
  simp [execOp, ho, hρ _ _ hx, Instr.makeFunc]
theorem QF.nilCheckMeth {x : Operand} {v : Value} {T : TypeId} {s : String} {g : FuncId} [t : TMeth P T s g] (hx : opv l x = some (.func (.method s) #[.iface T v] #[])) : QF P l (.nilCheck x) (.func (.method s) #[.iface T v] #[]) := by
  intro o ho ρ hρ w
  simp [execOp, ho, hρ _ _ hx, t.h2]
theorem HV.callI {recv : Operand} {L : List Operand} {ts : Array TypeId} {T : TypeId} {r : Value} {s : String} {g : FuncId} {vals : List Value} {H : Snap} {post : Snap → Value → Prop} [t : TMeth P T s g] (hf : opv l recv = some (.iface T r)) (ha : opvL l L = some vals) [c : TCall P g]
    (hc : Pure P g (r :: vals).toArray H post) [hH : InH Hs H] :
    HV P E Hs O l (.call ⟨.invoke recv s, L.toArray, ts⟩) (fun v Hs' O' => ∃ H', post H' v ∧ H.le H' ∧ Hs' = H' :: Hs ∧ O' = O) := by
  intro o ho w hm a hρ next Q hn
  have hst : Mem ⟨w, feet [], H⟩ w [H] [] := Mem.start rfl (hm.agr H (List.mem_cons_of_mem _ hH.h)) (by simp) List.Pairwise.nil (by simp)
  have hcall := hc w hst
  unfold Oper.wp
  have h5 := opvL_eq hρ L vals ha
  have hex : (execOp a.eval o).run P w = .ok (.enter g (r :: vals).toArray) w := by
    have e1 : ((Value.iface T r :: vals).toArray).extract 1 (Value.iface T r :: vals).toArray.size = vals.toArray := by simp
    have e2 : (Go.invoke (Target.fn (Fn.method s) #[]) (Value.iface T r :: vals).toArray).run P w = .ok (.enter g (r :: vals).toArray) w := by
      unfold Go.invoke
      simp only [List.getElem?_toArray, List.getElem?_cons_zero, e1, callMethod]
      have e3 : (callFunc g (#[r] ++ vals.toArray)).run P w = .ok (.enter g (#[r] ++ vals.toArray)) w := c.h _ w
      have e4 : (#[r] ++ vals.toArray) = (r :: vals).toArray := by simp
      rw [e4] at e3
      simp [t.h, e3]
    simp [execOp, ho, resolve, hρ _ _ hf, h5, e2]
  rw [hex]
  refine hcall.mono ?_
  rintro e w' ⟨v, H', O2, rfl, ⟨rfl, hp⟩, hle, hm'⟩
  have hm2 : Mem E w Hs ([] ++ O) := hm
  exact hn v w' _ _ ⟨H', hp, hle, rfl, rfl⟩ (hm2.call (List.mem_cons_of_mem _ hH.h) hm')
end

section
variable {P : Program} {f : FuncId} {n : Nat} {E : Ent} {R : Value → World → Prop} {k : List Item} {Hs : List Snap} {O : List Own} {l : Env}
theorem QF.sliceLHc {T e : TypeId} {x lx hx : Operand} {v : Value} {k k' : IntKind} {lo hi len s : Nat} {i i' : Int} (h1 : opv l x = some v) (h2 : opv l lx = some (.int k i)) (h3 : opv l hx = some (.int k' i')) (hs : IsSl v len) (hl1 : i = (lo : Int)) (hi1 : i' = (hi : Int)) (hle : lo ≤ hi) (hle2 : hi ≤ capOf v)
    [t : TDesc P T (.slice e)] [z : TSz P e s] : QF P l (.slice T x (some lx) (some hx) none) (slv v s lo hi (capOf v)) := by
  intro o ho ρ hρ w
  obtain ⟨A, cap, rfl, g1, g2, g3⟩ := hs
  simp only [capOf] at hle2
  simp only [execOp, ho, Option.map_some, Option.map_none, hρ _ _ h1, hρ _ _ h2, hρ _ _ h3, Instr.sliceAt, Sem.run_bind, run_underlying t.h, Result.andThen_ok, Instr.slice, Instr.sliceBounds, run_sliceBound hi1 hle2, run_sliceBound hl1 hle, Sem.run_pure, z.h, slv, capOf, Option.isSome_none, Bool.false_eq_true, if_false]
  rfl
/-- A three-index slice. -/
theorem QF.sliceLHM {T e : TypeId} {x lx hx mx : Operand} {v : Value} {k k' k'' : IntKind} {lo hi m len s : Nat} {i i' i'' : Int} (h1 : opv l x = some v) (h2 : opv l lx = some (.int k i)) (h3 : opv l hx = some (.int k' i')) (h4 : opv l mx = some (.int k'' i'')) (hs : IsSl v len) (hl1 : i = (lo : Int)) (hi1 : i' = (hi : Int)) (hm1 : i'' = (m : Int)) (hle : lo ≤ hi) (hle2 : hi ≤ m) (hle3 : m ≤ len)
    [t : TDesc P T (.slice e)] [z : TSz P e s] : QF P l (.slice T x (some lx) (some hx) (some mx)) (slv v s lo hi m) := by
  intro o ho ρ hρ w
  obtain ⟨A, cap, rfl, g1, g2, g3⟩ := hs
  have hcap : m ≤ cap := by omega
  simp only [execOp, ho, Option.map_some, Option.map_none, hρ _ _ h1, hρ _ _ h2, hρ _ _ h3, hρ _ _ h4, Instr.sliceAt, Sem.run_bind, run_underlying t.h, Result.andThen_ok, Instr.slice, Instr.sliceBounds, run_sliceBound hm1 hcap, run_sliceBound hi1 hle2, run_sliceBound hl1 hle, Sem.run_pure, z.h, slv, capOf, Option.isSome_none, Bool.false_eq_true, if_false]
  try rfl
/-- A later part of a row is appended to an earlier one, in place. -/
theorem HV.appendDel {T e : TypeId} {x y : Operand} {v z : Value} {sz bytes n i lo : Nat} {xs : List Value} [t : TDesc P T (.slice e)] [j : TInfo P e z sz bytes] (hx : opv l x = some (slv v sz 0 i (capOf v))) (hy : opv l y = some (slv v sz lo n (capOf v))) [g : GetRow O v e sz n xs]
    (h0n : 0 < n) (hin : i ≤ lo) (hlo : lo ≤ n) (h1 : ∀ u ∈ xs, one1 u = true)
    {O1 : Value → List Own} (q : ∀ v', PutRow O v e sz n xs v' (i + (n - lo)) (xs.take (i * sz) ++ xs.drop (lo * sz)) (O1 v')) :
    HV P E Hs O l (.call ⟨.builtin .append, #[x, y], #[T, T]⟩) (fun v' Hs' O2 => Hs' = Hs ∧ O2 = O1 v' ∧ IsSl v' (i + (n - lo)) ∧ ∃ b c, v' = .slice (some ⟨b, 0, none⟩) (i + (n - lo)) c ∧ n ≤ c) := by
  refine HV.of_exec fun o' ho w hm ρ hρ => ?_
  have hown : w.ownsRow 0 e sz v n xs := hm.own _ g.h
  have hsh := own_shrink hown (Nat.le_trans hin hlo) h0n
  have hvs := row_isSl hown
  have hcells0 : ∀ k u, xs[k]? = some u → w.cell? (vat v k) = some u := fun k u hu => row_cell hown hu
  have hxl : xs.length = n * sz := hown.1
  obtain ⟨ti, g1, g2, g3, g4⟩ := j.h
  have hcy : ∀ k u, (xs.drop (lo * sz))[k]? = some u → w.cell? (vat (slv v sz lo n (capOf v)) k) = some u := by
    intro k u hu
    have hk : k < (xs.drop (lo * sz)).length := (List.getElem?_eq_some_iff.1 hu).1
    rw [List.length_drop, hxl, ← Nat.sub_mul] at hk
    have hcap : n ≤ capOf v := by obtain ⟨A, cap, rfl, h2, _⟩ := hvs; exact h2
    rw [vat_slv hvs hlo hk hcap h0n]
    rw [List.getElem?_drop] at hu
    exact hcells0 _ u hu
  have hdl : (xs.drop (lo * sz)).length = (n - lo) * sz := by rw [List.length_drop, hxl, ← Nat.sub_mul]
  rcases hown.2 with ⟨_, hn0⟩ | ⟨gb, cap, cur, hve, _, hh, hnc, hcm, hcs, htk⟩
  · omega
  have hcv : capOf v = cap := by rw [hve]; rfl
  have e1 : slv v sz 0 i (capOf v) = .slice (some ⟨gb, 0, none⟩) i cap := by
    rw [hve]
    simp [slv, capOf, show ¬ cap = 0 by omega, Addr.add_lit]
  obtain ⟨A, c, e2, hA⟩ : ∃ A c, slv v sz lo n (capOf v) = .slice A (n - lo) c ∧ (A = some ⟨gb, lo * sz, none⟩ ∨ (n - lo = 0 ∧ A = some ⟨gb, 0, none⟩)) := by
    rw [hve]
    by_cases hcl : cap = lo
    · exact ⟨_, _, rfl, .inr ⟨by omega, by simp [capOf, hcl]⟩⟩
    · exact ⟨_, _, rfl, .inl (by simp [capOf, hcl, Addr.add_lit])⟩
  rw [e1] at hsh hx
  rw [e2] at hy hcy
  obtain ⟨ad, rfl, had⟩ : ∃ ad, A = some ad ∧ (∀ k u, (xs.drop (lo * sz))[k]? = some u → w.cell? (ad.add k) = some u) := by
    rcases hA with rfl | ⟨h0, rfl⟩
    · refine ⟨_, rfl, fun k u hu => ?_⟩
      rw [Addr.add_lit]
      exact hcy k u hu
    · refine ⟨_, rfl, fun k u hu => ?_⟩
      rw [h0] at hdl
      have : xs.drop (lo * sz) = [] := List.eq_nil_of_length_eq_zero (by simpa using hdl)
      rw [this] at hu; simp at hu
  obtain ⟨w', hr, h2, h3⟩ := run_append_fits (P := P) w 0 T o'.type e ti sz t.h g1 g3 gb i cap (xs.take (i * sz)) hsh.1 ad (n - lo) c (xs.drop (lo * sz)) hdl had (fun u hu => one1_eq (h1 u (List.mem_of_mem_drop hu))) (by omega)
  obtain ⟨pre, post, rfl, qe⟩ := (q (.slice (some ⟨gb, 0, none⟩) (i + (n - lo)) cap)).h
  refine ⟨_, w', Hs, _, ⟨rfl, rfl, row_isSl h2, gb, cap, rfl, hnc⟩, qe ▸ hm.changeAt (y := .row e sz _ (i + (n - lo)) (xs.take (i * sz) ++ xs.drop (lo * sz))) h3.os h3.tape h3.output h3.size (fun k hk hne => h3.block k hk (fun e => hne (by simp only [Own.foot]; rw [hve]; first | exact e | exact e.symm))) h2 (fun b hb => .inl ?_), .inl ?_⟩
  · simp only [Own.foot] at hb ⊢
    rw [hve]
    exact hb
  · simp [execOp, ho, resolve, invoke, builtin, hρ _ _ hx, hρ _ _ hy, hr]
/-- The cells behind a row of ours, in its room, are cleared. -/
theorem HV.clearTail {T e : TypeId} {x : Operand} {z : Value} {sz m b c : Nat} {xs : List Value} [t : TDesc P T (.slice e)] [zz : TZero P e z] (hz : (cellsL z).length = sz) (h1 : allOne (cellsL z) = true) [g : GetRow O (.slice (some ⟨b, 0, none⟩) m c) e sz m xs] (hmc : m + 1 ≤ c) (h0 : 0 < sz)
    (hx : opv l x = some (slv (.slice (some ⟨b, 0, none⟩) m c) sz m (m + 1) c)) : HV P E Hs O l (.call ⟨.builtin .clear, #[x], #[T]⟩) (fun _ Hs' O' => Hs' = Hs ∧ O' = O) := by
  refine HV.of_exec fun o' ho w hm ρ hρ => ?_
  have hown : w.ownsRow 0 e sz (.slice (some ⟨b, 0, none⟩) m c) m xs := hm.own _ g.h
  rcases hown.2 with ⟨h, _⟩ | ⟨gb, cap, cur, hve, _, hh, hnc, hcm, hcs, htk⟩
  · cases h
  simp only [Value.slice.injEq, Option.some.injEq, Addr.mk.injEq, and_true, true_and] at hve
  obtain ⟨rfl, rfl⟩ := hve
  have hxv : slv (.slice (some ⟨b, 0, none⟩) m c) sz m (m + 1) c = .slice (some ⟨b, m * sz, none⟩) 1 (c - m) := by
    unfold slv
    dsimp only
    rw [if_neg (by omega), Option.map_some, Addr.add_lit, Nat.zero_add, show m + 1 - m = 1 by omega]
  rw [hxv] at hx
  have hzc : (Builtin.zeroCells z.cells 1).toList = cellsL z := by
    rw [cellsL_eq] at *
    apply List.ext_getElem
    · simp [Builtin.zeroCells]
    · intro i h1 h2
      simp only [Builtin.zeroCells]
      simp [Nat.mod_eq_of_lt h2, h2]
  have hcl : cur.toList.length = c * sz := by simpa using hcs
  have hfit : m * sz + sz ≤ c * sz := by rw [← Nat.succ_mul]; exact Nat.mul_le_mul_right _ hmc
  have hp : putAll cur.toList (m * sz) (cellsL z) = some (cur.toList.take (m * sz) ++ cellsL z ++ cur.toList.drop (m * sz + sz)) := by
    have h5 : cur.toList = cur.toList.take (m * sz) ++ (cur.toList.drop (m * sz)).take sz ++ cur.toList.drop (m * sz + sz) := by
      rw [← List.drop_drop, List.append_assoc, List.take_append_drop, List.take_append_drop]
    have h6 := putAll_mid (cellsL z) ((cur.toList.drop (m * sz)).take sz) (cur.toList.take (m * sz)) (cur.toList.drop (m * sz + sz)) (by rw [List.length_take, List.length_drop]; omega)
    rw [← h5, List.length_take, Nat.min_eq_left (by omega)] at h6
    exact h6
  obtain ⟨w', hr, h2, h3⟩ := run_storeCells (P := P) (cellsL z) w cur.toList _ (m * sz) 0 (by simpa using hh) (by simpa using hp) (allOne_eq h1)
  have hown' : w'.ownsRow 0 e sz (.slice (some ⟨b, 0, none⟩) m c) m xs := by
    refine ⟨hown.1, .inr ⟨b, c, _, rfl, Nat.zero_le _, h2, hnc, hcm, ?_, ?_⟩⟩
    · simp only [List.size_toArray, List.length_append, List.length_take, List.length_drop]
      omega
    · rw [← htk]
      simp only [List.append_assoc]
      rw [List.take_append_of_le_length (by rw [List.length_take]; omega), List.take_take, Nat.min_self]
  obtain ⟨pre, post, hO⟩ := List.append_of_mem g.h
  refine ⟨.tuple #[], w', Hs, O, ⟨rfl, rfl⟩, ?_, .inl ?_⟩
  · rw [hO] at hm ⊢
    exact hm.changeAt (y := .row e sz (.slice (some ⟨b, 0, none⟩) m c) m xs) h3.os h3.tape h3.output (Nat.le_of_eq h3.size.symm) (fun k hk hne => h3.block k (fun e => hne (by rw [e]; rfl))) hown' (fun b hb => .inl hb)
  · simp [execOp, ho, resolve, invoke, builtin, hρ _ _ hx, Builtin.clear_, run_underlying t.h, zz.h, hzc, hr]
end

/-! ### Two operations beside a floating allocation -/
section
variable {P : Program} {f : FuncId} {n : Nat} {E : Ent} {R : Value → World → Prop} {k : List Item} {Hs : List Snap} {O : List Own} {l : Env} {L : List Oper} {ty : TypeId} {pos : String} {aft : Array Edge} {g : Option (Nat × Bool)}
  {Hs0 : List Snap} {O0 : List Own} {lt : List Nat} {fuel : Nat} {listed : Array Bool} {j dj : Nat} {T : TypeId} {cs : List Value}
structure HVf (P : Program) (E : Ent) (Hs : List Snap) (O : List Own) (l : Env) (dj : Nat) (T : TypeId) (cs : List Value) (op : Op) (post : Value → List Snap → List Own → Prop) : Prop where
  one : HV P E Hs O l op post
  two : ∀ b, HV P E Hs (O ++ [.blk b T cs]) (l ++ [(dj, .pointer (some ⟨b, 0, none⟩))]) op (fun v Hs' O' => ∃ O1, O' = O1 ++ [.blk b T cs] ∧ post v Hs' O1)
theorem HVf.buildSlice {Ts e : TypeId} {len s : Nat} {Lp : List (Nat × Operand)} {vs : List (Nat × Value)} {z : Value} {cs' : List Value} [t : TDesc P Ts (.slice e)] [z1 : TSz P e s] [jz : TZero P e z] (hx : opvs l Lp = some vs)
    (hs : Nat.beq (cellsL z).length s = true) (hl : Nat.ble (len * s) 16777216 = true) (hl2 : Nat.ble len 16777216 = true) (hf : fillL (fun i => some (i * s, s)) (repL len (cellsL z)) vs = some cs') :
    HVf P E Hs O l dj T cs (.buildSlice Ts len Lp.toArray) (fun v Hs' O1 => Hs' = Hs ∧ O1 = .row e s v len cs' :: O ∧ IsSl v len) := by
  refine ⟨HV.buildSlice hx hs hl hl2 hf, fun b o ho w hm a ha next Q hn => ?_⟩
  refine (HV.buildSlice (E := E) (Hs := Hs) (O := O ++ [.blk b T cs]) (t := t) (z1 := z1) (j := jz) (opvs_app hx) hs hl hl2 hf) o ho w hm a ha next Q ?_
  rintro v w' Hs' O' ⟨rfl, rfl, h1⟩ hm'
  exact hn v w' Hs' _ ⟨_, rfl, rfl, rfl, h1⟩ hm'
theorem HVf.appendH {α : Type} {A : Lay α} {H : Snap} {ys : List α} {Ts e : TypeId} {x y : Operand} {v vy z : Value} {sz bytes a : Nat} {xs ds : List Value} [t : TDesc P Ts (.slice e)] [ji : TInfo P e z sz bytes] (hx : opv l x = some v) (hy : opv l y = some vy) [q1 : GetRow O v e sz a xs] (hs : IsSl vy ys.length) (hcr : CellsRep H A ys ds) (hcell : ∀ j u, ds[j]? = some u → H.cell (vat vy j) = some u) [iH : InH Hs H] (hsz : A.sz = sz)
    (hz : Nat.beq (cellsL z).length sz = true) (h0 : sz ≠ 0) (hb : (a + ys.length) * bytes ≤ 140737488355328) (hb2 : a + ys.length ≤ 140737488355328)
    {O1 : Value → List Own} (q : ∀ v', PutRow O v e sz a xs v' (a + ys.length) (xs ++ ds) (O1 v')) :
    HVf P E Hs O l dj T cs (.call ⟨.builtin .append, #[x, y], #[Ts, Ts]⟩) (fun v' Hs' O2 => Hs' = Hs ∧ O2 = O1 v' ∧ IsSl v' (a + ys.length)) := by
  refine ⟨HV.append hx hy hs (by rw [hcr.length, hsz]) (fun w hm k u hu => hm.cellH (hcell k u hu)) hcr.one1 hz h0 hb hb2 q, fun b o ho w hm a' ha next Q hn => ?_⟩
  refine (HV.append (E := E) (Hs := Hs) (O := O ++ [.blk b T cs]) (O1 := fun v' => O1 v' ++ [.blk b T cs]) (opv_app hx) (opv_app hy) hs (by rw [hcr.length, hsz]) (fun w hm k u hu => hm.cellH (hcell k u hu)) hcr.one1 hz h0 hb hb2 (fun v' => (q v').app)) o ho w hm a' ha next Q ?_
  rintro v' w' Hs' O' ⟨rfl, rfl, h1⟩ hm'
  exact hn v' w' Hs' _ ⟨_, rfl, rfl, rfl, h1⟩ hm'
theorem DWf.h2 (i i2 : Nat) {di di2 : Nat} {opi opi2 : Op} {tyi tyi2 : TypeId} {posi posi2 : String} {afti afti2 : Array Edge} {gi gi2 : Option (Nat × Bool)} {posti posti2 : Value → List Snap → List Own → Prop} {zj : Value} [tj : TZero P T zj] {tyj : TypeId} {posj : String} {aftj : Array Edge} (hij : Nat.beq i j = false) (hij2 : Nat.beq i2 j = false)
    (hj : opAt L j = some ⟨some dj, .alloc T, tyj, posj, aftj, none⟩) (hc : cellsO zj = some cs) (hi : opAt L i = some ⟨some di, opi, tyi, posi, afti, gi⟩) (hi2 : opAt L i2 = some ⟨some di2, opi2, tyi2, posi2, afti2, gi2⟩)
    (hrd : (Region.ready .any L.toArray listed == [i, i2, j]) = true) (hrd2 : (Region.ready .any L.toArray (listed.setIfInBounds j true) == [i, i2]) = true) (hdj : Nat.blt dj n = true) (hnj : (efind l dj).isNone = true)
    (hq : HVf P E Hs O l dj T cs opi posti) (hq2 : HVf P E Hs O l dj T cs opi2 posti2) (hg : guardIs L l gi = some true) (hg2 : guardIs L l gi2 = some true) (hd : Nat.blt di n = true) (hd2 : Nat.blt di2 n = true)
    (hs1 : ∀ v Hs' O', posti v Hs' O' → (∀ w, Mem E w Hs O → Mem E w Hs0 O0) → ∀ w, Mem E w Hs' O' → Mem E w Hs0 O0) (hs2 : ∀ v Hs' O', posti2 v Hs' O' → (∀ w, Mem E w Hs O → Mem E w Hs0 O0) → ∀ w, Mem E w Hs' O' → Mem E w Hs0 O0)
    (h1 : ∀ v Hs' O', posti v Hs' O' → DWf P f n E R L Hs0 O0 lt j dj T cs fuel (listed.setIfInBounds i true) k Hs' O' ((di, v) :: l)) (h2 : ∀ v Hs' O', posti2 v Hs' O' → DWf P f n E R L Hs0 O0 lt j dj T cs fuel (listed.setIfInBounds i2 true) k Hs' O' ((di2, v) :: l)) :
    DWf P f n E R L Hs0 O0 lt j dj T cs (fuel + 1) listed k Hs O l := by
  have hne : i ≠ j := fun e => by rw [e] at hij; simp at hij
  have hne2 : i2 ≠ j := fun e => by rw [e] at hij2; simp at hij2
  intro hsub
  have two : ∀ b, DW P f n E R L Hs0 O0 lt true (fuel + 1) (listed.setIfInBounds j true) k Hs (O ++ [.blk b T cs]) (l ++ [(dj, .pointer (some ⟨b, 0, none⟩))]) := by
    intro b
    refine DW.h2 i i2 hi hi2 hrd2 (hq.two b) (hq2.two b) (guardIs_app hg) (guardIs_app hg2) hd hd2 rfl ?_ ?_
    · rintro v Hs' O' ⟨O1, rfl, hp⟩
      refine ⟨fun w hm => hs1 v Hs' O1 hp hsub w hm.subApp, ?_⟩
      have := (h1 v Hs' O1 hp (hs1 v Hs' O1 hp hsub)).2 b
      rw [Array.setIfInBounds_comm _ _ hne] at this
      exact this
    · rintro v Hs' O' ⟨O1, rfl, hp⟩
      refine ⟨fun w hm => hs2 v Hs' O1 hp hsub w hm.subApp, ?_⟩
      have := (h2 v Hs' O1 hp (hs2 v Hs' O1 hp hsub)).2 b
      rw [Array.setIfInBounds_comm _ _ hne2] at this
      exact this
  refine ⟨?_, two⟩
  intro hsub'
  refine DW.all hrd rfl (fun x hx w hs0 hm a ha => ?_) hsub'
  have hs := hs0 rfl
  have hx' : x = i ∨ x = i2 ∨ x = j := by simpa using hx
  rcases hx' with rfl | rfl | rfl
  · rw [opAt_eq] at hi
    unfold wpOp
    simp only [hi]
    rw [guardIs_spec (o := ⟨some di, opi, tyi, posi, afti, gi⟩) ha hg, if_pos rfl]
    exact .inl (hq.one ⟨some di, opi, tyi, posi, afti, gi⟩ rfl w hm a (fun x u hx => ha.eval hx) _ _ (fun v w' Hs' O' hp hm' => ⟨fun _ _ => hs1 v Hs' O' hp hsub w' hm', fun _ => hm'.agr _ (List.mem_cons_self ..), (h1 v Hs' O' hp (hs1 v Hs' O' hp hsub)).1 (fun _ => hs1 v Hs' O' hp hsub) w' hm' _ (ha.put di v hd)⟩))
  · rw [opAt_eq] at hi2
    unfold wpOp
    simp only [hi2]
    rw [guardIs_spec (o := ⟨some di2, opi2, tyi2, posi2, afti2, gi2⟩) ha hg2, if_pos rfl]
    exact .inl (hq2.one ⟨some di2, opi2, tyi2, posi2, afti2, gi2⟩ rfl w hm a (fun x u hx => ha.eval hx) _ _ (fun v w' Hs' O' hp hm' => ⟨fun _ _ => hs2 v Hs' O' hp hsub w' hm', fun _ => hm'.agr _ (List.mem_cons_self ..), (h2 v Hs' O' hp (hs2 v Hs' O' hp hsub)).1 (fun _ => hs2 v Hs' O' hp hsub) w' hm' _ (ha.put di2 v hd2)⟩))
  · rw [opAt_eq] at hj
    unfold wpOp
    simp only [hj]
    rw [guardIs_spec (o := ⟨some dj, .alloc T, tyj, posj, aftj, none⟩) ha (by rfl), if_pos rfl]
    refine .inl ((HV.alloc (P := P) (E := E) (Hs := Hs) (O := O) (l := l) (T := T) (z := zj)) ⟨some dj, .alloc T, tyj, posj, aftj, none⟩ rfl w hm a (fun x u hx => ha.eval hx) _ _ ?_)
    rintro v w' Hs' O' ⟨rfl, b, rfl, rfl⟩ hm'
    rw [cellsO_eq hc] at hm'
    have hm2 : Mem E w' Hs' (O ++ [.blk b T cs]) := hm'.perm (perm_last _ O)
    exact ⟨fun _ _ => hsub w' hm2.subApp, fun _ => hm2.agr _ (List.mem_cons_self ..), two b (fun _ w hm => hsub w hm.subApp) w' hm2 _ (ha.put_app dj _ hdj hnj)⟩
end
end Go.Proofs.Ytbiohkncdlhigaa

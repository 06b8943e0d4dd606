/-
  More steps of the walks: allocations in drawn regions, tests of truth values, joins behind a region. Conditions: none.
-/
import Derived.Test.YthlolpckgffebaaFx
namespace Go.Proofs.Ythlolpckgffebaa
open Go Go.RowKit

section
variable {P : Program} {f : FuncId} {n : Nat} {E : Ent} {R : Value → World → Prop} {k : List Item} {Hs : List Snap} {O : List Own} {l : Env} {L : List Oper} {os : List Oper} {d : Nat} {ty : TypeId} {pos : String} {aft : Array Edge} {g : Option (Nat × Bool)}
  {Hs0 : List Snap} {O0 : List Own} {lt : List Nat} {st : Bool} {fuel : Nat} {listed : Array Bool}
theorem DW.alloc (i : Nat) {T : TypeId} {z : Value} {cs : List Value} [t : TZero P T z] (hi : opAt L i = some ⟨some d, .alloc T, ty, pos, aft, g⟩) (hrd : (Region.ready .any L.toArray listed == [i]) = true) (hc : cellsO z = some cs) (hg : guardIs L l g = some true) (hd : Nat.blt d n = true)
    (h : ∀ b, DW P f n E R L Hs0 O0 lt true fuel (listed.setIfInBounds i true) k Hs (.blk b T cs :: O) ((d, .pointer (some ⟨b, 0, none⟩)) :: l)) : DW P f n E R L Hs0 O0 lt true (fuel + 1) listed k Hs O l := by
  intro hsub
  refine DW.h i true hi hrd HV.alloc hg hd (by simp) ?_ hsub
  rintro v Hs' O' ⟨rfl, b, rfl, rfl⟩
  rw [cellsO_eq hc]
  have hs2 : ∀ w, Mem E w Hs' (.blk b T cs :: O) → Mem E w Hs' O := fun w hm => hm.sub (fun x hx => List.mem_cons_of_mem _ hx) (List.sublist_cons_self _ _)
  exact ⟨fun _ w hm => hsub rfl w (hs2 w hm), fun _ w hm => h b (fun _ w hm => hsub rfl w (hs2 w hm)) w hm⟩
theorem DW.box (i : Nat) {T : TypeId} {x : Operand} {u : Value} {cs : List Value} (hi : opAt L i = some ⟨some d, .box T x, ty, pos, aft, g⟩) (hrd : (Region.ready .any L.toArray listed == [i]) = true) (hx : opv l x = some u) (hc : cellsO u = some cs) (hg : guardIs L l g = some true) (hd : Nat.blt d n = true)
    (h : ∀ b, DW P f n E R L Hs0 O0 lt true fuel (listed.setIfInBounds i true) k Hs (.blk b T cs :: O) ((d, .pointer (some ⟨b, 0, none⟩)) :: l)) : DW P f n E R L Hs0 O0 lt true (fuel + 1) listed k Hs O l := by
  intro hsub
  refine DW.h i true hi hrd (HV.box hx) hg hd (by simp) ?_ hsub
  rintro v Hs' O' ⟨rfl, b, rfl, rfl⟩
  rw [cellsO_eq hc]
  have hs2 : ∀ w, Mem E w Hs' (.blk b T cs :: O) → Mem E w Hs' O := fun w hm => hm.sub (fun x hx => List.mem_cons_of_mem _ hx) (List.sublist_cons_self _ _)
  exact ⟨fun _ w hm => hsub rfl w (hs2 w hm), fun _ w hm => h b (fun _ w hm => hsub rfl w (hs2 w hm)) w hm⟩
theorem RW.join {ops : Array Oper} {Hs' : List Snap} {O' : List Own} {l' : Env} (h1 : Runs P f n E R k Hs' O' l' → RW P f n E R ops os k Hs O l) (h2 : Runs P f n E R k Hs' O' l') : RW P f n E R ops os k Hs O l := h1 h2
theorem DW.join {Hs' : List Snap} {O' : List Own} {l' : Env} (h1 : Runs P f n E R k Hs' O' l' → DW P f n E R L Hs0 O0 lt st fuel listed k Hs O l) (h2 : Runs P f n E R k Hs' O' l') : DW P f n E R L Hs0 O0 lt st fuel listed k Hs O l := h1 h2
end
theorem QF.eqlB {P : Program} {l : Env} {T T' : TypeId} {x y : Operand} {a b : Bool} [t : TDesc P T .bool] (hx : opv l x = some (.bool a)) (hy : opv l y = some (.bool b)) : QF P l (.binOp .eql T x y T') (.bool (a == b)) := by
  intro o ho ρ hρ w
  simp [execOp, ho, hρ _ _ hx, hρ _ _ hy, eqGuard_at_bool, run_eql_bool w T a b t.h]
theorem QF.neqB {P : Program} {l : Env} {T T' : TypeId} {x y : Operand} {a b : Bool} [t : TDesc P T .bool] (hx : opv l x = some (.bool a)) (hy : opv l y = some (.bool b)) : QF P l (.binOp .neq T x y T') (.bool (a != b)) := by
  intro o ho ρ hρ w
  simp [execOp, ho, hρ _ _ hx, hρ _ _ hy, eqGuard_at_bool, run_neq_bool w T a b t.h]
  cases a <;> cases b <;> rfl
theorem QF.eqlP {P : Program} {l : Env} {T T' e : TypeId} {x y : Operand} {p : Option Addr} [t : TDesc P T (.pointer e)] (hx : opv l x = some (.pointer p)) (hy : opv l y = some (.pointer none)) : QF P l (.binOp .eql T x y T') (.bool p.isNone) := by
  intro o ho ρ hρ w
  have h : ∀ d : Nat, (Op.equalIn (d + 1) T (.pointer p) (.pointer none)).run P w = .ok p.isNone w := fun d => by
    cases p <;> simp [Op.equalIn, run_underlying t.h]
  have h2 : (binOp .eql T (.pointer p) (.pointer none)).run P w = .ok (.bool p.isNone) w := by
    simp only [binOp]
    simp [Op.equal, Op.maxDepth, h 9999]
  simp [execOp, ho, hρ _ _ hx, hρ _ _ hy, eqGuard_at_pointer, h2]
theorem QF.neqP {P : Program} {l : Env} {T T' e : TypeId} {x y : Operand} {p : Option Addr} [t : TDesc P T (.pointer e)] (hx : opv l x = some (.pointer p)) (hy : opv l y = some (.pointer none)) : QF P l (.binOp .neq T x y T') (.bool p.isSome) := by
  intro o ho ρ hρ w
  have h : ∀ d : Nat, (Op.equalIn (d + 1) T (.pointer p) (.pointer none)).run P w = .ok p.isNone w := fun d => by
    cases p <;> simp [Op.equalIn, run_underlying t.h]
  have h2 : (binOp .neq T (.pointer p) (.pointer none)).run P w = .ok (.bool p.isSome) w := by
    simp only [binOp]
    simp [Op.equal, Op.maxDepth, h 9999]
  simp [execOp, ho, hρ _ _ hx, hρ _ _ hy, eqGuard_at_pointer, h2]
abbrev I8 : Lay Int := Lay.flat 1 (fun x => [.int .i8 x]) (fun _ => rfl) (by simp [one1])
def isI8 (x : Int) : Prop := -128 ≤ x ∧ x ≤ 127
theorem QF.indexArrB {P : Program} {l : Env} {T e : TypeId} {x ix : Operand} {kd : IntKind} {b o len s : Nat} {i : Int} (hx : opv l x = some (.pointer (some ⟨b, o, none⟩))) (hi : opv l ix = some (.int kd i)) (hj : 0 ≤ i ∧ i.toNat < len) [t : TDesc P T (.array len e)] [z : TSz P e s] :
    QF P l (.indexAddr T x ix) (.pointer (some ⟨b, o + i.toNat * s, none⟩)) := by
  intro o' ho ρ hρ w
  obtain ⟨j, rfl⟩ : ∃ j : Nat, i = (j : Int) := ⟨i.toNat, by omega⟩
  simp only [Int.toNat_natCast] at hj ⊢
  have h6 : ¬ len ≤ j := by omega
  simp [execOp, ho, hρ _ _ hx, hρ _ _ hi, Instr.indexAt, asIntOf, run_underlying t.h, z.h, Instr.sureAddr, h6, Addr.add_lit]
end Go.Proofs.Ythlolpckgffebaa

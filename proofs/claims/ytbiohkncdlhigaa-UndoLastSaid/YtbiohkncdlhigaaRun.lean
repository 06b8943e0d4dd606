/-
  The words for the walk's steps that make or write memory; contracts of functions that write nothing of ours; snapshots; returns. Conditions: as each lemma names them.
-/
import Derived.Test.YtbiohkncdlhigaaMem2
namespace Go.Proofs.Ytbiohkncdlhigaa
open Go Go.RowKit

/-- The contract of a function that writes nothing that it was handed. -/
def Pure (P : Program) (f : FuncId) (args : Array Value) (H : Snap) (post : Snap → Value → Prop) : Prop :=
  Ctr P f args H [] (fun H' O' v => O' = [] ∧ post H' v)

theorem Pure.intro {P : Program} {f : FuncId} {fn : Func} {c : Code} {n : Nat} {vs : List Value} {H : Snap} {post : Snap → Value → Prop}
    (hf : P.funcs[f]? = some fn) (hb : fn.body = some c) (hn : fn.ntmps = n) (hle : Nat.ble vs.length n = true)
    (h : ∀ (E : Ent) (R : Value → World → Prop), E.M = [] → (∀ v w' Hs' H' O', H' ∈ H :: Hs' → H.le H' → post H' v → Mem E w' Hs' O' → R v w') → Runs P f n E R [.code c] [H] [] (argEnv 0 vs)) :
    Pure P f vs.toArray H post :=
  Ctr.intro hf hb hn hle fun E R hM hR => h E R hM fun v w' Hs' H' _ hin hl hp hm =>
    hR v w' Hs' H' [] hin hl ⟨rfl, hp⟩ (hm.sub (fun _ hx => List.mem_cons_of_mem _ hx) (List.nil_sublist _))
theorem Pure.mono {P : Program} {f : FuncId} {args : Array Value} {H : Snap} {post post' : Snap → Value → Prop} (h : Pure P f args H post) (hp : ∀ H' v, H.le H' → post H' v → post' H' v) : Pure P f args H post' :=
  fun w hm => (h w hm).mono fun _ _ ⟨v, H', O', h1, ⟨h2, h3⟩, h4, h5⟩ => ⟨v, H', O', h1, ⟨h2, hp H' v h4 h3⟩, h4, h5⟩

/-! ### Many steps as one -/
def qcmp (op : BinOp) (a b : Int) : Option Bool :=
  match op with
  | .lss => some (decide (a < b))
  | .leq => some (decide (a ≤ b))
  | .gtr => some (decide (b < a))
  | .geq => some (decide (b ≤ a))
  | .eql => some (decide (a = b))
  | .neq => some (decide (a ≠ b))
  | _ => none
def qev (l : Env) : Op → Option Value
  | .move x => opv l x
  | .assign x => opv l x
  | .pick c a b => match opv l c with
    | some (.bool true) => opv l a
    | some (.bool false) => opv l b
    | _ => none
  | .nilCheck x => match opv l x with
    | some (.pointer (some a)) => some (.pointer (some a))
    | _ => none
  | .extract x i => match opv l x with
    | some (.tuple ⟨vs⟩) => nth vs i
    | _ => none
  | .binOp op _ x y _ => match opv l x with
    | some (.int .i64 a) => match opv l y with
      | some (.int .i64 b) => match qcmp op a b with
        | some c => some (.bool c)
        | none => none
      | _ => none
    | _ => none
  | .unOp .not _ x => match opv l x with
    | some (.bool b) => some (.bool (!b))
    | _ => none
  | _ => none
theorem qev_eq {P : Program} {l : Env} {op : Op} {v : Value} (h : qev l op = some v) : QF P l op v := by
  unfold qev at h
  split at h
  · exact QF.move h
  · exact QF.assign h
  · split at h
    · rename_i hc; exact QF.pick_t hc h
    · rename_i hc; exact QF.pick_f hc h
    · cases h
  · split at h
    · rename_i hx; cases h; exact QF.nilCheck hx
    · cases h
  · split at h
    · rename_i hx; exact QF.extract hx (by rw [nth_eq] at h; simpa using h)
    · cases h
  · split at h
    · rename_i hx
      split at h
      · rename_i hy
        split at h
        · rename_i hq
          simp only [Option.some.injEq] at h
          subst h
          unfold qcmp at hq
          split at hq <;> cases hq
          · exact QF.lss hx hy
          · exact QF.leq hx hy
          · exact QF.gtr hx hy
          · exact QF.geq hx hy
          · exact QF.eql hx hy
          · exact QF.neq hx hy
        · cases h
      · cases h
    · cases h
  · split at h
    · rename_i hx; cases h; exact QF.not hx
    · cases h
  · cases h

def sameGuard : Option (Nat × Bool) → Option (Nat × Bool) → Bool
  | none, _ => true
  | some (i, a), some (j, b) => Nat.beq i j && (a == b)
  | _, _ => false
/-- The first operations that only compute over the slots, as long as their guard is the first one's or none. -/
def easyAll (n : Nat) (L : List Oper) (g0 : Option (Nat × Bool)) : List Oper → Env → Option (List Oper × Env)
  | [], l => some ([], l)
  | o :: os, l => match o.dst with
    | none => some (o :: os, l)
    | some d => match Nat.blt d n && sameGuard o.guard g0 with
      | false => some (o :: os, l)
      | true => match guardIs L l o.guard with
        | some true => match qev l o.op with
          | none => some (o :: os, l)
          | some v => easyAll n L g0 os ((d, v) :: l)
        | _ => some (o :: os, l)
def easyRun (n : Nat) (L : List Oper) : List Oper → Env → Option (List Oper × Env)
  | [], _ => none
  | o :: os, l => match o.dst with
    | none => none
    | some d => match Nat.blt d n with
      | false => none
      | true => match guardIs L l o.guard with
        | some true => match qev l o.op with
          | none => none
          | some v => easyAll n L o.guard os ((d, v) :: l)
        | _ => none
/-- The first operations whose guard is known not to hold. -/
def passAll (n : Nat) (L : List Oper) : List Oper → Env → Option (List Oper × Env)
  | [], l => some ([], l)
  | o :: os, l => match o.guard with
    | none => some (o :: os, l)
    | some _ => match o.dst with
      | none => some (o :: os, l)
      | some d => match Nat.blt d n with
        | false => some (o :: os, l)
        | true => match guardIs L l o.guard with
          | some false => passAll n L os ((d, undef) :: l)
          | _ => some (o :: os, l)
def passRun (n : Nat) (L : List Oper) : List Oper → Env → Option (List Oper × Env)
  | [], _ => none
  | o :: os, l => match o.dst with
    | none => none
    | some d => match Nat.blt d n with
      | false => none
      | true => match guardIs L l o.guard with
        | some false => passAll n L os ((d, undef) :: l)
        | _ => none

/-- The next place of the code that is a region, a test, a loop or a return. -/
def cs1 : List Item → Option (List Item)
  | .code (.seq x y) :: k => some (.code x :: .code y :: k)
  | .code .skip :: k => some k
  | .code (.label _) :: k => some k
  | .code (.block id c) :: k => some (.code c :: .inBlock id :: k)
  | .inBlock _ :: k => some k
  | .code (.scope c) :: k => some (.code c :: .inScope c :: k)
  | .inScope _ :: k => some k
  | .code (.exit id) :: k => exitTo id k
  | _ => none
def cstep : Nat → List Item → Option (List Item)
  | 0, k => some k
  | fuel + 1, k => match cs1 k with
    | some k' => cstep fuel k'
    | none => some k
def csteps (k : List Item) : Option (List Item) :=
  match cs1 k with
  | some k' => cstep 60 k'
  | none => none

section
variable {P : Program} {f : FuncId} {n : Nat} {E : Ent} {R : Value → World → Prop} {k : List Item} {Hs : List Snap} {O : List Own} {l : Env}
theorem Runs.cs1_eq {k k' : List Item} (h : cs1 k = some k') (hr : Runs P f n E R k' Hs O l) : Runs P f n E R k Hs O l := by
  unfold cs1 at h
  split at h
  · cases h; exact Runs.seq hr
  · cases h; exact Runs.skip hr
  · cases h; exact Runs.label hr
  · cases h; exact Runs.block hr
  · cases h; exact Runs.inBlock hr
  · cases h; exact Runs.scope hr
  · cases h; exact Runs.inScope hr
  · exact Runs.exit h hr
  · cases h
theorem Runs.cstep_eq : ∀ (fuel : Nat) (k k' : List Item), cstep fuel k = some k' → Runs P f n E R k' Hs O l → Runs P f n E R k Hs O l
  | 0, k, k', h, hr => by simp only [cstep, Option.some.injEq] at h; subst h; exact hr
  | fuel + 1, k, k', h, hr => by
    simp only [cstep] at h
    split at h
    · rename_i k1 h1; exact Runs.cs1_eq h1 (Runs.cstep_eq fuel _ _ h hr)
    · simp only [Option.some.injEq] at h; subst h; exact hr
theorem Runs.code {k k' : List Item} (h : csteps k = some k') (hr : Runs P f n E R k' Hs O l) : Runs P f n E R k Hs O l := by
  unfold csteps at h
  split at h
  · rename_i k1 h1; exact Runs.cs1_eq h1 (Runs.cstep_eq 60 _ _ h hr)
  · cases h
variable {L : List Oper} {d : Nat} {ty : TypeId} {pos : String} {aft : Array Edge} {os : List Oper} {g : Option (Nat × Bool)}

theorem RW.easy {op : Op} {v : Value} (hq : qev l op = some v) (hg : guardIs L l g = some true) (hd : Nat.blt d n = true)
    (h : RW P f n E R L.toArray os k Hs O ((d, v) :: l)) : RW P f n E R L.toArray (⟨some d, op, ty, pos, aft, g⟩ :: os) k Hs O l := RW.q (qev_eq hq).qv hg hd h
theorem RW.easyAll_eq (g0 : Option (Nat × Bool)) : ∀ (os : List Oper) (l : Env) (os' : List Oper) (l' : Env), easyAll n L g0 os l = some (os', l') → RW P f n E R L.toArray os' k Hs O l' → RW P f n E R L.toArray os k Hs O l
  | [], l, os', l', h, hr => by unfold easyAll at h; cases h; exact hr
  | o :: os, l, os', l', h, hr => by
    unfold easyAll at h
    split at h
    · cases h; exact hr
    · rename_i d hd
      split at h
      · cases h; exact hr
      · rename_i hb
        rw [Bool.and_eq_true] at hb
        split at h
        · rename_i hg
          split at h
          · cases h; exact hr
          · rename_i v hq
            obtain ⟨od, oop, oty, opos, oaft, og⟩ := o
            simp only at hd; subst hd
            exact RW.easy hq hg hb.1 (RW.easyAll_eq g0 os _ os' l' h hr)
        · cases h; exact hr
theorem RW.easyRun {os' : List Oper} {l' : Env} (h : easyRun n L os l = some (os', l')) (hr : RW P f n E R L.toArray os' k Hs O l') : RW P f n E R L.toArray os k Hs O l := by
  cases os with
  | nil => cases h
  | cons o os1 =>
    obtain ⟨od, oop, oty, opos, oaft, og⟩ := o
    cases od with
    | none => cases h
    | some d =>
      unfold Go.Proofs.Ytbiohkncdlhigaa.easyRun at h
      simp only at h
      split at h
      · cases h
      · rename_i hb
        split at h
        · rename_i hg
          split at h
          · cases h
          · rename_i v hq
            exact RW.easy hq hg hb (RW.easyAll_eq og os1 _ os' l' h hr)
        · cases h
theorem RW.passAll_eq : ∀ (os : List Oper) (l : Env) (os' : List Oper) (l' : Env), passAll n L os l = some (os', l') → RW P f n E R L.toArray os' k Hs O l' → RW P f n E R L.toArray os k Hs O l
  | [], l, os', l', h, hr => by unfold passAll at h; cases h; exact hr
  | o :: os, l, os', l', h, hr => by
    unfold passAll at h
    split at h
    · cases h; exact hr
    · split at h
      · cases h; exact hr
      · rename_i d hd
        split at h
        · cases h; exact hr
        · rename_i hb
          split at h
          · rename_i hg
            obtain ⟨od, oop, oty, opos, oaft, og⟩ := o
            simp only at hd; subst hd
            exact RW.pass hg hb (RW.passAll_eq os _ os' l' h hr)
          · cases h; exact hr
theorem RW.passRun {os' : List Oper} {l' : Env} (h : passRun n L os l = some (os', l')) (hr : RW P f n E R L.toArray os' k Hs O l') : RW P f n E R L.toArray os k Hs O l := by
  cases os with
  | nil => cases h
  | cons o os1 =>
    obtain ⟨od, oop, oty, opos, oaft, og⟩ := o
    cases od with
    | none => cases h
    | some d =>
      unfold Go.Proofs.Ytbiohkncdlhigaa.passRun at h
      simp only at h
      split at h
      · cases h
      · rename_i hb
        split at h
        · rename_i hg
          exact RW.pass hg hb (RW.passAll_eq os1 _ os' l' h hr)
        · cases h
theorem RW.box {T : TypeId} {x : Operand} {u : Value} {cs : List Value} (hx : opv l x = some u) (hc : cellsO u = some cs) (hg : guardIs L l g = some true) (hd : Nat.blt d n = true)
    (h : ∀ b, RW P f n E R L.toArray os k Hs (.blk b T cs :: O) ((d, .pointer (some ⟨b, 0, none⟩)) :: l)) : RW P f n E R L.toArray (⟨some d, .box T x, ty, pos, aft, g⟩ :: os) k Hs O l :=
  RW.h (HV.box hx) hg hd (by rintro v Hs' O' ⟨rfl, b, rfl, rfl⟩; rw [cellsO_eq hc]; exact h b)
theorem RW.alloc {T : TypeId} {z : Value} {cs : List Value} [i : TZero P T z] (hc : cellsO z = some cs) (hg : guardIs L l g = some true) (hd : Nat.blt d n = true)
    (h : ∀ b, RW P f n E R L.toArray os k Hs (.blk b T cs :: O) ((d, .pointer (some ⟨b, 0, none⟩)) :: l)) : RW P f n E R L.toArray (⟨some d, .alloc T, ty, pos, aft, g⟩ :: os) k Hs O l :=
  RW.h HV.alloc hg hd (by rintro v Hs' O' ⟨rfl, b, rfl, rfl⟩; rw [cellsO_eq hc]; exact h b)
theorem RW.storeB {T T' : TypeId} {x y : Operand} {b o : Nat} {v : Value} {cs cs' : List Value} {O' : List Own} (hx : opv l x = some (.pointer (some ⟨b, o, none⟩))) (hy : opv l y = some v) [q : GetBlk O b T' cs] (hp : putAll cs o (cellsL v) = some cs') (h1 : allOne (cellsL v) = true) [s : TSz P T (cellsL v).length] [u : PutBlk O b T' cs cs' O'] (hg : guardIs L l g = some true)
    (h : RW P f n E R L.toArray os k Hs O' l) : RW P f n E R L.toArray (⟨none, .store T x y, ty, pos, aft, g⟩ :: os) k Hs O l :=
  RW.h0 (HV.storeB hx hy hp h1) hg (by rintro v Hs' O' ⟨rfl, rfl⟩; exact h)
theorem RW.storeR {T T' : TypeId} {x y : Operand} {v u : Value} {m sz j : Nat} {xs xs' : List Value} {O' : List Own} (hx : opv l x = some (.pointer (some (vat v m)))) (hy : opv l y = some u) [q : GetRow O v T' sz j xs] (hp : putAll xs m (cellsL u) = some xs') (hne : (cellsL u).isEmpty = false) (h1 : allOne (cellsL u) = true) [s : TSz P T (cellsL u).length] [q' : PutRow O v T' sz j xs v j xs' O'] (hg : guardIs L l g = some true)
    (h : RW P f n E R L.toArray os k Hs O' l) : RW P f n E R L.toArray (⟨none, .store T x y, ty, pos, aft, g⟩ :: os) k Hs O l :=
  RW.h0 (HV.storeR hx hy hp hne h1) hg (by rintro v Hs' O' ⟨rfl, rfl⟩; exact h)
theorem RW.storeB1 {T T' : TypeId} {x y : Operand} {b o : Nat} {v : Value} {cs cs' : List Value} {O' : List Own} (hx : opv l x = some (.pointer (some ⟨b, o, none⟩))) (hy : opv l y = some v) (h1 : one1 v = true) [q : GetBlk O b T' cs] (hp : setAt cs o v = some cs') [s : TSz P T 1] [u : PutBlk O b T' cs cs' O'] (hg : guardIs L l g = some true)
    (h : RW P f n E R L.toArray os k Hs O' l) : RW P f n E R L.toArray (⟨none, .store T x y, ty, pos, aft, g⟩ :: os) k Hs O l := by
  have hc := cellsL_one h1
  have i1 : TSz P T (cellsL v).length := by rw [hc]; exact s
  exact RW.storeB (cs' := cs') (u := u) hx hy (by rw [hc]; simp only [putAll, hp]) (by rw [hc]; simp [allOne, h1]) hg h
theorem RW.storeR1 {T T' : TypeId} {x y : Operand} {v u : Value} {m sz j : Nat} {xs xs' : List Value} {O' : List Own} (hx : opv l x = some (.pointer (some (vat v m)))) (hy : opv l y = some u) (h1 : one1 u = true) [q : GetRow O v T' sz j xs] (hp : setAt xs m u = some xs') [s : TSz P T 1] [q' : PutRow O v T' sz j xs v j xs' O'] (hg : guardIs L l g = some true)
    (h : RW P f n E R L.toArray os k Hs O' l) : RW P f n E R L.toArray (⟨none, .store T x y, ty, pos, aft, g⟩ :: os) k Hs O l := by
  have hc := cellsL_one h1
  have i1 : TSz P T (cellsL u).length := by rw [hc]; exact s
  exact RW.storeR (xs' := xs') (q' := q') hx hy (by rw [hc]; simp only [putAll, hp]) (by rw [hc]; rfl) (by rw [hc]; simp [allOne, h1]) hg h
theorem RW.buildSlice {T e : TypeId} {len s : Nat} {Lp : List (Nat × Operand)} {vs : List (Nat × Value)} {z : Value} {cs : List Value} [t : TDesc P T (.slice e)] [z1 : TSz P e s] [j : TZero P e z] (hx : opvs l Lp = some vs)
    (hs : Nat.beq (cellsL z).length s = true) (hl : Nat.ble (len * s) 16777216 = true) (hl2 : Nat.ble len 16777216 = true) (hf : fillL (fun i => some (i * s, s)) (repL len (cellsL z)) vs = some cs) (hg : guardIs L l g = some true) (hd : Nat.blt d n = true)
    (h : ∀ v, IsSl v len → RW P f n E R L.toArray os k Hs (.row e s v len cs :: O) ((d, v) :: l)) : RW P f n E R L.toArray (⟨some d, .buildSlice T len Lp.toArray, ty, pos, aft, g⟩ :: os) k Hs O l :=
  RW.h (HV.buildSlice hx hs hl hl2 hf) hg hd (by rintro v Hs' O' ⟨rfl, rfl, h2⟩; exact h v h2)
theorem RW.make {T e : TypeId} {x : Operand} {kd : IntKind} {m : Nat} {i : Int} {z : Value} {s bytes : Nat} [t : TDesc P T (.slice e)] [j : TInfo P e z s bytes] (hx : opv l x = some (.int kd i)) (hi : i = (m : Int)) (hs : Nat.beq (cellsL z).length s = true) (h0 : s ≠ 0)
    (hb : (m : Int) * bytes ≤ 281474976710656) (hn : m ≤ 281474976710656) (hg : guardIs L l g = some true) (hd : Nat.blt d n = true)
    (h : ∀ v, IsSl v m → RW P f n E R L.toArray os k Hs (.row e s v m (repL m (cellsL z)) :: O) ((d, v) :: l)) : RW P f n E R L.toArray (⟨some d, .makeSlice T x x, ty, pos, aft, g⟩ :: os) k Hs O l :=
  RW.h (HV.make hx hi hs h0 hb hn) hg hd (by rintro v Hs' O' ⟨rfl, rfl, h2⟩; exact h v h2)
/-- append of what a row of ours holds -/
theorem RW.appendR {T e : TypeId} {x y : Operand} {v vy z : Value} {sz bytes a m : Nat} {xs ds : List Value} [t : TDesc P T (.slice e)] [j : TInfo P e z sz bytes] (hx : opv l x = some v) (hy : opv l y = some vy) [q1 : GetRow O v e sz a xs] [q2 : GetRow O vy e sz m ds] (hs : IsSl vy m) (hd' : Nat.beq ds.length (m * sz) = true)
    (h1 : allOne ds = true) (hz : Nat.beq (cellsL z).length sz = true) (h0 : sz ≠ 0) (hb : (a + m) * bytes ≤ 140737488355328) (hb2 : a + m ≤ 140737488355328)
    {O1 : Value → List Own} (q : ∀ v', PutRow O v e sz a xs v' (a + m) (xs ++ ds) (O1 v')) (hg : guardIs L l g = some true) (hd : Nat.blt d n = true)
    (h : ∀ v', IsSl v' (a + m) → RW P f n E R L.toArray os k Hs (O1 v') ((d, v') :: l)) : RW P f n E R L.toArray (⟨some d, .call ⟨.builtin .append, #[x, y], #[T, T]⟩, ty, pos, aft, g⟩ :: os) k Hs O l :=
  RW.h (HV.append hx hy hs (Nat.eq_of_beq_eq_true hd') (fun w hm k u hu => hm.cellR hu) (allOne_eq h1) hz h0 hb hb2 q) hg hd (by rintro v' Hs' O' ⟨rfl, rfl, h2⟩; exact h v' h2)
/-- append of what a snapshot holds -/
theorem RW.appendH {α : Type} {A : Lay α} {H : Snap} {ys : List α} {T e : TypeId} {x y : Operand} {v vy z : Value} {sz bytes a : Nat} {xs : List Value} [t : TDesc P T (.slice e)] [j : TInfo P e z sz bytes] (hx : opv l x = some v) (hy : opv l y = some vy) [q1 : GetRow O v e sz a xs] (hr : SliceRep H A vy ys) [i : InH Hs H] (hsz : A.sz = sz)
    (hz : Nat.beq (cellsL z).length sz = true) (h0 : sz ≠ 0) (hb : (a + ys.length) * bytes ≤ 140737488355328) (hb2 : a + ys.length ≤ 140737488355328)
    {O1 : List Value → Value → List Own} (q : ∀ ds v', PutRow O v e sz a xs v' (a + ys.length) (xs ++ ds) (O1 ds v')) (hg : guardIs L l g = some true) (hd : Nat.blt d n = true)
    (h : ∀ ds v', CellsRep H A ys ds → IsSl v' (a + ys.length) → RW P f n E R L.toArray os k Hs (O1 ds v') ((d, v') :: l)) : RW P f n E R L.toArray (⟨some d, .call ⟨.builtin .append, #[x, y], #[T, T]⟩, ty, pos, aft, g⟩ :: os) k Hs O l := by
  obtain ⟨hs, ds, hc, hcell⟩ := hr
  exact RW.h (HV.append hx hy hs (by rw [hc.length, hsz]) (fun w hm k u hu => hm.cellH (hcell k u hu)) hc.one1 hz h0 hb hb2 (q ds)) hg hd (by rintro v' Hs' O' ⟨rfl, rfl, h2⟩; exact h ds v' hc h2)

theorem RW.call {La : List Operand} {ts : Array TypeId} {fid : FuncId} {vals : List Value} {H : Snap} {post : Snap → Value → Prop} (ha : opvL l La = some vals) [c : TCall P fid] (hc : Pure P fid vals.toArray H post) [hH : InH Hs H] (hg : guardIs L l g = some true) (hd : Nat.blt d n = true)
    (h : ∀ v H', post H' v → H.le H' → RW P f n E R L.toArray os k (H' :: Hs) O ((d, v) :: l)) : RW P f n E R L.toArray (⟨some d, .call ⟨.value (.func fid), La.toArray, ts⟩, ty, pos, aft, g⟩ :: os) k Hs O l :=
  RW.h (HV.call ha hc) hg hd (by rintro v Hs' O' ⟨H', O2, ⟨rfl, h1⟩, h2, rfl, rfl⟩; exact h v H' h1 h2)
/-- The call of a function whose result holds no address. -/
theorem RW.callV {La : List Operand} {ts : Array TypeId} {fid : FuncId} {vals : List Value} {H : Snap} {post : Snap → Value → Prop} (ha : opvL l La = some vals) [c : TCall P fid] (hc : Pure P fid vals.toArray H post) [hH : InH Hs H] (hg : guardIs L l g = some true) (hd : Nat.blt d n = true)
    (h : ∀ v H', post H' v → RW P f n E R L.toArray os k Hs O ((d, v) :: l)) : RW P f n E R L.toArray (⟨some d, .call ⟨.value (.func fid), La.toArray, ts⟩, ty, pos, aft, g⟩ :: os) k Hs O l :=
  RW.h (HV.call ha hc) hg hd (by rintro v Hs' O' ⟨H', O2, ⟨rfl, h1⟩, h2, rfl, rfl⟩; exact fun w hm => h v H' h1 w (hm.sub (fun x hx => List.mem_cons_of_mem _ (List.mem_cons_of_mem _ hx)) (List.Sublist.refl _)))

section
variable {Hs0 : List Snap} {O0 : List Own} {lt : List Nat} {st : Bool} {fuel : Nat} {listed : Array Bool}
theorem DW.callV (i : Nat) {La : List Operand} {ts : Array TypeId} {fid : FuncId} {vals : List Value} {H : Snap} {post : Snap → Value → Prop} (hi : opAt L i = some ⟨some d, .call ⟨.value (.func fid), La.toArray, ts⟩, ty, pos, aft, g⟩)
    (hrd : (Region.ready .any L.toArray listed == [i]) = true) (ha : opvL l La = some vals) [c : TCall P fid] (hc : Pure P fid vals.toArray H post) [hH : InH Hs H] (hg : guardIs L l g = some true) (hd : Nat.blt d n = true)
    (h : ∀ v H', post H' v → DW P f n E R L Hs0 O0 lt true fuel (listed.setIfInBounds i true) k Hs O ((d, v) :: l)) : DW P f n E R L Hs0 O0 lt true (fuel + 1) listed k Hs O l := by
  intro hsub
  refine DW.h i true hi hrd (HV.call ha hc) hg hd (by simp) ?_ hsub
  rintro v Hs' O' ⟨H', O2, ⟨e1, h1⟩, h2, e2, e3⟩
  rw [e1, List.nil_append] at e3
  rw [e2, e3]
  have hs2 : ∀ w, Mem E w (H' :: Hs) O → Mem E w Hs O := fun w hm => hm.sub (fun x hx => List.mem_cons_of_mem _ (List.mem_cons_of_mem _ hx)) (List.Sublist.refl _)
  exact ⟨fun _ w hm => hsub rfl w (hs2 w hm), fun _ w hm => h v H' h1 hsub w (hs2 w hm)⟩
theorem DW.call (i : Nat) {La : List Operand} {ts : Array TypeId} {fid : FuncId} {vals : List Value} {H : Snap} {post : Snap → Value → Prop} (hi : opAt L i = some ⟨some d, .call ⟨.value (.func fid), La.toArray, ts⟩, ty, pos, aft, g⟩)
    (hrd : (Region.ready .any L.toArray listed == [i]) = true) (ha : opvL l La = some vals) [c : TCall P fid] (hc : Pure P fid vals.toArray H post) [hH : InH Hs H] (hg : guardIs L l g = some true) (hd : Nat.blt d n = true)
    (h : ∀ v H', post H' v → H.le H' → DW P f n E R L Hs0 O0 lt true fuel (listed.setIfInBounds i true) k (H' :: Hs) O ((d, v) :: l)) : DW P f n E R L Hs0 O0 lt true (fuel + 1) listed k Hs O l := by
  intro hsub
  refine DW.h i true hi hrd (HV.call ha hc) hg hd (by simp) ?_ hsub
  rintro v Hs' O' ⟨H', O2, ⟨e1, h1⟩, h2, e2, e3⟩
  rw [e1, List.nil_append] at e3
  rw [e2, e3]
  have hs2 : ∀ w, Mem E w (H' :: Hs) O → Mem E w Hs O := fun w hm => hm.sub (fun x hx => List.mem_cons_of_mem _ (List.mem_cons_of_mem _ hx)) (List.Sublist.refl _)
  exact ⟨fun _ w hm => hsub rfl w (hs2 w hm), fun _ w hm => h v H' h1 h2 (fun _ w hm => hsub rfl w (hs2 w hm)) w hm⟩

theorem DW.buildSlice (i : Nat) {T e : TypeId} {len s : Nat} {Lp : List (Nat × Operand)} {vs : List (Nat × Value)} {z : Value} {cs : List Value} (hi : opAt L i = some ⟨some d, .buildSlice T len Lp.toArray, ty, pos, aft, g⟩) (hrd : (Region.ready .any L.toArray listed == [i]) = true) [t : TDesc P T (.slice e)] [z1 : TSz P e s] [j : TZero P e z] (hx : opvs l Lp = some vs)
    (hs : Nat.beq (cellsL z).length s = true) (hl : Nat.ble (len * s) 16777216 = true) (hl2 : Nat.ble len 16777216 = true) (hf : fillL (fun i => some (i * s, s)) (repL len (cellsL z)) vs = some cs) (hg : guardIs L l g = some true) (hd : Nat.blt d n = true)
    (h : ∀ v, IsSl v len → DW P f n E R L Hs0 O0 lt true fuel (listed.setIfInBounds i true) k Hs (.row e s v len cs :: O) ((d, v) :: l)) : DW P f n E R L Hs0 O0 lt true (fuel + 1) listed k Hs O l := by
  intro hsub
  refine DW.h i true hi hrd (HV.buildSlice hx hs hl hl2 hf) hg hd (by simp) ?_ hsub
  rintro v Hs' O' ⟨rfl, rfl, h2⟩
  have hs2 : ∀ w, Mem E w Hs' (.row e s v len cs :: O) → Mem E w Hs' O := fun w hm => hm.sub (fun x hx => List.mem_cons_of_mem _ hx) (List.sublist_cons_self _ _)
  exact ⟨fun _ w hm => hsub rfl w (hs2 w hm), fun _ w hm => h v h2 (fun _ w hm => hsub rfl w (hs2 w hm)) w hm⟩
/-- append onto a row that no operation of the region looks at (O0 does not hold it), of what a row of ours holds -/
theorem DW.appendR (i : Nat) {T e : TypeId} {x y : Operand} {v vy z : Value} {sz bytes a m : Nat} {xs ds : List Value} (hi : opAt L i = some ⟨some d, .call ⟨.builtin .append, #[x, y], #[T, T]⟩, ty, pos, aft, g⟩) (hrd : (Region.ready .any L.toArray listed == [i]) = true) [t : TDesc P T (.slice e)] [j : TInfo P e z sz bytes] (hx : opv l x = some v) (hy : opv l y = some vy) [q1 : GetRow O v e sz a xs] [q2 : GetRow O vy e sz m ds] (hs : IsSl vy m) (hd' : Nat.beq ds.length (m * sz) = true)
    (h1 : allOne ds = true) (hz : Nat.beq (cellsL z).length sz = true) (h0 : sz ≠ 0) (hb : (a + m) * bytes ≤ 140737488355328) (hb2 : a + m ≤ 140737488355328)
    {O1 : Value → List Own} (q : ∀ v', PutRow O v e sz a xs v' (a + m) (xs ++ ds) (O1 v')) (hg : guardIs L l g = some true) (hd : Nat.blt d n = true) (hsub : ∀ v', SubO O0 (O1 v')) (hsubH : SubH Hs0 Hs)
    (h : ∀ v', IsSl v' (a + m) → DW P f n E R L Hs0 O0 lt true fuel (listed.setIfInBounds i true) k Hs (O1 v') ((d, v') :: l)) : DW P f n E R L Hs0 O0 lt true (fuel + 1) listed k Hs O l := by
  refine DW.h i true hi hrd (HV.append hx hy hs (Nat.eq_of_beq_eq_true hd') (fun w hm k u hu => hm.cellR hu) (allOne_eq h1) hz h0 hb hb2 q) hg hd (by simp) ?_
  rintro v' Hs' O' ⟨rfl, rfl, h2⟩
  exact ⟨fun _ w hm => hm.sub (fun x hx => List.mem_cons_of_mem _ (hsubH.h x hx)) (hsub v').h, h v' h2⟩
/-- a store behind which nothing looks at what it writes -/
theorem DW.storeB (i : Nat) {T T' : TypeId} {x y : Operand} {b o : Nat} {v : Value} {cs cs' : List Value} {O' : List Own} (hi : opAt L i = some ⟨none, .store T x y, ty, pos, aft, g⟩) (hrd : (Region.ready .any L.toArray listed == [i]) = true) (hlt : lt.contains i = true) (hx : opv l x = some (.pointer (some ⟨b, o, none⟩))) (hy : opv l y = some v) [q : GetBlk O b T' cs] (hp : putAll cs o (cellsL v) = some cs') (h1 : allOne (cellsL v) = true) [s : TSz P T (cellsL v).length] [u : PutBlk O b T' cs cs' O'] (hg : guardIs L l g = some true)
    (h : DW P f n E R L Hs0 O0 lt false fuel (listed.setIfInBounds i true) k Hs O' l) : DW P f n E R L Hs0 O0 lt st (fuel + 1) listed k Hs O l :=
  DW.h0 i false hi hrd (HV.storeB hx hy hp h1) hg (by rw [hlt]; rfl) (by rintro v Hs' O' ⟨rfl, rfl⟩; exact ⟨fun e => (by cases e), h⟩)
theorem DW.storeR (i : Nat) {T T' : TypeId} {x y : Operand} {v u : Value} {m sz j : Nat} {xs xs' : List Value} {O' : List Own} (hi : opAt L i = some ⟨none, .store T x y, ty, pos, aft, g⟩) (hrd : (Region.ready .any L.toArray listed == [i]) = true) (hlt : lt.contains i = true) (hx : opv l x = some (.pointer (some (vat v m)))) (hy : opv l y = some u) [q : GetRow O v T' sz j xs] (hp : putAll xs m (cellsL u) = some xs') (hne : (cellsL u).isEmpty = false) (h1 : allOne (cellsL u) = true) [s : TSz P T (cellsL u).length] [q' : PutRow O v T' sz j xs v j xs' O'] (hg : guardIs L l g = some true)
    (h : DW P f n E R L Hs0 O0 lt false fuel (listed.setIfInBounds i true) k Hs O' l) : DW P f n E R L Hs0 O0 lt st (fuel + 1) listed k Hs O l :=
  DW.h0 i false hi hrd (HV.storeR hx hy hp hne h1) hg (by rw [hlt]; rfl) (by rintro v Hs' O' ⟨rfl, rfl⟩; exact ⟨fun e => (by cases e), h⟩)

theorem DW.storeB1 (i : Nat) {T T' : TypeId} {x y : Operand} {b o : Nat} {v : Value} {cs cs' : List Value} {O' : List Own} (hi : opAt L i = some ⟨none, .store T x y, ty, pos, aft, g⟩) (hrd : (Region.ready .any L.toArray listed == [i]) = true) (hlt : lt.contains i = true) (hx : opv l x = some (.pointer (some ⟨b, o, none⟩))) (hy : opv l y = some v) (h1 : one1 v = true) [q : GetBlk O b T' cs] (hp : setAt cs o v = some cs') [s : TSz P T 1] [u : PutBlk O b T' cs cs' O'] (hg : guardIs L l g = some true)
    (h : DW P f n E R L Hs0 O0 lt false fuel (listed.setIfInBounds i true) k Hs O' l) : DW P f n E R L Hs0 O0 lt st (fuel + 1) listed k Hs O l := by
  have hc := cellsL_one h1
  have i1 : TSz P T (cellsL v).length := by rw [hc]; exact s
  exact DW.storeB (cs' := cs') (u := u) i hi hrd hlt hx hy (by rw [hc]; simp only [putAll, hp]) (by rw [hc]; simp [allOne, h1]) hg h
theorem DW.storeR1 (i : Nat) {T T' : TypeId} {x y : Operand} {v u : Value} {m sz j : Nat} {xs xs' : List Value} {O' : List Own} (hi : opAt L i = some ⟨none, .store T x y, ty, pos, aft, g⟩) (hrd : (Region.ready .any L.toArray listed == [i]) = true) (hlt : lt.contains i = true) (hx : opv l x = some (.pointer (some (vat v m)))) (hy : opv l y = some u) (h1 : one1 u = true) [q : GetRow O v T' sz j xs] (hp : setAt xs m u = some xs') [s : TSz P T 1] [q' : PutRow O v T' sz j xs v j xs' O'] (hg : guardIs L l g = some true)
    (h : DW P f n E R L Hs0 O0 lt false fuel (listed.setIfInBounds i true) k Hs O' l) : DW P f n E R L Hs0 O0 lt st (fuel + 1) listed k Hs O l := by
  have hc := cellsL_one h1
  have i1 : TSz P T (cellsL u).length := by rw [hc]; exact s
  exact DW.storeR (xs' := xs') (q' := q') i hi hrd hlt hx hy (by rw [hc]; simp only [putAll, hp]) (by rw [hc]; rfl) (by rw [hc]; simp [allOne, h1]) hg h

/-! many at once -/
def takeRange (L : List Oper) : Array Bool → Nat → Nat → Bool
  | _, _, 0 => true
  | listed, i, c + 1 => takeOk L listed i && takeRange L (listed.setIfInBounds i true) (i + 1) c
def setRange : Array Bool → Nat → Nat → Array Bool
  | listed, _, 0 => listed
  | listed, i, c + 1 => setRange (listed.setIfInBounds i true) (i + 1) c
/-- As easyAll, with the number of operations. -/
def dwAll (n : Nat) (L : List Oper) (g0 : Option (Nat × Bool)) : List Oper → Env → Nat → Option (Nat × Env)
  | [], l, c => some (c, l)
  | o :: os, l, c => match o.dst with
    | none => some (c, l)
    | some d => match Nat.blt d n && sameGuard o.guard g0 with
      | false => some (c, l)
      | true => match guardIs L l o.guard with
        | some true => match qev l o.op with
          | none => some (c, l)
          | some v => dwAll n L g0 os ((d, v) :: l) (c + 1)
        | _ => some (c, l)
def opsFrom : List Oper → Nat → List Oper
  | L, 0 => L
  | [], _ + 1 => []
  | _ :: r, i + 1 => opsFrom r i
def guardAt : List Oper → Option (Nat × Bool)
  | [] => none
  | o :: _ => o.guard
theorem opsFrom_at : ∀ (L : List Oper) (i : Nat) (o : Oper) (os : List Oper), opsFrom L i = o :: os → opAt L i = some o ∧ opsFrom L (i + 1) = os
  | [], 0, o, os, h => by cases h
  | x :: r, 0, o, os, h => by cases h; exact ⟨rfl, by cases r <;> rfl⟩
  | [], i + 1, o, os, h => by cases h
  | x :: r, i + 1, o, os, h => by
    obtain ⟨h1, h2⟩ := opsFrom_at r i o os h
    exact ⟨h1, h2⟩
theorem DW.all_eq (g0 : Option (Nat × Bool)) : ∀ (os : List Oper) (i : Nat) (listed : Array Bool) (l : Env) (c0 c : Nat) (l' : Env) (fuel : Nat), opsFrom L i = os → dwAll n L g0 os l c0 = some (c0 + c, l') → takeRange L listed i c = true →
    DW P f n E R L Hs0 O0 lt st fuel (setRange listed i c) k Hs O l' → DW P f n E R L Hs0 O0 lt st (fuel + c) listed k Hs O l := by
  intro os
  induction os with
  | nil =>
    intro i listed l c0 c l' fuel hos h ht hr
    simp only [dwAll, Option.some.injEq, Prod.mk.injEq] at h
    have hc : c = 0 := by omega
    subst hc
    rw [h.2]; exact hr
  | cons o os ih =>
    intro i listed l c0 c l' fuel hos h ht hr
    have stop : some (c0, l) = some (c0 + c, l') → DW P f n E R L Hs0 O0 lt st (fuel + c) listed k Hs O l := fun h => by
      simp only [Option.some.injEq, Prod.mk.injEq] at h
      have hc : c = 0 := by omega
      subst hc
      rw [h.2]; exact hr
    obtain ⟨od, oop, oty, opos, oaft, og⟩ := o
    cases od with
    | none => exact stop h
    | some d =>
      unfold dwAll at h
      simp only at h
      split at h
      · exact stop h
      · rename_i hb
        rw [Bool.and_eq_true] at hb
        split at h
        · rename_i hg
          split at h
          · exact stop h
          · rename_i v hq
            have hge : ∀ (os : List Oper) (l : Env) (c0 c1 : Nat) (l' : Env), dwAll n L g0 os l c0 = some (c1, l') → c0 ≤ c1 := by
              intro os
              induction os with
              | nil => intro l c0 c1 l' h; simp only [dwAll, Option.some.injEq, Prod.mk.injEq] at h; omega
              | cons o os ih2 =>
                intro l c0 c1 l' h
                unfold dwAll at h
                split at h
                · simp only [Option.some.injEq, Prod.mk.injEq] at h; omega
                · split at h
                  · simp only [Option.some.injEq, Prod.mk.injEq] at h; omega
                  · split at h
                    · split at h
                      · simp only [Option.some.injEq, Prod.mk.injEq] at h; omega
                      · have := ih2 _ _ _ _ h; omega
                    · simp only [Option.some.injEq, Prod.mk.injEq] at h; omega
            have h9 := hge _ _ _ _ _ h
            obtain ⟨c', rfl⟩ : ∃ c', c = c' + 1 := ⟨c - 1, by omega⟩
            simp only [takeRange, Bool.and_eq_true] at ht
            obtain ⟨h1, h2⟩ := opsFrom_at L i _ _ hos
            refine DW.qF (fuel := fuel + c') i h1 ht.1 (qev_eq hq) hg hb.1 ?_
            exact ih (i + 1) (listed.setIfInBounds i true) _ (c0 + 1) c' l' fuel h2 (by rw [h]; congr 2; omega) ht.2 hr
        · exact stop h
theorem DW.easyRun (i c : Nat) {l' : Env} {fuel' : Nat} (h : dwAll n L (guardAt (opsFrom L i)) (opsFrom L i) l 0 = some (c, l')) (hc : (takeRange L listed i c && Nat.ble c fuel') = true)
    (hr : DW P f n E R L Hs0 O0 lt st (fuel' - c) (setRange listed i c) k Hs O l') : DW P f n E R L Hs0 O0 lt st fuel' listed k Hs O l := by
  rw [Bool.and_eq_true] at hc
  have h1 : fuel' = (fuel' - c) + c := by have := Nat.le_of_ble_eq_true hc.2; omega
  rw [h1]
  exact DW.all_eq _ _ i listed l 0 c l' _ rfl (by rw [h]; congr 2; omega) hc.1 hr
end

/-- A nil slice of ours, from now on an entry. -/
theorem Mem.addNil {w : World} (h : Mem E w Hs O) (T sz : Nat) : Mem E w Hs (.row T sz (.slice none 0 0) 0 [] :: O) := by
  refine ⟨h.fr, ?_, ?_, ?_, h.agr, h.dom, ?_⟩
  · intro o ho
    rcases List.mem_cons.1 ho with rfl | ho
    · exact ⟨by simp, .inl ⟨rfl, rfl⟩⟩
    · exact h.own o ho
  · intro o ho b hb
    rcases List.mem_cons.1 ho with rfl | ho
    · simp [Own.foot, Value.ownBlock] at hb
    · exact h.new o ho b hb
  · exact List.pairwise_cons.2 ⟨fun y hy b hb => by simp [Own.foot, Value.ownBlock] at hb, h.dis⟩
  · intro H hH x hx
    rcases List.mem_cons.1 hx with rfl | hx
    · intro b o _ hb; simp [Own.foot, Value.ownBlock] at hb
    · exact h.apart H hH x hx
theorem Runs.addNil (T sz : Nat) (h : Runs P f n E R k Hs (.row T sz (.slice none 0 0) 0 [] :: O) l) : Runs P f n E R k Hs O l :=
  fun w hm => h w (hm.addNil T sz)

theorem Runs.rowSl (v : Value) {T : TypeId} {sz m : Nat} {xs : List Value} [q : GetRow O v T sz m xs] (h : IsSl v m → one1 v = true → Runs P f n E R k Hs O l) : Runs P f n E R k Hs O l :=
  fun w hm => h (row_isSl (hm.own _ q.h)) (row_isSl (hm.own _ q.h)).one1 w hm
/-- A row of ours goes into a snapshot. -/
theorem Mem.freezeRow {w : World} {O' : List Own} {H : Snap} {v : Value} {T : TypeId} {sz m : Nat} {xs : List Value} [q : DelRow O v T sz m xs O'] [i : InH Hs H] (hM : E.M = []) (hm : Mem E w Hs O) :
    ∃ H', H.le H' ∧ IsSl v m ∧ (∀ j u, xs[j]? = some u → H'.cell (vat v j) = some u) ∧ Mem E w (H' :: Hs) O' := by
  have hm2 := hm.perm q.h
  have hown : w.ownsRow 0 T sz v m xs := hm2.own _ (List.mem_cons_self ..)
  rcases hown.2 with ⟨rfl, h0⟩ | ⟨b, cap, cur, rfl, _, hh, hnc, hcap, hcs, htake⟩
  · subst h0
    have hx : xs = [] := List.eq_nil_of_length_eq_zero (by simpa using hown.1)
    subst hx
    refine ⟨H, Snap.le.refl H, isSl_nil, fun j u hu => by simp at hu, hm2.sub ?_ (List.sublist_cons_self _ _)⟩
    intro x hx
    rcases List.mem_cons.1 hx with rfl | hx
    · exact List.mem_cons_of_mem _ i.h
    · exact List.mem_cons_of_mem _ hx
  · obtain ⟨h1, h2⟩ := hm2.freeze (List.mem_cons_of_mem _ i.h) (b := b) rfl hh (by rw [hM]; simp)
    refine ⟨_, h2, ⟨_, cap, rfl, hnc, hcap, fun _ => ⟨b, 0, rfl⟩⟩, fun j u hu => ?_, h1⟩
    have hj : j < m * sz := by have := (List.getElem?_eq_some_iff.1 hu).1; rw [hown.1] at this; exact this
    rw [← htake, List.getElem?_take_of_lt hj] at hu
    simp [Snap.cell, Snap.join, vat]
    simpa using hu
theorem Runs.freeze {O' : List Own} {H : Snap} (v : Value) {T : TypeId} {sz m : Nat} {xs : List Value} [q : DelRow O v T sz m xs O'] [i : InH Hs H] (hM : E.M = [])
    (h : ∀ H', H.le H' → IsSl v m → (∀ j u, xs[j]? = some u → H'.cell (vat v j) = some u) → Runs P f n E R k (H' :: Hs) O' l) : Runs P f n E R k Hs O l := by
  intro w hm
  obtain ⟨H', h1, h2, h3, h4⟩ := hm.freezeRow (q := q) (i := i) hM
  exact h H' h1 h2 h3 w h4
theorem RW.freeze {ops : Array Oper} {O' : List Own} {H : Snap} (v : Value) {T : TypeId} {sz m : Nat} {xs : List Value} [q : DelRow O v T sz m xs O'] [i : InH Hs H] (hM : E.M = [])
    (h : ∀ H', H.le H' → IsSl v m → (∀ j u, xs[j]? = some u → H'.cell (vat v j) = some u) → RW P f n E R ops os k (H' :: Hs) O' l) : RW P f n E R ops os k Hs O l := by
  intro w hm
  obtain ⟨H', h1, h2, h3, h4⟩ := hm.freezeRow (q := q) (i := i) hM
  exact h H' h1 h2 h3 w h4

/-- The result lies in a block. -/
theorem Runs.retC {fn : Func} {t b : Nat} {T T' : TypeId} {cs : List Value} [i : TAgg P T true] (hf : P.funcs[f]? = some fn) (hr : fn.results = #[.cell t T]) (hv : efind l t = some (.pointer (some ⟨b, 0, none⟩))) [q : GetBlk O b T' cs] [s : TSz P T cs.length] (hR : ∀ w, Mem E w Hs O → R (.agg cs.toArray) w) :
    Runs P f n E R (.code .ret :: k) Hs O l :=
  Runs.ret hf (v := .agg cs.toArray) (fun w a hm ha => by
    have h1 : (loadVar T ⟨b, 0, none⟩).run P w = .ok (.agg cs.toArray) w := run_loadVar_agg (fun j u hj => by
      have h2 := hm.cellB (i := q) hj
      by_cases h0 : j = 0
      · subst h0; simpa [Addr.add] using h2
      · simpa [Addr.add, h0] using h2)
    simp [results, hr, ha.get t _ hv, asAddr, h1]) hR
theorem SliceRep.of_row {α : Type} {A : Lay α} {H H' : Snap} {v : Value} {ys : List α} {m : Nat} {xs : List Value} (hs : IsSl v m) (hm : m = ys.length) (hc : CellsRep H A ys xs) (hle : H.le H') (h : ∀ j u, xs[j]? = some u → H'.cell (vat v j) = some u) : SliceRep H' A v ys :=
  ⟨hm ▸ hs, xs, hc.mono hle, h⟩
end
end Go.Proofs.Ytbiohkncdlhigaa

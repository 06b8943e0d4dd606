/-
  The steps of a run: the code's forms, regions in the order of the text, regions that draw their order. Conditions: none. Over any program.
-/
import Derived.Test.YtbiohkncdlhigaaFw
namespace Go.Proofs.Ytbiohkncdlhigaa
open Go Go.RowKit

section
variable {P : Program} {f : FuncId} {n : Nat} {E : Ent} {R : Value → World → Prop} {k : List Item} {Hs : List Snap} {O : List Own} {l : Env}

theorem RunsAt.step {k k' : List Item} {a : Act} {w : World} (h : ∀ (b : Frame) cs, step P (lone (b.at a k) cs w) = .next (lone (b.at a k') cs w)) (h' : RunsAt P f R k' a w) : RunsAt P f R k a w := by
  intro b hb hk cs
  obtain ⟨v, w', fr, h1, h2, h3⟩ := h' b hb hk cs
  exact ⟨v, w', fr, h1, Steps.head (h b cs) h2, h3⟩

theorem Runs.seq {x y : Code} (h : Runs P f n E R (.code x :: .code y :: k) Hs O l) : Runs P f n E R (.code (.seq x y) :: k) Hs O l :=
  fun w hm a ha => RunsAt.step (fun _ _ => step_seq) (h w hm a ha)
theorem Runs.skip (h : Runs P f n E R k Hs O l) : Runs P f n E R (.code .skip :: k) Hs O l :=
  fun w hm a ha => RunsAt.step (fun _ _ => step_skip) (h w hm a ha)
theorem Runs.label {i : Nat} (h : Runs P f n E R k Hs O l) : Runs P f n E R (.code (.label i) :: k) Hs O l :=
  fun w hm a ha => RunsAt.step (fun _ _ => step_label) (h w hm a ha)
theorem Runs.block {id : Nat} {c : Code} (h : Runs P f n E R (.code c :: .inBlock id :: k) Hs O l) : Runs P f n E R (.code (.block id c) :: k) Hs O l :=
  fun w hm a ha => RunsAt.step (fun _ _ => step_block) (h w hm a ha)
theorem Runs.inBlock {id : Nat} (h : Runs P f n E R k Hs O l) : Runs P f n E R (.inBlock id :: k) Hs O l :=
  fun w hm a ha => RunsAt.step (fun _ _ => step_inBlock) (h w hm a ha)
theorem Runs.scope {c : Code} (h : Runs P f n E R (.code c :: .inScope c :: k) Hs O l) : Runs P f n E R (.code (.scope c) :: k) Hs O l :=
  fun w hm a ha => RunsAt.step (fun _ _ => step_scope) (h w hm a ha)
theorem Runs.inScope {c : Code} (h : Runs P f n E R k Hs O l) : Runs P f n E R (.inScope c :: k) Hs O l :=
  fun w hm a ha => RunsAt.step (fun _ _ => step_inScope) (h w hm a ha)
theorem Runs.exit {id : Nat} {k' : List Item} (he : exitTo id k = some k') (h : Runs P f n E R k' Hs O l) : Runs P f n E R (.code (.exit id) :: k) Hs O l :=
  fun w hm a ha => RunsAt.step (fun _ _ => step_exit he) (h w hm a ha)
theorem Runs.cond {c : Operand} {x y : Code} {t : Bool} (hc : opv l c = some (.bool t)) (ht : t = true → Runs P f n E R (.code x :: k) Hs O l) (hf : t = false → Runs P f n E R (.code y :: k) Hs O l) :
    Runs P f n E R (.code (.cond c x y) :: k) Hs O l := fun w hm a ha => by
  refine RunsAt.step (fun b cs => step_cond (t := t) (ha.eval hc)) ?_
  cases t
  · exact hf rfl w hm a ha
  · exact ht rfl w hm a ha
theorem Runs.cond_t {c : Operand} {x y : Code} (hc : opv l c = some (.bool true)) (h : Runs P f n E R (.code x :: k) Hs O l) : Runs P f n E R (.code (.cond c x y) :: k) Hs O l :=
  Runs.cond hc (fun _ => h) (fun e => by cases e)
theorem Runs.cond_f {c : Operand} {x y : Code} (hc : opv l c = some (.bool false)) (h : Runs P f n E R (.code y :: k) Hs O l) : Runs P f n E R (.code (.cond c x y) :: k) Hs O l :=
  Runs.cond hc (fun e => by cases e) (fun _ => h)
theorem Runs.cond_d {c : Operand} {x y : Code} {p : Prop} [Decidable p] (hc : opv l c = some (.bool (decide p))) (ht : p → Runs P f n E R (.code x :: k) Hs O l) (hf : ¬ p → Runs P f n E R (.code y :: k) Hs O l) :
    Runs P f n E R (.code (.cond c x y) :: k) Hs O l :=
  Runs.cond hc (fun e => ht (of_decide_eq_true e)) (fun e => hf (of_decide_eq_false e))

/-- Forget slots, snapshots, owned entries. -/
theorem Runs.weak {Hs' : List Snap} {O' : List Own} {l' : Env} (h : Runs P f n E R k Hs' O' l') (hl : Keep l l') (hH : ∀ x ∈ Hs', x ∈ E.H0 :: Hs) (hO : O'.Sublist O) : Runs P f n E R k Hs O l :=
  fun w hm a ha => h w (hm.sub hH hO) a (ha.keep hl)
theorem Runs.keep {l' : Env} (hl : Keep l l') (h : Runs P f n E R k Hs O l') : Runs P f n E R k Hs O l :=
  fun w hm a ha => h w hm a (ha.keep hl)
theorem Runs.perm {O' : List Own} (hO : O.Perm O') (h : Runs P f n E R k Hs O' l) : Runs P f n E R k Hs O l :=
  fun w hm a ha => h w (hm.perm hO) a ha

/-- Lists of which one is left of the other by leaving out. -/
class SubO (O' O : List Own) : Prop where
  h : O'.Sublist O
instance (priority := high) {O' O : List Own} {x : Own} [i : SubO O' O] : SubO (x :: O') (x :: O) := ⟨List.Sublist.cons_cons x i.h⟩
instance {O' O : List Own} {x : Own} [i : SubO O' O] : SubO O' (x :: O) := ⟨List.Sublist.cons x i.h⟩
instance (priority := high) {O : List Own} : SubO [] O := ⟨List.nil_sublist _⟩
instance (priority := low) {O : List Own} : SubO O O := ⟨List.Sublist.refl _⟩
class InH (Hs : List Snap) (H : Snap) : Prop where
  h : H ∈ Hs
instance (priority := high) {Hs : List Snap} {H : Snap} : InH (H :: Hs) H := ⟨List.mem_cons_self ..⟩
instance {Hs : List Snap} {H G : Snap} [i : InH Hs H] : InH (G :: Hs) H := ⟨List.mem_cons_of_mem _ i.h⟩
class SubH (Hs' Hs : List Snap) : Prop where
  h : ∀ x ∈ Hs', x ∈ Hs
instance (priority := high) {Hs : List Snap} : SubH [] Hs := ⟨by simp⟩
instance {Hs' Hs : List Snap} {H : Snap} [i : SubH Hs' Hs] [j : InH Hs H] : SubH (H :: Hs') Hs := ⟨by
  intro x hx
  rcases List.mem_cons.1 hx with rfl | hx
  · exact j.h
  · exact i.h x hx⟩
theorem Runs.back {Hs' : List Snap} {O' : List Own} {l' : Env} (h : Runs P f n E R k Hs' O' l') (hl : Keep l l') [i : SubH Hs' Hs] [j : SubO O' O] : Runs P f n E R k Hs O l :=
  h.weak hl (fun x hx => List.mem_cons_of_mem _ (i.h x hx)) j.h

/-- A loop: a family of states, of which each round leads to a smaller one, or out. -/
theorem Runs.loop {α : Type} {c : Code} (I : α → Prop) (μ : α → Nat) (sH : α → List Snap) (sO : α → List Own) (sl : α → Env) (x0 : α) (hI : I x0) (h0 : Runs P f n E R (.inLoop c :: k) (sH x0) (sO x0) (sl x0) → Runs P f n E R (.inLoop c :: k) Hs O l)
    (round : ∀ x, I x → (∀ y, I y → μ y < μ x → Runs P f n E R (.inLoop c :: k) (sH y) (sO y) (sl y)) → Runs P f n E R (.code c :: .inLoop c :: k) (sH x) (sO x) (sl x)) :
    Runs P f n E R (.code (.loop c) :: k) Hs O l := by
  have key : ∀ m x, μ x = m → I x → Runs P f n E R (.inLoop c :: k) (sH x) (sO x) (sl x) := by
    intro m
    induction m using Nat.strongRecOn with
    | _ m ih =>
      intro x hm hx w hmem a ha
      exact RunsAt.step (fun _ _ => step_inLoop) (round x hx (fun y hy hlt => ih (μ y) (hm ▸ hlt) y rfl hy) w hmem a ha)
  have h1 := h0 (key _ x0 rfl hI)
  intro w hm a ha
  have h2 := h1 w hm a ha
  refine RunsAt.step (fun b cs => step_loop) ?_
  intro b hb hk cs
  obtain ⟨v, w', fr, hR, hs, hr⟩ := h2 b hb hk cs
  refine ⟨v, w', fr, hR, ?_, hr⟩
  obtain ⟨m, hs⟩ := hs
  cases m with
  | zero =>
    simp only [runN] at hs
    injection hs with hs
    have e1 : fr = b.at a (.inLoop c :: k) := by
      have := congrArg (fun (m : Machine) => (m.gs[0]?).map (·.frame)) hs
      simpa [lone] using this.symm
    have h9 := hr.2.1
    rw [e1] at h9
    cases h9
  | succ m =>
    simp only [runN, step_inLoop] at hs
    exact ⟨m, hs⟩

/-! ### Operations that only look -/
def QV (P : Program) (E : Ent) (Hs : List Snap) (O : List Own) (l : Env) (op : Op) (v : Value) : Prop :=
  ∀ o : Oper, o.op = op → ∀ ρ : Operand → Value, (∀ x u, opv l x = some u → ρ x = u) → ∀ w, Mem E w Hs O → (execOp ρ o).run P w = .ok (.value v) w

def QN (P : Program) (f : FuncId) (R : Value → World → Prop) (k : List Item) : Exit → Act → World → Prop := fun e a w => e = .normal ∧ RunsAt P f R k a w

/-- The walk of a region in the order of the text: os are the operations that are left. -/
def RW (P : Program) (f : FuncId) (n : Nat) (E : Ent) (R : Value → World → Prop) (ops : Array Oper) (os : List Oper) (k : List Item) (Hs : List Snap) (O : List Own) (l : Env) : Prop :=
  ∀ w, Mem E w Hs O → ∀ a, Sat a n l → ∀ is : List Nat, is.map (fun i => ops[i]?) = os.map some → wpOps P ops (QN P f R k) is a w

theorem RunsAt.of_wp {c : Code} {a : Act} {w : World} (h : c.wp P (QN P f R k) a w) : RunsAt P f R (.code c :: k) a w := by
  intro b hb hk cs
  obtain ⟨e, a', w', ⟨rfl, hr⟩, harr⟩ := h b k cs
  obtain ⟨v, w2, fr, h1, h2, h3⟩ := hr b hb hk cs
  exact ⟨v, w2, fr, h1, Steps.trans harr h2, h3⟩

theorem Runs.regionT {id : Nat} {L : List Oper} (h : RW P f n E R L.toArray L k Hs O l) : Runs P f n E R (.code (.region id L.toArray false) :: k) Hs O l :=
  fun w hm a ha => RunsAt.of_wp (wp_region (h w hm a ha _ (by
    apply List.ext_getElem?
    intro i
    by_cases hi : i < L.length
    · simp [hi]
    · simp [Nat.le_of_not_lt hi])))

theorem RW.nil {ops : Array Oper} (h : Runs P f n E R k Hs O l) : RW P f n E R ops [] k Hs O l := by
  intro w hm a ha is his
  have : is = [] := by simpa using his
  subst this
  exact ⟨rfl, h w hm a ha⟩

theorem wpOps_one {ops : Array Oper} {Q : Exit → Act → World → Prop} {i : Nat} {rest : List Nat} {o : Oper} {a : Act} {w : World} (ho : ops[i]? = some o)
    (h : if Region.wanted o (yielded ops a.tmps) then o.wp P a w (wpOps P ops Q rest) Q else wpOps P ops Q rest (a.put o.dst undef) w) : wpOps P ops Q (i :: rest) a w := by
  simp only [wpOps, ho]
  split
  · rename_i hw; rw [if_pos hw] at h; exact .inl h
  · rename_i hw; rw [if_neg hw] at h; exact h

/-- The guard of an operation: that it runs, or that it is passed over. -/
def guardIs (ops : List Oper) (l : Env) : Option (Nat × Bool) → Option Bool
  | none => some true
  | some (j, want) => match ops[j]? with
    | some o => match o.dst with
      | some d => match efind l d with
        | some (.bool b) => some (b == want)
        | some (.tuple _) => some false
        | _ => none
      | none => none
    | none => none

theorem guardIs_spec {L : List Oper} {o : Oper} {a : Act} {b : Bool} (ha : Sat a n l) (h : guardIs L l o.guard = some b) : Region.wanted o (yielded L.toArray a.tmps) = b := by
  unfold Region.wanted
  cases hg : o.guard with
  | none => rw [hg] at h; simpa [guardIs] using h
  | some p =>
    obtain ⟨j, want⟩ := p
    rw [hg] at h
    simp only [guardIs] at h
    split at h
    · rename_i o' ho'
      split at h
      · rename_i d hd
        split at h
        · rename_i b' hb'
          have h1 := ha.get d _ hb'
          have h2 : yielded L.toArray a.tmps j = some b' := by simp [yielded, ho', hd, h1]
          simp only [h2]
          rw [← Option.some.inj h]
          cases b' <;> cases want <;> rfl
        · rename_i vs hb'
          have h1 := ha.get d _ hb'
          have h2 : yielded L.toArray a.tmps j = none := by simp [yielded, ho', hd, h1]
          simp only [h2]
          rw [← Option.some.inj h]
          rfl
        · cases h
      · cases h
    · cases h

/-- An operation that only looks. -/
theorem RW.q {L : List Oper} {d : Nat} {op : Op} {ty : TypeId} {pos : String} {aft : Array Edge} {os : List Oper} {v : Value} {g : Option (Nat × Bool)} (hq : QV P E Hs O l op v) (hg : guardIs L l g = some true) (hd : Nat.blt d n = true)
    (h : RW P f n E R L.toArray os k Hs O ((d, v) :: l)) : RW P f n E R L.toArray (⟨some d, op, ty, pos, aft, g⟩ :: os) k Hs O l := by
  intro w hm a ha is his
  cases is with
  | nil => simp at his
  | cons i rest =>
    simp only [List.map_cons, List.cons.injEq] at his
    refine wpOps_one his.1 ?_
    rw [guardIs_spec (o := ⟨some d, op, ty, pos, aft, g⟩) ha hg, if_pos rfl]
    unfold Oper.wp
    rw [hq ⟨some d, op, ty, pos, aft, g⟩ rfl a.eval (fun x u hx => ha.eval hx) w hm]
    exact h w hm _ (ha.put d v hd) rest his.2

/-- An operation that is passed over. -/
theorem RW.pass {L : List Oper} {d : Nat} {op : Op} {ty : TypeId} {pos : String} {aft : Array Edge} {os : List Oper} {g : Option (Nat × Bool)} (hg : guardIs L l g = some false) (hd : Nat.blt d n = true)
    (h : RW P f n E R L.toArray os k Hs O ((d, undef) :: l)) : RW P f n E R L.toArray (⟨some d, op, ty, pos, aft, g⟩ :: os) k Hs O l := by
  intro w hm a ha is his
  cases is with
  | nil => simp at his
  | cons i rest =>
    simp only [List.map_cons, List.cons.injEq] at his
    refine wpOps_one his.1 ?_
    rw [guardIs_spec (o := ⟨some d, op, ty, pos, aft, g⟩) ha hg, if_neg (by simp)]
    exact h w hm _ (ha.put d undef hd) rest his.2

/-- What an operation that makes or writes memory does. -/
def HV (P : Program) (E : Ent) (Hs : List Snap) (O : List Own) (l : Env) (op : Op) (post : Value → List Snap → List Own → Prop) : Prop :=
  ∀ o : Oper, o.op = op → ∀ w, Mem E w Hs O → ∀ a : Act, (∀ x u, opv l x = some u → a.eval x = u) → ∀ (next : Act → World → Prop) (Q : Exit → Act → World → Prop),
    (∀ v w' Hs' O', post v Hs' O' → Mem E w' Hs' O' → next (a.put o.dst v) w') → o.wp P a w next Q

theorem RW.h {L : List Oper} {d : Nat} {op : Op} {ty : TypeId} {pos : String} {aft : Array Edge} {os : List Oper} {g : Option (Nat × Bool)} {post : Value → List Snap → List Own → Prop} (hq : HV P E Hs O l op post) (hg : guardIs L l g = some true) (hd : Nat.blt d n = true)
    (h : ∀ v Hs' O', post v Hs' O' → RW P f n E R L.toArray os k Hs' O' ((d, v) :: l)) : RW P f n E R L.toArray (⟨some d, op, ty, pos, aft, g⟩ :: os) k Hs O l := by
  intro w hm a ha is his
  cases is with
  | nil => simp at his
  | cons i rest =>
    simp only [List.map_cons, List.cons.injEq] at his
    refine wpOps_one his.1 ?_
    rw [guardIs_spec (o := ⟨some d, op, ty, pos, aft, g⟩) ha hg, if_pos rfl]
    exact hq ⟨some d, op, ty, pos, aft, g⟩ rfl w hm a (fun x u hx => ha.eval hx) _ _ (fun v w' Hs' O' hp hm' => h v Hs' O' hp w' hm' _ (ha.put d v hd) rest his.2)

theorem RW.h0 {L : List Oper} {op : Op} {ty : TypeId} {pos : String} {aft : Array Edge} {os : List Oper} {g : Option (Nat × Bool)} {post : Value → List Snap → List Own → Prop} (hq : HV P E Hs O l op post) (hg : guardIs L l g = some true)
    (h : ∀ v Hs' O', post v Hs' O' → RW P f n E R L.toArray os k Hs' O' l) : RW P f n E R L.toArray (⟨none, op, ty, pos, aft, g⟩ :: os) k Hs O l := by
  intro w hm a ha is his
  cases is with
  | nil => simp at his
  | cons i rest =>
    simp only [List.map_cons, List.cons.injEq] at his
    refine wpOps_one his.1 ?_
    rw [guardIs_spec (o := ⟨none, op, ty, pos, aft, g⟩) ha hg, if_pos rfl]
    exact hq ⟨none, op, ty, pos, aft, g⟩ rfl w hm a (fun x u hx => ha.eval hx) _ _ (fun v w' Hs' O' hp hm' => h v Hs' O' hp w' hm' _ (ha.put_none v) rest his.2)

/-- A test that is not decided yet. -/
theorem RW.dec {ops : Array Oper} {os : List Oper} (t : Nat) {p : Prop} [Decidable p] (ht : efind l t = some (.bool (decide p))) (h1 : p → RW P f n E R ops os k Hs O ((t, .bool true) :: l)) (h2 : ¬ p → RW P f n E R ops os k Hs O ((t, .bool false) :: l)) : RW P f n E R ops os k Hs O l := by
  intro w hm a ha
  by_cases hp : p
  · rw [decide_eq_true hp] at ht
    exact h1 hp w hm a ⟨ha.size, ha.defers, fun i v hi => by
      simp only [efind] at hi
      cases hb : Nat.beq t i with
      | true => rw [hb] at hi; simp at hi; subst hi; rw [← Nat.eq_of_beq_eq_true hb]; exact ha.get t _ ht
      | false => rw [hb] at hi; exact ha.get i v hi⟩
  · rw [decide_eq_false hp] at ht
    exact h2 hp w hm a ⟨ha.size, ha.defers, fun i v hi => by
      simp only [efind] at hi
      cases hb : Nat.beq t i with
      | true => rw [hb] at hi; simp at hi; subst hi; rw [← Nat.eq_of_beq_eq_true hb]; exact ha.get t _ ht
      | false => rw [hb] at hi; exact ha.get i v hi⟩
theorem RW.perm {ops : Array Oper} {os : List Oper} {O' : List Own} (hO : O.Perm O') (h : RW P f n E R ops os k Hs O' l) : RW P f n E R ops os k Hs O l :=
  fun w hm a ha => h w (hm.perm hO) a ha
theorem RW.weak {ops : Array Oper} {os : List Oper} {Hs' : List Snap} {O' : List Own} {l' : Env} (h : RW P f n E R ops os k Hs' O' l') (hl : Keep l l') (hH : ∀ x ∈ Hs', x ∈ E.H0 :: Hs) (hO : O'.Sublist O) : RW P f n E R ops os k Hs O l :=
  fun w hm a ha => h w (hm.sub hH hO) a (ha.keep hl)

/-! ### A region that draws its order -/
def opAt : List Oper → Nat → Option Oper
  | [], _ => none
  | o :: _, 0 => some o
  | _ :: r, i + 1 => opAt r i
theorem opAt_eq : ∀ (L : List Oper) (i : Nat), opAt L i = L.toArray[i]?
  | [], i => by simp [opAt]
  | o :: r, 0 => by simp [opAt]
  | o :: r, i + 1 => by simp only [opAt]; rw [opAt_eq r i]; simp

/-- Whatever order is picked from here on; every operation that is carried out keeps T, and S too, but for the late ones. -/
def wpAnyL (P : Program) (ops : Array Oper) (Q : Exit → Act → World → Prop) (S T : World → Prop) (lt : List Nat) : Nat → Array Bool → Act → World → Prop
  | 0, listed, a, w => Region.ready .any ops listed = [] ∧ Q .normal a w
  | fuel + 1, listed, a, w =>
    (Region.ready .any ops listed = [] → Q .normal a w) ∧
    ∀ i ∈ Region.ready .any ops listed, wpOp P ops Q i (fun a' w' => (lt.contains i = false → S w → S w') ∧ (T w → T w') ∧ wpAnyL P ops Q S T lt fuel (listed.setIfInBounds i true) a' w') a w

section
variable {ops : Array Oper} {Q : Exit → Act → World → Prop} {S T : World → Prop} {lt : List Nat}
theorem wpAny_of_L : ∀ (fuel : Nat) (listed : Array Bool) (a : Act) (w : World), wpAnyL P ops Q S T lt fuel listed a w → wpAny P .any ops Q fuel listed a w
  | 0, _, _, _, h => h
  | fuel + 1, _, _, _, h => ⟨h.1, fun i hi => wpOp_mono (fun _ _ h' => wpAny_of_L fuel _ _ _ h'.2.2) (h.2 i hi)⟩

theorem wpAnyL_first {S' : World → Prop} {i : Nat} {oi : Oper} {v : Value} (hi : ops[i]? = some oi) (hsel : ∀ (j : Nat) (o : Oper) cs b, ops[j]? = some o → o.op ≠ .select cs b)
    (hQ : ∀ c a w, Q (.panic c) (a.put oi.dst v) w → Q (.panic c) a w)
    (hfree : (∀ w, S' w) ∨ (S' = S ∧ ∀ j ∈ lt, j ≠ i → ∀ oj, ops[j]? = some oj → ∃ e ∈ oj.after, Region.binds .any e = true ∧ e.on = i) ∨ S' = T) :
    ∀ (fuel : Nat) (listed : Array Bool) (a : Act) (w : World),
      (∀ j oj, ops[j]? = some oj → j ≠ i → listed.getD j true = false → (∀ e ∈ oj.after, Region.binds .any e = true → e.on ≠ i) → oi.apart ops oj = true) →
      i ∈ Region.ready .any ops listed → YieldsIf P ops S' oi v a → S' w →
      wpAnyL P ops Q S T lt fuel (listed.setIfInBounds i true) (a.put oi.dst v) w → wpAnyL P ops Q S T lt (fuel + 1) listed a w := by
  intro fuel
  induction fuel with
  | zero =>
    intro listed a w _ hr hy hS' H
    refine ⟨fun h => (by rw [h] at hr; cases hr), fun j hj => ?_⟩
    by_cases hji : j = i
    · subst hji; exact hy.wpOp hi hS' ⟨fun _ h => h, fun h => h, H⟩
    · have := ready_mono hj hji
      rw [H.1] at this
      cases this
  | succ fuel ih =>
    intro listed a w hap hr hy hS' H
    refine ⟨fun h => (by rw [h] at hr; cases hr), fun j hj => ?_⟩
    by_cases hji : j = i
    · subst hji; exact hy.wpOp hi hS' ⟨fun _ h => h, fun h => h, H⟩
    · have h1 := H.2 j (ready_mono hj hji)
      obtain ⟨hjun, oj, hoj, hall⟩ := mem_ready.1 hj
      have hnot : ∀ e ∈ oj.after, Region.binds .any e = true → e.on ≠ i := fun e he hb heq => by
        have h1 := hall e he hb
        have h0 := (mem_ready.1 hr).1
        rw [heq] at h1
        rcases Nat.lt_or_ge i listed.size with h' | h'
        · simp [h'] at h0 h1; rw [h0] at h1; cases h1
        · simp [Array.getElem?_eq_none h'] at h1
      have h2 := wpOp_putIf hoj (hap j oj hoj hji hjun hnot) (fun cs b => hsel i oi cs b hi) (fun cs b => hsel j oj cs b hoj) hQ hy h1
      have hap' : ∀ k ok, ops[k]? = some ok → k ≠ i → (listed.setIfInBounds j true).getD k true = false →
          (∀ e ∈ ok.after, Region.binds .any e = true → e.on ≠ i) → oi.apart ops ok = true := fun k ok hk hki hun hno => by
        refine hap k ok hk hki ?_ hno
        by_cases hjk : j = k
        · subst hjk; exact hjun
        · rw [getD_set_ne true hjk] at hun; exact hun
      refine wpOp_mono (fun a' w' h3 => ⟨h3.2.1, h3.2.2.1, ?_⟩) h2
      have hS3 : S' w' := by
        rcases hfree with h | ⟨h, hl⟩ | h
        · exact h w'
        · subst h
          refine h3.2.1 ?_ hS'
          by_cases hc : lt.contains j = true
          · obtain ⟨e, he, hb, heq⟩ := hl j (by simpa using hc) hji oj hoj
            exact absurd heq (hnot e he hb)
          · simpa using hc
        · subst h; exact h3.2.2.1 hS'
      refine ih (listed.setIfInBounds j true) a' w' hap' (ready_mono hr (Ne.symm hji)) h3.1 hS3 ?_
      rw [Array.setIfInBounds_comm _ _ hji]
      exact h3.2.2.2
end

/-- Every late operation waits for this one by an edge of its own. -/
def lateOk (L : List Oper) (lt : List Nat) (i : Nat) : Bool :=
  lt.all fun j => j == i || match L[j]? with
    | some oj => oj.after.any (fun e => Region.binds .any e && e.on == i)
    | none => true
theorem lateOk_spec {L : List Oper} {lt : List Nat} {i : Nat} (h : lateOk L lt i = true) : ∀ j ∈ lt, j ≠ i → ∀ oj, L.toArray[j]? = some oj → ∃ e ∈ oj.after, Region.binds .any e = true ∧ e.on = i := by
  intro j hj hne oj hoj
  have h1 := List.all_eq_true.1 h j hj
  have h2 : L[j]? = some oj := by simpa using hoj
  rw [h2] at h1
  simp only [Bool.or_eq_true, beq_iff_eq, hne, false_or] at h1
  obtain ⟨e, he, hb⟩ := Array.any_eq_true'.1 h1
  simp only [Bool.and_eq_true, beq_iff_eq] at hb
  exact ⟨e, he, hb.1, hb.2⟩

/-- Operations that look at nothing but slots. -/
def QF (P : Program) (l : Env) (op : Op) (v : Value) : Prop :=
  ∀ o : Oper, o.op = op → ∀ ρ : Operand → Value, (∀ x u, opv l x = some u → ρ x = u) → ∀ w, (execOp ρ o).run P w = .ok (.value v) w
theorem QF.qv {op : Op} {v : Value} (h : QF P l op v) : QV P E Hs O l op v := fun o ho ρ hρ w _ => h o ho ρ hρ w

/-- The walk: what only looks is taken first, under what holds of memory throughout the region (Hs0, O0), as long as that holds (st); then whatever may come up. -/
def DW (P : Program) (f : FuncId) (n : Nat) (E : Ent) (R : Value → World → Prop) (L : List Oper) (Hs0 : List Snap) (O0 : List Own) (lt : List Nat) (st : Bool) (fuel : Nat) (listed : Array Bool) (k : List Item) (Hs : List Snap) (O : List Own) (l : Env) : Prop :=
  (st = true → ∀ w, Mem E w Hs O → Mem E w Hs0 O0) → ∀ w, Mem E w Hs O → ∀ a, Sat a n l → wpAnyL P L.toArray (QN P f R k) (fun w => Mem E w Hs0 O0) (fun w => Agr w E.H0) lt fuel listed a w

theorem Runs.regionD {id : Nat} {L : List Oper} (Hs0 : List Snap) (O0 : List Own) (lt : List Nat) (hH : ∀ x ∈ Hs0, x ∈ E.H0 :: Hs) (hO : O0.Sublist O) (hmix : P.follows .mixedOrders = true)
    (h : DW P f n E R L Hs0 O0 lt true L.length (Array.replicate L.length false) k Hs O l) : Runs P f n E R (.code (.region id L.toArray true) :: k) Hs O l :=
  fun w hm a ha => RunsAt.of_wp (wp_region_any hmix (wpAny_of_L (S := fun w => Mem E w Hs0 O0) (T := fun w => Agr w E.H0) (lt := lt) _ _ _ _ (by
    have := h (fun _ w hm => hm.sub hH hO) w.drew hm.drew a ha
    simpa using this)))

theorem hQN {o : Oper} {v : Value} : ∀ c (a : Act) w, QN P f R k (.panic c) (a.put o.dst v) w → QN P f R k (.panic c) a w := fun c a w h => by cases h.1

section
variable {L : List Oper} {Hs0 : List Snap} {O0 : List Own} {lt : List Nat} {st : Bool} {fuel : Nat} {listed : Array Bool} {d : Nat} {op : Op} {ty : TypeId} {pos : String} {aft : Array Edge} {g : Option (Nat × Bool)}
def takeOk (L : List Oper) (listed : Array Bool) (i : Nat) : Bool := Region.noSelect L.toArray && Region.free .any L.toArray listed i && (Region.ready .any L.toArray listed).contains i

theorem DW.q (i : Nat) {v : Value} (hi : opAt L i = some ⟨some d, op, ty, pos, aft, g⟩)
    (hc : (takeOk L listed i && lateOk L lt i) = true) (hq : QV P E Hs0 O0 l op v) (hg : guardIs L l g = some true) (hd : Nat.blt d n = true)
    (h : DW P f n E R L Hs0 O0 lt true fuel (listed.setIfInBounds i true) k Hs O ((d, v) :: l)) : DW P f n E R L Hs0 O0 lt true (fuel + 1) listed k Hs O l := by
  intro hsub w hm a ha
  rw [takeOk, Bool.and_eq_true, Bool.and_eq_true, Bool.and_eq_true] at hc
  rw [opAt_eq] at hi
  have hr : i ∈ Region.ready .any L.toArray listed := by simpa using hc.1.2
  refine wpAnyL_first (S' := fun w => Mem E w Hs0 O0) (v := v) hi (Region.noSelect_spec hc.1.1.1) hQN (.inr (.inl ⟨rfl, lateOk_spec hc.2⟩)) fuel listed a w (Region.free_spec hi hc.1.1.2) hr (.inl ⟨guardIs_spec (o := ⟨some d, op, ty, pos, aft, g⟩) ha hg, fun w' hw' => ?_⟩) (hsub rfl w hm) ?_
  · exact hq ⟨some d, op, ty, pos, aft, g⟩ rfl a.eval (fun x u hx => ha.eval hx) w' hw'
  · exact h hsub w hm _ (ha.put d v hd)

theorem DW.qF (i : Nat) {v : Value} (hi : opAt L i = some ⟨some d, op, ty, pos, aft, g⟩)
    (hc : takeOk L listed i = true) (hq : QF P l op v) (hg : guardIs L l g = some true) (hd : Nat.blt d n = true)
    (h : DW P f n E R L Hs0 O0 lt st fuel (listed.setIfInBounds i true) k Hs O ((d, v) :: l)) : DW P f n E R L Hs0 O0 lt st (fuel + 1) listed k Hs O l := by
  intro hsub w hm a ha
  rw [takeOk, Bool.and_eq_true, Bool.and_eq_true] at hc
  rw [opAt_eq] at hi
  have hr : i ∈ Region.ready .any L.toArray listed := by simpa using hc.2
  refine wpAnyL_first (S' := fun _ => True) (v := v) hi (Region.noSelect_spec hc.1.1) hQN (.inl fun _ => trivial) fuel listed a w (Region.free_spec hi hc.1.2) hr (.inl ⟨guardIs_spec (o := ⟨some d, op, ty, pos, aft, g⟩) ha hg, fun w' _ => ?_⟩) trivial ?_
  · exact hq ⟨some d, op, ty, pos, aft, g⟩ rfl a.eval (fun x u hx => ha.eval hx) w'
  · exact h hsub w hm _ (ha.put d v hd)

/-- Operations that look at the snapshot of the start. -/
def QE (P : Program) (E : Ent) (l : Env) (op : Op) (v : Value) : Prop :=
  ∀ o : Oper, o.op = op → ∀ ρ : Operand → Value, (∀ x u, opv l x = some u → ρ x = u) → ∀ w, Agr w E.H0 → (execOp ρ o).run P w = .ok (.value v) w
theorem DW.qE (i : Nat) {v : Value} (hi : opAt L i = some ⟨some d, op, ty, pos, aft, g⟩)
    (hc : takeOk L listed i = true) (hq : QE P E l op v) (hg : guardIs L l g = some true) (hd : Nat.blt d n = true)
    (h : DW P f n E R L Hs0 O0 lt st fuel (listed.setIfInBounds i true) k Hs O ((d, v) :: l)) : DW P f n E R L Hs0 O0 lt st (fuel + 1) listed k Hs O l := by
  intro hsub w hm a ha
  rw [takeOk, Bool.and_eq_true, Bool.and_eq_true] at hc
  rw [opAt_eq] at hi
  have hr : i ∈ Region.ready .any L.toArray listed := by simpa using hc.2
  refine wpAnyL_first (S' := fun w => Agr w E.H0) (v := v) hi (Region.noSelect_spec hc.1.1) hQN (.inr (.inr rfl)) fuel listed a w (Region.free_spec hi hc.1.2) hr (.inl ⟨guardIs_spec (o := ⟨some d, op, ty, pos, aft, g⟩) ha hg, fun w' hw' => ?_⟩) (hm.agr _ (List.mem_cons_self ..)) ?_
  · exact hq ⟨some d, op, ty, pos, aft, g⟩ rfl a.eval (fun x u hx => ha.eval hx) w' hw'
  · exact h hsub w hm _ (ha.put d v hd)

theorem DW.pass (i : Nat) (hi : opAt L i = some ⟨some d, op, ty, pos, aft, g⟩)
    (hc : takeOk L listed i = true) (hg : guardIs L l g = some false) (hd : Nat.blt d n = true)
    (h : DW P f n E R L Hs0 O0 lt st fuel (listed.setIfInBounds i true) k Hs O ((d, undef) :: l)) : DW P f n E R L Hs0 O0 lt st (fuel + 1) listed k Hs O l := by
  intro hsub w hm a ha
  rw [takeOk, Bool.and_eq_true, Bool.and_eq_true] at hc
  rw [opAt_eq] at hi
  have hr : i ∈ Region.ready .any L.toArray listed := by simpa using hc.2
  refine wpAnyL_first (S' := fun _ => True) (v := undef) hi (Region.noSelect_spec hc.1.1) hQN (.inl fun _ => trivial) fuel listed a w (Region.free_spec hi hc.1.2) hr (.inr ⟨guardIs_spec (o := ⟨some d, op, ty, pos, aft, g⟩) ha hg, rfl⟩) trivial ?_
  exact h hsub w hm _ (ha.put d undef hd)

theorem DW.done (hr : (Region.ready .any L.toArray listed).isEmpty = true) (h : Runs P f n E R k Hs O l) : DW P f n E R L Hs0 O0 lt st fuel listed k Hs O l := by
  intro _ w hm a ha
  have hr' : Region.ready .any L.toArray listed = [] := by simpa using hr
  cases fuel with
  | zero => exact ⟨hr', rfl, h w hm a ha⟩
  | succ m => exact ⟨fun _ => ⟨rfl, h w hm a ha⟩, by rw [hr']; simp⟩

theorem DW.all {rs : List Nat} (hc : (Region.ready .any L.toArray listed == rs) = true) (hne : rs.isEmpty = false)
    (h : ∀ i ∈ rs, ∀ w, (st = true → Mem E w Hs0 O0) → Mem E w Hs O → ∀ a, Sat a n l → wpOp P L.toArray (QN P f R k) i (fun a' w' => (lt.contains i = false → Mem E w Hs0 O0 → Mem E w' Hs0 O0) ∧ (Agr w E.H0 → Agr w' E.H0) ∧ wpAnyL P L.toArray (QN P f R k) (fun w => Mem E w Hs0 O0) (fun w => Agr w E.H0) lt fuel (listed.setIfInBounds i true) a' w') a w) :
    DW P f n E R L Hs0 O0 lt st (fuel + 1) listed k Hs O l := by
  intro hsub w hm a ha
  have hc' : Region.ready .any L.toArray listed = rs := by simpa using hc
  refine ⟨fun h0 => ?_, fun i hi => h i (hc' ▸ hi) w (fun e => hsub e w hm) hm a ha⟩
  rw [hc'] at h0; subst h0; cases hne

/-- The one operation that may come up makes or writes memory. -/
theorem DW.h (i : Nat) {post : Value → List Snap → List Own → Prop} (st' : Bool) (hi : opAt L i = some ⟨some d, op, ty, pos, aft, g⟩)
    (hc : (Region.ready .any L.toArray listed == [i]) = true) (hq : HV P E Hs O l op post) (hg : guardIs L l g = some true) (hd : Nat.blt d n = true) (hst : (lt.contains i || st && st') = true)
    (h : ∀ v Hs' O', post v Hs' O' → (st' = true → ∀ w, Mem E w Hs' O' → Mem E w Hs0 O0) ∧ DW P f n E R L Hs0 O0 lt st' fuel (listed.setIfInBounds i true) k Hs' O' ((d, v) :: l)) : DW P f n E R L Hs0 O0 lt st (fuel + 1) listed k Hs O l := by
  rw [opAt_eq] at hi
  refine DW.all hc rfl (fun j hj w hs hm a ha => ?_)
  rw [List.mem_singleton] at hj
  subst hj
  unfold wpOp
  simp only [hi]
  rw [guardIs_spec (o := ⟨some d, op, ty, pos, aft, g⟩) ha hg, if_pos rfl]
  refine .inl (hq ⟨some d, op, ty, pos, aft, g⟩ rfl w hm a (fun x u hx => ha.eval hx) _ _ (fun v w' Hs' O' hp hm' => ⟨fun hl _ => ?_, fun _ => hm'.agr _ (List.mem_cons_self ..), (h v Hs' O' hp).2 (h v Hs' O' hp).1 w' hm' _ (ha.put d v hd)⟩))
  rw [hl] at hst
  simp only [Bool.false_or, Bool.and_eq_true] at hst
  exact (h v Hs' O' hp).1 hst.2 w' hm'

theorem DW.h0 (i : Nat) {post : Value → List Snap → List Own → Prop} (st' : Bool) (hi : opAt L i = some ⟨none, op, ty, pos, aft, g⟩)
    (hc : (Region.ready .any L.toArray listed == [i]) = true) (hq : HV P E Hs O l op post) (hg : guardIs L l g = some true) (hst : (lt.contains i || st && st') = true)
    (h : ∀ v Hs' O', post v Hs' O' → (st' = true → ∀ w, Mem E w Hs' O' → Mem E w Hs0 O0) ∧ DW P f n E R L Hs0 O0 lt st' fuel (listed.setIfInBounds i true) k Hs' O' l) : DW P f n E R L Hs0 O0 lt st (fuel + 1) listed k Hs O l := by
  rw [opAt_eq] at hi
  refine DW.all hc rfl (fun j hj w hs hm a ha => ?_)
  rw [List.mem_singleton] at hj
  subst hj
  unfold wpOp
  simp only [hi]
  rw [guardIs_spec (o := ⟨none, op, ty, pos, aft, g⟩) ha hg, if_pos rfl]
  refine .inl (hq ⟨none, op, ty, pos, aft, g⟩ rfl w hm a (fun x u hx => ha.eval hx) _ _ (fun v w' Hs' O' hp hm' => ⟨fun hl _ => ?_, fun _ => hm'.agr _ (List.mem_cons_self ..), (h v Hs' O' hp).2 (h v Hs' O' hp).1 w' hm' _ (ha.put_none v)⟩))
  rw [hl] at hst
  simp only [Bool.false_or, Bool.and_eq_true] at hst
  exact (h v Hs' O' hp).1 hst.2 w' hm'

theorem DW.dec (t : Nat) {p : Prop} [Decidable p] (ht : efind l t = some (.bool (decide p))) (h1 : p → DW P f n E R L Hs0 O0 lt st fuel listed k Hs O ((t, .bool true) :: l)) (h2 : ¬ p → DW P f n E R L Hs0 O0 lt st fuel listed k Hs O ((t, .bool false) :: l)) : DW P f n E R L Hs0 O0 lt st fuel listed k Hs O l := by
  intro hsub w hm a ha
  by_cases hp : p
  · rw [decide_eq_true hp] at ht
    exact h1 hp hsub w hm a ⟨ha.size, ha.defers, fun i v hi => by
      simp only [efind] at hi
      cases hb : Nat.beq t i with
      | true => rw [hb] at hi; simp at hi; subst hi; rw [← Nat.eq_of_beq_eq_true hb]; exact ha.get t _ ht
      | false => rw [hb] at hi; exact ha.get i v hi⟩
  · rw [decide_eq_false hp] at ht
    exact h2 hp hsub w hm a ⟨ha.size, ha.defers, fun i v hi => by
      simp only [efind] at hi
      cases hb : Nat.beq t i with
      | true => rw [hb] at hi; simp at hi; subst hi; rw [← Nat.eq_of_beq_eq_true hb]; exact ha.get t _ ht
      | false => rw [hb] at hi; exact ha.get i v hi⟩
end

/-! ### The end -/
theorem Runs.fin {fn : Func} (hf : P.funcs[f]? = some fn) {v : Value} (hr : ∀ w a, Mem E w Hs O → Sat a n l → (results fn a.tmps).run P w = .ok v w) (hR : ∀ w, Mem E w Hs O → R v w) : Runs P f n E R [] Hs O l := by
  intro w hm a ha b hb hk cs
  refine ⟨v, w, _, hR w hm, .one step_end, hb, rfl, ha.defers, hk, fn, ?_, hr w a hm ha⟩
  show P.funcs[b.fn]? = some fn
  rw [hb]; exact hf
theorem Runs.ret {fn : Func} (hf : P.funcs[f]? = some fn) {v : Value} (hr : ∀ w a, Mem E w Hs O → Sat a n l → (results fn a.tmps).run P w = .ok v w) (hR : ∀ w, Mem E w Hs O → R v w) : Runs P f n E R (.code .ret :: k) Hs O l := by
  intro w hm a ha b hb hk cs
  refine ⟨v, w, _, hR w hm, .one step_ret, hb, rfl, ha.defers, hk, fn, ?_, hr w a hm ha⟩
  show P.funcs[b.fn]? = some fn
  rw [hb]; exact hf

theorem Runs.ret1 {fn : Func} {t : Nat} {v : Value} (hf : P.funcs[f]? = some fn) (hr : fn.results = #[.tmp t]) (hv : efind l t = some v) (hR : ∀ w, Mem E w Hs O → R v w) : Runs P f n E R (.code .ret :: k) Hs O l :=
  Runs.ret hf (v := v) (fun w a hm ha => by simp [results, hr, ha.get t v hv]) hR
theorem Runs.ret2 {fn : Func} {t t' : Nat} {v v' : Value} (hf : P.funcs[f]? = some fn) (hr : fn.results = #[.tmp t, .tmp t']) (hv : efind l t = some v) (hv' : efind l t' = some v') (hR : ∀ w, Mem E w Hs O → R (.tuple #[v, v']) w) : Runs P f n E R (.code .ret :: k) Hs O l :=
  Runs.ret hf (v := .tuple #[v, v']) (fun w a hm ha => by simp [results, hr, ha.get t v hv, ha.get t' v' hv']) hR
theorem Runs.ret0 {fn : Func} (hf : P.funcs[f]? = some fn) (hr : fn.results = #[]) (hR : ∀ w, Mem E w Hs O → R (.tuple #[]) w) : Runs P f n E R (.code .ret :: k) Hs O l :=
  Runs.ret hf (v := .tuple #[]) (fun w a hm ha => by simp [results, hr]) hR
theorem Runs.fin0 {fn : Func} (hf : P.funcs[f]? = some fn) (hr : fn.results = #[]) (hR : ∀ w, Mem E w Hs O → R (.tuple #[]) w) : Runs P f n E R [] Hs O l :=
  Runs.fin hf (v := .tuple #[]) (fun w a hm ha => by simp [results, hr]) hR

end
end Go.Proofs.Ytbiohkncdlhigaa

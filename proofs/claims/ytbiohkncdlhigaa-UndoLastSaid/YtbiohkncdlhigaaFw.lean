/-
  The frame for the walks: environments of slots, memory as snapshots and owned blocks, the runs of a function's code. Conditions: none. Over any program.
-/
import Derived.WalkKit
import Derived.Scope
import Derived.OrdersHeld
import Derived.Maps.AppendAt
import Derived.KernelRfl
namespace Go.Proofs.Ytbiohkncdlhigaa
open Go Go.RowKit

/-! ### Slots -/
abbrev Env := List (Nat × Value)

def efind : Env → Nat → Option Value
  | [], _ => none
  | (i, v) :: l, t => bif Nat.beq i t then some v else efind l t

structure Sat (a : Act) (n : Nat) (l : Env) : Prop where
  size : a.tmps.size = n
  defers : a.defers = []
  get : ∀ t v, efind l t = some v → a.tmps[t]? = some v

def opv (l : Env) : Operand → Option Value
  | .tmp t => efind l t
  | .const v => some v
  | .global g => some (.pointer (some ⟨g, 0, none⟩))
  | .func f => some (.func (.func f) #[] #[])

theorem Sat.eval {a : Act} {n : Nat} {l : Env} (h : Sat a n l) {x : Operand} {v : Value} (hx : opv l x = some v) : a.eval x = v := by
  cases x with
  | tmp t => simp only [opv] at hx; have := h.get t v hx; simp [Act.eval, this]
  | const u => simpa [opv, Act.eval] using hx
  | global g => simpa [opv, Act.eval] using hx
  | func f => simpa [opv, Act.eval] using hx

theorem Sat.put {a : Act} {n : Nat} {l : Env} (h : Sat a n l) (d : Nat) (v : Value) (hd : Nat.blt d n = true) : Sat (a.put (some d) v) n ((d, v) :: l) := by
  have hd' : d < n := by simpa using hd
  refine ⟨by simp [Act.put, h.size], h.defers, fun t u hu => ?_⟩
  simp only [efind] at hu
  by_cases e : d = t
  · subst e
    simp at hu
    subst hu
    simp [Act.put, h.size, hd']
  · have e' : Nat.beq d t = false := by
      cases hb : Nat.beq d t with
      | false => rfl
      | true => exact absurd (Nat.eq_of_beq_eq_true hb) e
    rw [e'] at hu
    simp only [cond_false] at hu
    have := h.get t u hu
    simp only [Act.put]
    rw [Array.getElem?_setIfInBounds_ne (by omega)]
    exact this

theorem Sat.put_none {a : Act} {n : Nat} {l : Env} (h : Sat a n l) (v : Value) : Sat (a.put none v) n l := h

def Keep (l : Env) : Env → Prop
  | [] => True
  | (i, v) :: r => efind l i = some v ∧ Keep l r

theorem Keep.find {l : Env} : ∀ {r : Env}, Keep l r → ∀ t v, efind r t = some v → efind l t = some v
  | [], _, t, v, h => by simp [efind] at h
  | p :: r, hk, t, v, h => by
    simp only [efind] at h
    cases hb : Nat.beq p.1 t with
    | true =>
      rw [hb] at h; simp at h
      have := Nat.eq_of_beq_eq_true hb
      subst this; subst h
      exact hk.1
    | false => rw [hb] at h; exact Keep.find hk.2 t v h

theorem Sat.keep {a : Act} {n : Nat} {l r : Env} (h : Sat a n l) (hk : Keep l r) : Sat a n r :=
  ⟨h.size, h.defers, fun t v ht => h.get t v (hk.find t v ht)⟩

/-! ### Snapshots of memory that nobody writes any more -/
abbrev Snap := Nat → Option Obj
def Snap.cell (H : Snap) (a : Addr) : Option Value :=
  match H a.block with
  | some (.cells c _ _) => if a.spot.isSome then none else c[a.off]?
  | _ => none
def Snap.le (H H' : Snap) : Prop := ∀ b o, H b = some o → H' b = some o
theorem Snap.le.refl (H : Snap) : H.le H := fun _ _ h => h
theorem Snap.le.trans {H H' H'' : Snap} (h : H.le H') (h' : H'.le H'') : H.le H'' := fun b o e => h' b o (h b o e)
theorem Snap.le.cell {H H' : Snap} (h : H.le H') {a : Addr} {v : Value} (hc : H.cell a = some v) : H'.cell a = some v := by
  unfold Snap.cell at *
  cases e : H a.block with
  | none => simp [e] at hc
  | some o => rw [h _ _ e]; simpa [e] using hc
def Agr (w : World) (H : Snap) : Prop := ∀ b o, H b = some o → w.heap[b]? = some o
theorem Agr.cell {w : World} {H : Snap} (h : Agr w H) {a : Addr} {v : Value} (hc : H.cell a = some v) : w.cell? a = some v := by
  unfold Snap.cell at hc
  unfold World.cell?
  cases e : H a.block with
  | none => simp [e] at hc
  | some o => rw [h _ _ e]; rw [e] at hc; exact hc

/-! ### Owned blocks -/
inductive Own where
  | blk (b : Nat) (T : TypeId) (cs : List Value)
  | row (T : TypeId) (sz : Nat) (v : Value) (n : Nat) (xs : List Value)

def Own.foot : Own → Option Nat
  | .blk b _ _ => some b
  | .row _ _ v _ _ => v.ownBlock
def Own.holds (w : World) : Own → Prop
  | .blk b T cs => w.heap[b]? = some (.cells cs.toArray T (0, 0))
  | .row T sz v n xs => w.ownsRow 0 T sz v n xs

theorem Own.lt {w : World} {o : Own} (h : o.holds w) {b : Nat} (hb : o.foot = some b) : b < w.heap.size := by
  cases o with
  | blk b' T cs =>
    simp only [Own.foot, Option.some.injEq] at hb
    subst hb
    simp only [Own.holds] at h
    exact (Array.getElem?_eq_some_iff.1 h).1
  | row T sz v n xs =>
    simp only [Own.holds, World.ownsRow] at h
    rcases h.2 with ⟨rfl, _⟩ | ⟨g, cap, cur, rfl, _, hh, _⟩
    · simp [Own.foot, Value.ownBlock] at hb
    · simp [Own.foot, Value.ownBlock] at hb
      subst hb
      exact (Array.getElem?_eq_some_iff.1 hh).1

theorem Own.holds_of {w w' : World} {o : Own} (hk : ∀ b, o.foot = some b → w'.heap[b]? = w.heap[b]?) (h : o.holds w) : o.holds w' := by
  cases o with
  | blk b T cs => simp only [Own.holds] at *; rw [hk b rfl]; exact h
  | row T sz v n xs =>
    simp only [Own.holds, World.ownsRow] at *
    refine ⟨h.1, ?_⟩
    rcases h.2 with ⟨rfl, h0⟩ | ⟨g, cap, cur, rfl, h1, hh, h2⟩
    · exact .inl ⟨rfl, h0⟩
    · exact .inr ⟨g, cap, cur, rfl, h1, by rw [hk g rfl]; exact hh, h2⟩

theorem Own.lt2 {w : World} {o : Own} (h : o.holds w) {b : Nat} (hb : o.foot = some b) : b < w.heap.size := Own.lt h hb
theorem Own.holds_of2 {w w' : World} {o : Own} (h : o.holds w) (hk : ∀ b, o.foot = some b → w'.heap[b]? = w.heap[b]?) : o.holds w' := Own.holds_of hk h

/-! ### What a call keeps -/
structure Fr (M : List Nat) (w w' : World) : Prop where
  os : w'.os = w.os
  tape : w'.tape = w.tape
  output : w'.output = w.output
  size : w.heap.size ≤ w'.heap.size
  block : ∀ k, k < w.heap.size → k ∉ M → w'.heap[k]? = w.heap[k]?

theorem Fr.refl (M : List Nat) (w : World) : Fr M w w := ⟨rfl, rfl, rfl, Nat.le_refl _, fun _ _ _ => rfl⟩
theorem Fr.below {w w' : World} (h : Fr [] w w') : Below w.heap.size w w' :=
  ⟨h.os, h.tape, h.output, h.size, fun k hk => h.block k hk (by simp)⟩

structure Ent where
  w0 : World
  M : List Nat
  H0 : Snap

def apartFrom (H : Snap) (x : Own) : Prop := ∀ b o, H b = some o → x.foot ≠ some b
def apart2 (x y : Own) : Prop := ∀ b, x.foot = some b → y.foot ≠ some b
theorem apart2.symm {x y : Own} (h : apart2 x y) : apart2 y x := fun b hy hx => h b hx hy

structure Mem (E : Ent) (w : World) (Hs : List Snap) (O : List Own) : Prop where
  fr : Fr E.M E.w0 w
  own : ∀ o ∈ O, o.holds w
  new : ∀ o ∈ O, ∀ b, o.foot = some b → E.w0.heap.size ≤ b ∨ b ∈ E.M
  dis : O.Pairwise apart2
  agr : ∀ H ∈ E.H0 :: Hs, Agr w H
  dom : ∀ H ∈ E.H0 :: Hs, ∀ b o, H b = some o → E.H0 b = some o ∨ E.w0.heap.size ≤ b
  apart : ∀ H ∈ E.H0 :: Hs, ∀ x ∈ O, apartFrom H x

def feet (O : List Own) : List Nat := O.filterMap Own.foot
theorem mem_feet {O : List Own} {b : Nat} : b ∈ feet O ↔ ∃ o ∈ O, o.foot = some b := by simp [feet]

theorem Mem.sub {E : Ent} {w : World} {Hs Hs' : List Snap} {O O' : List Own} (h : Mem E w Hs O) (hH : ∀ x ∈ Hs', x ∈ E.H0 :: Hs) (hO : O'.Sublist O) : Mem E w Hs' O' := by
  have hH' : ∀ x ∈ E.H0 :: Hs', x ∈ E.H0 :: Hs := by
    intro x hx
    rcases List.mem_cons.1 hx with rfl | hx
    · exact List.mem_cons_self ..
    · exact hH x hx
  exact ⟨h.fr, fun o ho => h.own o (hO.subset ho), fun o ho => h.new o (hO.subset ho), h.dis.sublist hO, fun H hx => h.agr H (hH' H hx), fun H hx => h.dom H (hH' H hx),
    fun H hx x hxO => h.apart H (hH' H hx) x (hO.subset hxO)⟩

theorem Mem.perm {E : Ent} {w : World} {Hs : List Snap} {O O' : List Own} (h : Mem E w Hs O) (hO : O.Perm O') : Mem E w Hs O' :=
  ⟨h.fr, fun o ho => h.own o (hO.symm.subset ho), fun o ho => h.new o (hO.symm.subset ho), (hO.pairwise_iff (fun h => apart2.symm h)).1 h.dis, h.agr, h.dom,
    fun H hx x hxO => h.apart H hx x (hO.symm.subset hxO)⟩

theorem Mem.start {w : World} {M : List Nat} {H : Snap} {O : List Own} (hM : feet O = M) (hA : Agr w H) (ho : ∀ o ∈ O, o.holds w) (hd : O.Pairwise apart2) (ha : ∀ x ∈ O, apartFrom H x) : Mem ⟨w, M, H⟩ w [H] O := by
  subst hM
  refine ⟨Fr.refl _ _, ho, fun o h b hb => .inr (mem_feet.2 ⟨o, h, hb⟩), hd, ?_, ?_, ?_⟩
  · intro H' h'; simp at h'; subst h'; exact hA
  · intro H' h' b o hb; simp at h'; subst h'; exact .inl hb
  · intro H' h'; simp at h'; subst h'; exact ha

theorem drew_heap (w : World) : w.drew.heap = w.heap := rfl
theorem Mem.drew {E : Ent} {w : World} {Hs : List Snap} {O : List Own} (h : Mem E w Hs O) : Mem E w.drew Hs O :=
  ⟨⟨h.fr.os, h.fr.tape, h.fr.output, h.fr.size, h.fr.block⟩, fun o ho => Own.holds_of2 (h.own o ho) (fun _ _ => rfl), h.new, h.dis, fun H hx => h.agr H hx, h.dom, h.apart⟩

/-- A new block. -/
theorem Mem.alloc {E : Ent} {w : World} {Hs : List Snap} {O : List Own} (h : Mem E w Hs O) (cs : List Value) (T : TypeId) :
    Mem E (w.alloc (.cells cs.toArray T)) Hs (.blk w.heap.size T cs :: O) := by
  have hsz : (w.alloc (.cells cs.toArray T)).heap.size = w.heap.size + 1 := by simp
  have hold : ∀ k, k < w.heap.size → (w.alloc (.cells cs.toArray T)).heap[k]? = w.heap[k]? := fun k hk => Below.heap_alloc w _ k hk
  refine ⟨⟨h.fr.os, h.fr.tape, h.fr.output, by have := h.fr.size; omega, fun k hk hM => (hold k (by have := h.fr.size; omega)).trans (h.fr.block k hk hM)⟩, ?_, ?_, ?_, ?_, h.dom, ?_⟩
  · intro o ho
    rcases List.mem_cons.1 ho with rfl | ho
    · simp only [Own.holds]; exact heap_alloc_new w _
    · exact Own.holds_of2 (h.own o ho) (fun b hb => hold b (Own.lt2 (h.own o ho) hb))
  · intro o ho b hb
    rcases List.mem_cons.1 ho with rfl | ho
    · simp only [Own.foot, Option.some.injEq] at hb
      subst hb; exact .inl h.fr.size
    · exact h.new o ho b hb
  · refine List.pairwise_cons.2 ⟨fun y hy b hb hyb => ?_, h.dis⟩
    simp only [Own.foot, Option.some.injEq] at hb
    have := Own.lt2 (h.own y hy) hyb
    omega
  · intro H hH b o hb
    have h1 := h.agr H hH b o hb
    exact (hold b (Array.getElem?_eq_some_iff.1 h1).1).trans h1
  · intro H hH x hx
    rcases List.mem_cons.1 hx with rfl | hx
    · intro b o hb hf
      simp only [Own.foot, Option.some.injEq] at hf
      have h1 := h.agr H hH b o hb
      have := (Array.getElem?_eq_some_iff.1 h1).1
      omega
    · exact h.apart H hH x hx

/-- Two worlds that differ in one owned entry's block (or a new block) alone. -/
theorem Mem.change {E : Ent} {w w' : World} {Hs : List Snap} {O : List Own} {x y : Own} (h : Mem E w Hs (x :: O)) (hos : w'.os = w.os) (htape : w'.tape = w.tape) (hout : w'.output = w.output)
    (hsize : w.heap.size ≤ w'.heap.size) (hk : ∀ k, k < w.heap.size → x.foot ≠ some k → w'.heap[k]? = w.heap[k]?) (hy : y.holds w') (hf : ∀ b, y.foot = some b → x.foot = some b ∨ w.heap.size ≤ b) :
    Mem E w' Hs (y :: O) := by
  have hxn := h.new x (List.mem_cons_self ..)
  have hO : ∀ o ∈ O, ∀ b, o.foot = some b → b < w.heap.size ∧ x.foot ≠ some b := fun o ho b hb =>
    ⟨Own.lt2 (h.own o (List.mem_cons_of_mem _ ho)) hb, fun hx => (List.pairwise_cons.1 h.dis).1 o ho b hx hb⟩
  refine ⟨⟨hos.trans h.fr.os, htape.trans h.fr.tape, hout.trans h.fr.output, Nat.le_trans h.fr.size hsize, fun k hk0 hM => ?_⟩, ?_, ?_, ?_, ?_, h.dom, ?_⟩
  · refine (hk k (by have := h.fr.size; omega) (fun hx => ?_)).trans (h.fr.block k hk0 hM)
    rcases hxn k hx with h1 | h1
    · omega
    · exact hM h1
  · intro o ho
    rcases List.mem_cons.1 ho with rfl | ho
    · exact hy
    · exact Own.holds_of2 (h.own o (List.mem_cons_of_mem _ ho)) (fun b hb => hk b (hO o ho b hb).1 (hO o ho b hb).2)
  · intro o ho b hb
    rcases List.mem_cons.1 ho with rfl | ho
    · rcases hf b hb with h1 | h1
      · exact hxn b h1
      · exact .inl (Nat.le_trans h.fr.size h1)
    · exact h.new o (List.mem_cons_of_mem _ ho) b hb
  · refine List.pairwise_cons.2 ⟨fun z hz b hb hzb => ?_, (List.pairwise_cons.1 h.dis).2⟩
    have h1 := hO z hz b hzb
    rcases hf b hb with h2 | h2
    · exact h1.2 h2
    · omega
  · intro H hH b o hb
    have h1 := h.agr H hH b o hb
    refine (hk b (Array.getElem?_eq_some_iff.1 h1).1 (fun hx => ?_)).trans h1
    exact h.apart H hH x (List.mem_cons_self ..) b o hb hx
  · intro H hH z hz
    rcases List.mem_cons.1 hz with rfl | hz
    · intro b o hb hzf
      rcases hf b hzf with h2 | h2
      · exact h.apart H hH x (List.mem_cons_self ..) b o hb h2
      · have h1 := h.agr H hH b o hb
        have := (Array.getElem?_eq_some_iff.1 h1).1
        omega
    · exact h.apart H hH z (List.mem_cons_of_mem _ hz)

/-- A call: what it was handed (O) may change, all else (F) stays. -/
theorem Mem.call {E : Ent} {w w' : World} {Hs : List Snap} {H H' : Snap} {O O' F : List Own} (h : Mem E w Hs (O ++ F)) (hH : H ∈ E.H0 :: Hs) (hc : Mem ⟨w, feet O, H⟩ w' [H'] O') : Mem E w' (H' :: Hs) (O' ++ F) := by
  have hf := hc.fr
  have hnew : ∀ b ∈ feet O, E.w0.heap.size ≤ b ∨ b ∈ E.M := by
    intro b hb
    obtain ⟨o, ho, hb⟩ := mem_feet.1 hb
    exact h.new o (List.mem_append_left _ ho) b hb
  have hF : ∀ o ∈ F, ∀ b, o.foot = some b → b < w.heap.size ∧ b ∉ feet O := by
    intro o ho b hb
    refine ⟨Own.lt2 (h.own o (List.mem_append_right _ ho)) hb, fun hm => ?_⟩
    obtain ⟨x, hx, hxb⟩ := mem_feet.1 hm
    exact (List.pairwise_append.1 h.dis).2.2 x hx o ho b hxb hb
  have hfresh : ∀ o ∈ O', ∀ b, o.foot = some b → w.heap.size ≤ b ∨ b ∈ feet O := hc.new
  have hHfoot : ∀ G ∈ E.H0 :: Hs, ∀ b o, G b = some o → b < w.heap.size ∧ b ∉ feet O := by
    intro G hG b o hb
    refine ⟨(Array.getElem?_eq_some_iff.1 (h.agr G hG b o hb)).1, fun hm => ?_⟩
    obtain ⟨x, hx, hxb⟩ := mem_feet.1 hm
    exact h.apart G hG x (List.mem_append_left _ hx) b o hb hxb
  refine ⟨⟨hf.os.trans h.fr.os, hf.tape.trans h.fr.tape, hf.output.trans h.fr.output, Nat.le_trans h.fr.size hf.size, fun k hk hM => ?_⟩, ?_, ?_, ?_, ?_, ?_, ?_⟩
  · refine (hf.block k (by have := h.fr.size; show k < w.heap.size; omega) (fun hm => ?_)).trans (h.fr.block k hk hM)
    rcases hnew k hm with h1 | h1
    · omega
    · exact hM h1
  · intro o ho
    rcases List.mem_append.1 ho with ho | ho
    · exact hc.own o ho
    · exact Own.holds_of2 (h.own o (List.mem_append_right _ ho)) (fun b hb => hf.block b (hF o ho b hb).1 (hF o ho b hb).2)
  · intro o ho b hb
    rcases List.mem_append.1 ho with ho | ho
    · rcases hfresh o ho b hb with h1 | h1
      · exact .inl (Nat.le_trans h.fr.size h1)
      · exact hnew b h1
    · exact h.new o (List.mem_append_right _ ho) b hb
  · refine List.pairwise_append.2 ⟨hc.dis, (List.pairwise_append.1 h.dis).2.1, fun x hx y hy b hxb hyb => ?_⟩
    have h1 := hF y hy b hyb
    rcases hfresh x hx b hxb with h2 | h2
    · omega
    · exact h1.2 h2
  · intro G hG
    have hcase : G = H' ∨ G ∈ E.H0 :: Hs := by
      simp only [List.mem_cons] at hG ⊢
      rcases hG with h1 | h1 | h1
      · exact .inr (.inl h1)
      · exact .inl h1
      · exact .inr (.inr h1)
    rcases hcase with rfl | hG
    · exact hc.agr _ (List.mem_cons_of_mem _ (List.mem_cons_self ..))
    · intro b o hb
      have h1 := hHfoot G hG b o hb
      exact (hf.block b h1.1 h1.2).trans (h.agr G hG b o hb)
  · intro G hG
    have hcase : G = H' ∨ G ∈ E.H0 :: Hs := by
      simp only [List.mem_cons] at hG ⊢
      rcases hG with h1 | h1 | h1
      · exact .inr (.inl h1)
      · exact .inl h1
      · exact .inr (.inr h1)
    rcases hcase with rfl | hG
    · intro b o hb
      rcases hc.dom _ (List.mem_cons_of_mem _ (List.mem_cons_self ..)) b o hb with h1 | h1
      · exact h.dom H hH b o h1
      · exact .inr (Nat.le_trans h.fr.size h1)
    · exact h.dom G hG
  · intro G hG x hx b o hb hxb
    have hcase : G = H' ∨ G ∈ E.H0 :: Hs := by
      simp only [List.mem_cons] at hG ⊢
      rcases hG with h1 | h1 | h1
      · exact .inr (.inl h1)
      · exact .inl h1
      · exact .inr (.inr h1)
    rcases List.mem_append.1 hx with hx | hx
    · rcases hcase with rfl | hG
      · exact hc.apart _ (List.mem_cons_of_mem _ (List.mem_cons_self ..)) x hx b o hb hxb
      · have h1 := hHfoot G hG b o hb
        rcases hfresh x hx b hxb with h2 | h2
        · omega
        · exact h1.2 h2
    · have h1 := hF x hx b hxb
      rcases hcase with rfl | hG
      · rcases hc.dom _ (List.mem_cons_of_mem _ (List.mem_cons_self ..)) b o hb with h2 | h2
        · exact h.apart H hH x (List.mem_append_right _ hx) b o h2 hxb
        · have h3 : w.heap.size ≤ b := h2
          omega
      · exact h.apart G hG x (List.mem_append_right _ hx) b o hb hxb

/-- What is owned goes into a snapshot: nobody writes it any more. -/
def Snap.join (H : Snap) (b : Nat) (o : Obj) : Snap := fun k => if k = b then some o else H k
theorem Mem.freeze {E : Ent} {w : World} {Hs : List Snap} {H : Snap} {O : List Own} {x : Own} {b : Nat} {o : Obj} (h : Mem E w Hs (x :: O)) (hH : H ∈ E.H0 :: Hs) (hx : x.foot = some b) (hb : w.heap[b]? = some o)
    (hnew : b ∉ E.M) : Mem E w (H.join b o :: Hs) O ∧ H.le (H.join b o) := by
  have h0 := h.sub (Hs' := Hs) (O' := O) (fun x hx => List.mem_cons_of_mem _ hx) (List.sublist_cons_self _ _)
  have hcase : ∀ G, G ∈ E.H0 :: H.join b o :: Hs → G = H.join b o ∨ G ∈ E.H0 :: Hs := by
    intro G hG
    simp only [List.mem_cons] at hG ⊢
    rcases hG with h1 | h1 | h1
    · exact .inr (.inl h1)
    · exact .inl h1
    · exact .inr (.inr h1)
  refine ⟨⟨h0.fr, h0.own, h0.new, h0.dis, ?_, ?_, ?_⟩, ?_⟩
  · intro G hG
    rcases hcase G hG with rfl | hG
    · intro k u hk
      unfold Snap.join at hk
      split at hk
      · rename_i e; subst e; rw [hb]; exact hk
      · exact h.agr H hH k u hk
    · exact h0.agr G hG
  · intro G hG
    rcases hcase G hG with rfl | hG
    · intro k u hk
      unfold Snap.join at hk
      split at hk
      · rename_i e; subst e
        rcases h.new x (List.mem_cons_self ..) k hx with h1 | h1
        · exact .inr h1
        · exact absurd h1 hnew
      · exact h.dom H hH k u hk
    · exact h0.dom G hG
  · intro G hG y hy
    rcases hcase G hG with rfl | hG
    · intro k u hk hyk
      unfold Snap.join at hk
      split at hk
      · rename_i e; subst e
        exact (List.pairwise_cons.1 h.dis).1 y hy k hx hyk
      · exact h0.apart H hH y hy k u hk hyk
    · exact h0.apart G hG y hy
  · intro k u hk
    unfold Snap.join
    split
    · rename_i e; subst e
      exact absurd hx (h.apart H hH x (List.mem_cons_self ..) k u hk)
    · exact hk

/-! ### Runs -/
def RunsAt (P : Program) (f : FuncId) (R : Value → World → Prop) (k : List Item) (a : Act) (w : World) : Prop :=
  ∀ b : Frame, b.fn = f → b.kind = .normal → ∀ cs, ∃ v w' fr, R v w' ∧ Steps P (lone (b.at a k) cs w) (lone fr cs w') ∧ fr.fn = f ∧ fr.leaving P w' (.returned v)

def Runs (P : Program) (f : FuncId) (n : Nat) (E : Ent) (R : Value → World → Prop) (k : List Item) (Hs : List Snap) (O : List Own) (l : Env) : Prop :=
  ∀ w, Mem E w Hs O → ∀ a, Sat a n l → RunsAt P f R k a w

/-- The contract of a function: it may read what is in H, and it may write what is in O. -/
def Ctr (P : Program) (f : FuncId) (args : Array Value) (H : Snap) (O : List Own) (post : Snap → List Own → Value → Prop) : Prop :=
  ∀ w, Mem ⟨w, feet O, H⟩ w [H] O → Calls P f args w fun e w' => ∃ v H' O', e = .returned v ∧ post H' O' v ∧ H.le H' ∧ Mem ⟨w, feet O, H⟩ w' [H'] O'

def argEnv : Nat → List Value → Env
  | _, [] => []
  | i, v :: r => (i, v) :: argEnv (i + 1) r

theorem argEnv_find : ∀ (vs : List Value) (i t : Nat) (v : Value), efind (argEnv i vs) t = some v → i ≤ t ∧ vs[t - i]? = some v
  | [], i, t, v, h => by simp [argEnv, efind] at h
  | u :: r, i, t, v, h => by
    simp only [argEnv, efind] at h
    cases hb : Nat.beq i t with
    | true =>
      rw [hb] at h; simp at h
      have := Nat.eq_of_beq_eq_true hb
      subst this; subst h
      simp
    | false =>
      rw [hb] at h
      have h1 := argEnv_find r (i + 1) t v h
      refine ⟨by omega, ?_⟩
      have : t - i = (t - (i + 1)) + 1 := by omega
      rw [this]; simpa using h1.2

theorem Ctr.intro {P : Program} {f : FuncId} {fn : Func} {c : Code} {n : Nat} {vs : List Value} {H : Snap} {O : List Own} {post : Snap → List Own → Value → Prop}
    (hf : P.funcs[f]? = some fn) (hb : fn.body = some c) (hn : fn.ntmps = n) (hle : Nat.ble vs.length n = true)
    (h : ∀ (E : Ent) (R : Value → World → Prop), E.M = feet O → (∀ v w' Hs' H' O', H' ∈ H :: Hs' → H.le H' → post H' O' v → Mem E w' Hs' O' → R v w') → Runs P f n E R [.code c] [H] O (argEnv 0 vs)) :
    Ctr P f vs.toArray H O post := by
  intro w hm cs
  have h1 := h ⟨w, feet O, H⟩ (fun v w' => ∃ H' O', post H' O' v ∧ H.le H' ∧ Mem ⟨w, feet O, H⟩ w' [H'] O') rfl
    (fun v w' Hs' H' O' hin hle hp hm' => ⟨H', O', hp, hle, hm'.sub (by intro x hx; simp at hx; subst hx; exact hin) (List.Sublist.refl _)⟩) w hm
  let b : Frame := { (default : Frame) with fn := f, kind := .normal }
  let a : Act := { tmps := vs.toArray ++ Array.replicate (fn.ntmps - vs.toArray.size) undef, defers := [] }
  have henter : Frame.enter P f vs.toArray .normal = b.at a [.code c] := by simp [Frame.enter, Frame.at, hf, hb, b, a]
  have hle : vs.length ≤ n := by simpa using hle
  have hsat : Sat a n (argEnv 0 vs) := by
    refine ⟨by simp [a, hn]; omega, rfl, fun t v ht => ?_⟩
    have h2 := (argEnv_find vs 0 t v ht).2
    simp only [Nat.sub_zero] at h2
    have h3 : t < vs.length := (List.getElem?_eq_some_iff.1 h2).1
    simp only [a]
    rw [Array.getElem?_append_left (by simpa using h3)]
    simpa using h2
  obtain ⟨v, w', fr, ⟨H', O', hp, hl, hm'⟩, hs, hfn, hlv⟩ := h1 a hsat b rfl rfl cs
  rw [← henter] at hs
  exact ⟨.returned v, w', fr, ⟨v, H', O', rfl, hp, hl, hm'⟩, hs, hfn, hlv⟩
end Go.Proofs.Ytbiohkncdlhigaa

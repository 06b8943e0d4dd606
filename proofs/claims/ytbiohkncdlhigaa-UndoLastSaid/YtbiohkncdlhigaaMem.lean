/-
  Operations that make or write memory, and calls, over slots, snapshots and owned blocks. Conditions: as each lemma names them.
-/
import Derived.Test.YtbiohkncdlhigaaOps
namespace Go.Proofs.Ytbiohkncdlhigaa
open Go Go.RowKit

/-! ### Stores -/
theorem heap_setCell_same {w : World} {b o : Nat} {cs : Array Value} {T : TypeId} {fz : Nat × Nat} (v : Value) (h : w.heap[b]? = some (.cells cs T fz)) : (w.setCell ⟨b, o, none⟩ v).heap[b]? = some (.cells (cs.setIfInBounds o v) T fz) := by
  simp [World.setCell, Array.getElem?_modify, h]

structure OneBlock (w w' : World) (b : Nat) : Prop where
  os : w'.os = w.os
  tape : w'.tape = w.tape
  output : w'.output = w.output
  size : w'.heap.size = w.heap.size
  block : ∀ k, k ≠ b → w'.heap[k]? = w.heap[k]?

theorem run_storeCells {P : Program} {b : Nat} {T : TypeId} : ∀ (vs : List Value) (w : World) (cs cs' : List Value) (off i : Nat), w.heap[b]? = some (.cells cs.toArray T (0, 0)) → putAll cs (off + i) vs = some cs' → (∀ u ∈ vs, one1 u = true) →
    ∃ w', (storeCells ⟨b, off, none⟩ vs i).run P w = .ok () w' ∧ w'.heap[b]? = some (.cells cs'.toArray T (0, 0)) ∧ OneBlock w w' b
  | [], w, cs, cs', off, i, hw, hp, _ => by
    simp only [putAll, Option.some.injEq] at hp
    subst hp
    exact ⟨w, by simp [storeCells], hw, rfl, rfl, rfl, rfl, fun _ _ => rfl⟩
  | v :: r, w, cs, cs', off, i, hw, hp, h1 => by
    simp only [putAll] at hp
    split at hp
    · rename_i cs1 hs
      obtain ⟨hlt, rfl⟩ := setAt_eq _ _ _ _ hs
      have hcell : w.cell? ((⟨b, off, none⟩ : Addr).add i) = some (cs[off + i]) := by
        rw [Addr.add_lit]
        simp [World.cell?, hw, hlt]
      have hfz : w.frozen? ((⟨b, off, none⟩ : Addr).add i) = false := by
        rw [Addr.add_lit]
        simp [World.frozen?, hw]
      have hb := heap_setCell_same (o := off + i) v hw
      rw [List.setIfInBounds_toArray] at hb
      obtain ⟨w', hr, hw', ho⟩ := run_storeCells r (w.setCell ⟨b, off + i, none⟩ v) (cs.set (off + i) v) cs' off (i + 1) hb (by rw [← Nat.add_assoc]; exact hp) (fun u hu => h1 u (List.mem_cons_of_mem _ hu))
      refine ⟨w', ?_, hw', ho.os, ho.tape, ho.output, by rw [ho.size]; simp, fun k hk => (ho.block k hk).trans (Below.heap_setCell w _ v k hk)⟩
      rw [storeCells, Sem.run_bind, run_store P w _ v .plain (one1_eq (h1 v (List.mem_cons_self ..))), hcell]
      simp only [hfz, Bool.false_eq_true, if_false, Result.andThen_ok]
      rw [Addr.add_lit]
      exact hr
    · cases hp

def allOne (vs : List Value) : Bool := vs.all one1
theorem allOne_eq {vs : List Value} (h : allOne vs = true) : ∀ u ∈ vs, one1 u = true := by simpa [allOne] using h

theorem run_storeVar {P : Program} {b o : Nat} {T T' : TypeId} {v : Value} {w : World} {cs cs' : List Value} [s : TSz P T (cellsL v).length] (hw : w.heap[b]? = some (.cells cs.toArray T' (0, 0))) (hp : putAll cs o (cellsL v) = some cs') (h1 : allOne (cellsL v) = true) :
    ∃ w', (storeVar T ⟨b, o, none⟩ v).run P w = .ok () w' ∧ w'.heap[b]? = some (.cells cs'.toArray T' (0, 0)) ∧ OneBlock w w' b := by
  obtain ⟨w', hr, h2, h3⟩ := run_storeCells (P := P) (cellsL v) w cs cs' o 0 hw (by simpa using hp) (allOne_eq h1)
  refine ⟨w', ?_, h2, h3⟩
  simp [storeVar, cellsL_eq, s.h, hr]

class PutBlk (O : List Own) (b : Nat) (T : TypeId) (cs cs' : List Value) (O' : outParam (List Own)) : Prop where
  h : ∃ pre post, O = pre ++ .blk b T cs :: post ∧ O' = pre ++ .blk b T cs' :: post
instance (priority := high) {O : List Own} {b : Nat} {T : TypeId} {cs cs' : List Value} : PutBlk (.blk b T cs :: O) b T cs cs' (.blk b T cs' :: O) := ⟨[], O, rfl, rfl⟩
instance {O O' : List Own} {x : Own} {b : Nat} {T : TypeId} {cs cs' : List Value} [i : PutBlk O b T cs cs' O'] : PutBlk (x :: O) b T cs cs' (x :: O') := ⟨by
  obtain ⟨pre, post, h1, h2⟩ := i.h
  exact ⟨x :: pre, post, by simp [h1], by simp [h2]⟩⟩
class PutRow (O : List Own) (v : Value) (T : TypeId) (sz n : Nat) (xs : List Value) (v' : Value) (n' : Nat) (xs' : List Value) (O' : outParam (List Own)) : Prop where
  h : ∃ pre post, O = pre ++ .row T sz v n xs :: post ∧ O' = pre ++ .row T sz v' n' xs' :: post
instance (priority := high) {O : List Own} {v v' : Value} {T : TypeId} {sz n n' : Nat} {xs xs' : List Value} : PutRow (.row T sz v n xs :: O) v T sz n xs v' n' xs' (.row T sz v' n' xs' :: O) := ⟨[], O, rfl, rfl⟩
instance {O O' : List Own} {x : Own} {v v' : Value} {T : TypeId} {sz n n' : Nat} {xs xs' : List Value} [i : PutRow O v T sz n xs v' n' xs' O'] : PutRow (x :: O) v T sz n xs v' n' xs' (x :: O') := ⟨by
  obtain ⟨pre, post, h1, h2⟩ := i.h
  exact ⟨x :: pre, post, by simp [h1], by simp [h2]⟩⟩
/-- Leave an entry out. -/
class DelRow (O : List Own) (v : Value) (T : outParam TypeId) (sz n : outParam Nat) (xs : outParam (List Value)) (O' : outParam (List Own)) : Prop where
  h : O.Perm (.row T sz v n xs :: O')
instance (priority := high) {O : List Own} {v : Value} {T : TypeId} {sz n : Nat} {xs : List Value} : DelRow (.row T sz v n xs :: O) v T sz n xs O := ⟨List.Perm.refl _⟩
instance {O O' : List Own} {x : Own} {v : Value} {T : TypeId} {sz n : Nat} {xs : List Value} [i : DelRow O v T sz n xs O'] : DelRow (x :: O) v T sz n xs (x :: O') := ⟨(List.Perm.cons x i.h).trans (List.Perm.swap ..)⟩
class DelBlk (O : List Own) (b : Nat) (T : outParam TypeId) (cs : outParam (List Value)) (O' : outParam (List Own)) : Prop where
  h : O.Perm (.blk b T cs :: O')
instance (priority := high) {O : List Own} {b : Nat} {T : TypeId} {cs : List Value} : DelBlk (.blk b T cs :: O) b T cs O := ⟨List.Perm.refl _⟩
instance {O O' : List Own} {x : Own} {b : Nat} {T : TypeId} {cs : List Value} [i : DelBlk O b T cs O'] : DelBlk (x :: O) b T cs (x :: O') := ⟨(List.Perm.cons x i.h).trans (List.Perm.swap ..)⟩

theorem perm_mid {α : Type} (x : α) (pre post : List α) : (pre ++ x :: post).Perm (x :: (pre ++ post)) := List.perm_middle

theorem Mem.changeAt {E : Ent} {w w' : World} {Hs : List Snap} {pre post : List Own} {x y : Own} (h : Mem E w Hs (pre ++ x :: post)) (hos : w'.os = w.os) (htape : w'.tape = w.tape) (hout : w'.output = w.output)
    (hsize : w.heap.size ≤ w'.heap.size) (hk : ∀ k, k < w.heap.size → x.foot ≠ some k → w'.heap[k]? = w.heap[k]?) (hy : y.holds w') (hf : ∀ b, y.foot = some b → x.foot = some b ∨ w.heap.size ≤ b) :
    Mem E w' Hs (pre ++ y :: post) :=
  ((h.perm (perm_mid x pre post)).change hos htape hout hsize hk hy hf).perm (perm_mid y pre post).symm

section
variable {P : Program} {E : Ent} {Hs : List Snap} {O O' : List Own} {l : Env}

theorem HV.of_exec {op : Op} {post : Value → List Snap → List Own → Prop} (h : ∀ o : Oper, o.op = op → ∀ w, Mem E w Hs O → ∀ ρ : Operand → Value, (∀ x u, opv l x = some u → ρ x = u) →
    ∃ v w' Hs' O', post v Hs' O' ∧ Mem E w' Hs' O' ∧ ((execOp ρ o).run P w = .ok (.value v) w' ∨ (v = undef ∧ (execOp ρ o).run P w = .ok .skip w'))) : HV P E Hs O l op post := by
  intro o ho w hm a ha next Q hn
  obtain ⟨v, w', Hs', O', h1, h2, h3⟩ := h o ho w hm a.eval ha
  unfold Oper.wp
  rcases h3 with h3 | ⟨rfl, h3⟩
  · rw [h3]; exact hn v w' Hs' O' h1 h2
  · rw [h3]; exact hn undef w' Hs' O' h1 h2
theorem HV.of_QV {op : Op} {v : Value} (h : QV P E Hs O l op v) : HV P E Hs O l op (fun u Hs' O' => u = v ∧ Hs' = Hs ∧ O' = O) :=
  HV.of_exec fun o ho w hm ρ hρ => ⟨v, w, Hs, O, ⟨rfl, rfl, rfl⟩, hm, .inl (h o ho ρ hρ w hm)⟩

theorem HV.storeB {T T' : TypeId} {x y : Operand} {b o : Nat} {v : Value} {cs cs' : List Value} (hx : opv l x = some (.pointer (some ⟨b, o, none⟩))) (hy : opv l y = some v) [g : GetBlk O b T' cs] (hp : putAll cs o (cellsL v) = some cs') (h1 : allOne (cellsL v) = true) [s : TSz P T (cellsL v).length] [u : PutBlk O b T' cs cs' O'] :
    HV P E Hs O l (.store T x y) (fun _ Hs' O1 => Hs' = Hs ∧ O1 = O') := by
  refine HV.of_exec fun o' ho w hm ρ hρ => ?_
  have hw : w.heap[b]? = some (.cells cs.toArray T' (0, 0)) := hm.own _ g.h
  obtain ⟨w', hr, h2, h3⟩ := run_storeVar (P := P) (T := T) (o := o) hw hp h1
  obtain ⟨pre, post, rfl, rfl⟩ := u.h
  refine ⟨undef, w', Hs, _, ⟨rfl, rfl⟩, hm.changeAt (y := .blk b T' cs') h3.os h3.tape h3.output (by rw [h3.size]; exact Nat.le_refl _) (fun k _ hk => h3.block k (fun e => hk (by rw [e]; rfl))) h2 (fun k hk => .inl hk), .inr ⟨rfl, ?_⟩⟩
  simp [execOp, ho, hρ _ _ hx, hρ _ _ hy, Instr.storeAt, Instr.sureAddr, hr]

theorem putAll_append {α : Type} : ∀ (vs cs cs' tail : List α) (m : Nat), putAll cs m vs = some cs' → putAll (cs ++ tail) m vs = some (cs' ++ tail)
  | [], cs, cs', tail, m, h => by simp only [putAll, Option.some.injEq] at *; rw [h]
  | v :: r, cs, cs', tail, m, h => by
    simp only [putAll] at *
    split at h
    · rename_i cs1 h1
      obtain ⟨hlt, rfl⟩ := setAt_eq _ _ _ _ h1
      have h2 : setAt (cs ++ tail) m v = some (cs.set m v ++ tail) := by
        clear h h1
        induction cs generalizing m with
        | nil => simp at hlt
        | cons c r ih =>
          cases m with
          | zero => simp [setAt]
          | succ m => simp only [List.cons_append, setAt]; rw [ih m (by simpa using hlt)]; simp
      rw [h2]
      exact putAll_append r _ _ tail (m + 1) h
    · cases h
theorem putAll_length {α : Type} : ∀ (vs cs cs' : List α) (m : Nat), putAll cs m vs = some cs' → cs'.length = cs.length
  | [], cs, cs', m, h => by simp only [putAll, Option.some.injEq] at h; rw [h]
  | v :: r, cs, cs', m, h => by
    simp only [putAll] at h
    split at h
    · rename_i cs1 h1
      obtain ⟨hlt, rfl⟩ := setAt_eq _ _ _ _ h1
      rw [putAll_length r _ _ _ h]; simp
    · cases h

theorem HV.storeR {T T' : TypeId} {x y : Operand} {v u : Value} {m sz n : Nat} {xs xs' : List Value} (hx : opv l x = some (.pointer (some (vat v m)))) (hy : opv l y = some u) [g : GetRow O v T' sz n xs] (hp : putAll xs m (cellsL u) = some xs') (hne : (cellsL u).isEmpty = false) (h1 : allOne (cellsL u) = true) [s : TSz P T (cellsL u).length] [q : PutRow O v T' sz n xs v n xs' O'] :
    HV P E Hs O l (.store T x y) (fun _ Hs' O1 => Hs' = Hs ∧ O1 = O') := by
  refine HV.of_exec fun o' ho w hm ρ hρ => ?_
  have hown : w.ownsRow 0 T' sz v n xs := hm.own _ g.h
  obtain ⟨pre, post, rfl, rfl⟩ := q.h
  have hxs : 0 < xs.length := by
    cases hu : cellsL u with
    | nil => rw [hu] at hne; cases hne
    | cons c r =>
      rw [hu] at hp
      simp only [putAll] at hp
      split at hp
      · rename_i cs1 h2; have := (setAt_eq _ _ _ _ h2).1; omega
      · cases hp
  rcases hown.2 with ⟨rfl, h0⟩ | ⟨b, cap, cur, rfl, _, hh, hnc, hcap, hcs, htake⟩
  · have := hown.1; subst h0; simp at this; subst this; simp at hxs
  · have hcur : cur.toList = xs ++ cur.toList.drop (n * sz) := by rw [← htake]; exact (List.take_append_drop _ _).symm
    have hw : w.heap[b]? = some (.cells cur.toList.toArray T' (0, 0)) := by simpa using hh
    have hp2 : putAll cur.toList m (cellsL u) = some (xs' ++ cur.toList.drop (n * sz)) := by
      have h9 := putAll_append _ _ _ (cur.toList.drop (n * sz)) _ hp
      rw [← hcur] at h9; exact h9
    obtain ⟨w', hr, h2, h3⟩ := run_storeVar (P := P) (T := T) (o := m) hw hp2 h1
    have hlen : xs'.length = xs.length := putAll_length _ _ _ _ hp
    have hy' : Own.holds w' (.row T' sz (.slice (some ⟨b, 0, none⟩) n cap) n xs') := by
      refine ⟨by rw [hlen, hown.1], .inr ⟨b, cap, _, rfl, Nat.zero_le _, h2, hnc, hcap, ?_, ?_⟩⟩
      · have h8 := congrArg List.length hcur
        simp only [List.length_append] at h8
        simp only [List.size_toArray, List.length_append, hlen]
        rw [← h8]; simpa using hcs
      · simp only
        rw [List.take_append_of_le_length (by rw [hlen, hown.1]; exact Nat.le_refl _), List.take_of_length_le (by rw [hlen, hown.1]; exact Nat.le_refl _)]
    refine ⟨undef, w', Hs, _, ⟨rfl, rfl⟩, hm.changeAt (y := .row T' sz (.slice (some ⟨b, 0, none⟩) n cap) n xs') h3.os h3.tape h3.output (by rw [h3.size]; exact Nat.le_refl _) (fun k _ hk => h3.block k (fun e => hk (by rw [e]; rfl))) hy' (fun k hk => .inl hk), .inr ⟨rfl, ?_⟩⟩
    have hvat : vat (.slice (some ⟨b, 0, none⟩) n cap) m = ⟨b, m, none⟩ := by simp [vat]
    rw [hvat] at hx
    simp [execOp, ho, hρ _ _ hx, hρ _ _ hy, Instr.storeAt, Instr.sureAddr, hr]

theorem HV.box {T : TypeId} {x : Operand} {u : Value} (hx : opv l x = some u) : HV P E Hs O l (.box T x) (fun v Hs' O1 => Hs' = Hs ∧ ∃ b, v = .pointer (some ⟨b, 0, none⟩) ∧ O1 = .blk b T (cellsL u) :: O) := by
  refine HV.of_exec fun o' ho w hm ρ hρ => ⟨.pointer (some ⟨w.heap.size, 0, none⟩), w.alloc (.cells (cellsL u).toArray T), Hs, _, ⟨rfl, _, rfl, rfl⟩, hm.alloc _ _, .inl ?_⟩
  simp [execOp, ho, hρ _ _ hx, Instr.box, newVar, newRow, cellsL_eq]
theorem HV.alloc {T : TypeId} {z : Value} [i : TZero P T z] : HV P E Hs O l (.alloc T) (fun v Hs' O1 => Hs' = Hs ∧ ∃ b, v = .pointer (some ⟨b, 0, none⟩) ∧ O1 = .blk b T (cellsL z) :: O) := by
  refine HV.of_exec fun o' ho w hm ρ hρ => ⟨.pointer (some ⟨w.heap.size, 0, none⟩), w.alloc (.cells (cellsL z).toArray T), Hs, _, ⟨rfl, _, rfl, rfl⟩, hm.alloc _ _, .inl ?_⟩
  simp [execOp, ho, Instr.alloc, i.h, newVar, newRow, cellsL_eq]
end

end Go.Proofs.Ytbiohkncdlhigaa

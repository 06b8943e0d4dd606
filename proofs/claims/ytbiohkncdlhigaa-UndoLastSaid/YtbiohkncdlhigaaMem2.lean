/-
  Building structs and slices, append, make, calls, slice expressions, what becomes a snapshot. Conditions: as each lemma names them.
-/
import Derived.Test.YtbiohkncdlhigaaMem
namespace Go.Proofs.Ytbiohkncdlhigaa
open Go Go.RowKit

/-! ### Parts -/
def opvs (l : Env) : List (Nat × Operand) → Option (List (Nat × Value))
  | [] => some []
  | (i, x) :: r => match opv l x with
    | some v => match opvs l r with
      | some vs => some ((i, v) :: vs)
      | none => none
    | none => none
theorem opvs_eq {l : Env} {ρ : Operand → Value} (hρ : ∀ x u, opv l x = some u → ρ x = u) : ∀ (L : List (Nat × Operand)) (vs : List (Nat × Value)), opvs l L = some vs → L.map (fun (i, x) => (i, ρ x)) = vs
  | [], vs, h => by simp only [opvs, Option.some.injEq] at h; subst h; rfl
  | (i, x) :: r, vs, h => by
    simp only [opvs] at h
    split at h
    · rename_i v hv
      split at h
      · rename_i vs' hvs
        simp only [Option.some.injEq] at h
        subst h
        simp [hρ x v hv, opvs_eq hρ r vs' hvs]
      · cases h
    · cases h
def opvL (l : Env) : List Operand → Option (List Value)
  | [] => some []
  | x :: r => match opv l x with
    | some v => match opvL l r with
      | some vs => some (v :: vs)
      | none => none
    | none => none
theorem opvL_eq {l : Env} {ρ : Operand → Value} (hρ : ∀ x u, opv l x = some u → ρ x = u) : ∀ (L : List Operand) (vs : List Value), opvL l L = some vs → L.map ρ = vs
  | [], vs, h => by simp only [opvL, Option.some.injEq] at h; subst h; rfl
  | x :: r, vs, h => by
    simp only [opvL] at h
    split at h
    · rename_i v hv
      split at h
      · rename_i vs' hvs
        simp only [Option.some.injEq] at h
        subst h
        simp [hρ x v hv, opvL_eq hρ r vs' hvs]
      · cases h
    · cases h

def nth {α : Type} : List α → Nat → Option α
  | [], _ => none
  | x :: _, 0 => some x
  | _ :: r, i + 1 => nth r i
theorem nth_eq {α : Type} : ∀ (L : List α) (i : Nat), nth L i = L[i]?
  | [], i => by simp [nth]
  | x :: r, 0 => by simp [nth]
  | x :: r, i + 1 => by simp only [nth]; rw [nth_eq r i]; simp

def fillL (place : Nat → Option (Nat × Nat)) : List Value → List (Nat × Value) → Option (List Value)
  | cs, [] => some cs
  | cs, (i, v) :: r => match place i with
    | some (off, sz) => match Nat.beq (cellsL v).length sz && Nat.ble (off + sz) cs.length with
      | true => match putAll cs off (cellsL v) with
        | some cs' => fillL place cs' r
        | none => none
      | false => none
    | none => none

theorem foldl_putAll : ∀ (vs cs cs' : List Value) (off k : Nat), putAll cs (off + k) vs = some cs' →
    (vs.zipIdx k).foldl (fun (a : Array Value) (p : Value × Nat) => a.setIfInBounds (off + p.2) p.1) cs.toArray = cs'.toArray
  | [], cs, cs', off, k, h => by simp only [putAll, Option.some.injEq] at h; subst h; simp
  | v :: r, cs, cs', off, k, h => by
    simp only [putAll] at h
    split at h
    · rename_i cs1 h1
      obtain ⟨hlt, rfl⟩ := setAt_eq _ _ _ _ h1
      simp only [List.zipIdx_cons, List.foldl_cons]
      rw [List.setIfInBounds_toArray]
      exact foldl_putAll r _ cs' off (k + 1) (by rw [← Nat.add_assoc]; exact h)
    · cases h

theorem fill_eq (place : Nat → Option (Nat × Nat)) : ∀ (vs : List (Nat × Value)) (cs cs' : List Value), fillL place cs vs = some cs' → Instr.fill place cs.toArray vs = some cs'.toArray
  | [], cs, cs', h => by simp only [fillL, Option.some.injEq] at h; subst h; rfl
  | (i, v) :: r, cs, cs', h => by
    simp only [fillL] at h
    split at h
    · rename_i off sz hp
      split at h
      · rename_i hc
        split at h
        · rename_i cs1 h1
          rw [Bool.and_eq_true] at hc
          have h2 := Nat.eq_of_beq_eq_true hc.1
          have h3 := Nat.le_of_ble_eq_true hc.2
          have h4 := foldl_putAll (cellsL v) cs cs1 off 0 (by simpa using h1)
          have h5 := fill_eq place r cs1 cs' h
          simp only [Instr.fill, hp, cellsL_eq]
          rw [if_neg (by simp [h2]; omega)]
          rw [← Array.foldl_toList, Array.toList_zipIdx]
          rw [h4]; exact h5
        · cases h
      · cases h
    · cases h

def repL {α : Type} : Nat → List α → List α
  | 0, _ => []
  | n + 1, z => z ++ repL n z
theorem repL_length {α : Type} (z : List α) : ∀ n, (repL n z).length = n * z.length
  | 0 => by simp [repL]
  | n + 1 => by simp only [repL, List.length_append]; rw [repL_length z n, Nat.succ_mul]; omega
theorem repL_at {α : Type} (z : List α) (hz : 0 < z.length) : ∀ n i, i < n * z.length → (repL n z)[i]? = z[i % z.length]?
  | 0, i, h => by simp at h
  | n + 1, i, h => by
    simp only [repL]
    by_cases hi : i < z.length
    · rw [List.getElem?_append_left hi, Nat.mod_eq_of_lt hi]
    · rw [List.getElem?_append_right (by omega), repL_at z hz n (i - z.length) (by rw [Nat.succ_mul] at h; omega)]
      congr 1
      exact (Nat.mod_eq_sub_mod (by omega)).symm
theorem range_rep (z : List Value) (n : Nat) : (Array.range (n * z.length)).map (fun i => z.toArray[i % z.length]!) = (repL n z).toArray := by
  apply Array.ext_getElem?
  intro i
  by_cases hz : 0 < z.length
  · by_cases hi : i < n * z.length
    · have h1 : i % z.length < z.length := Nat.mod_lt _ hz
      simp only [Array.getElem?_map, List.getElem?_toArray, repL_at z hz n i hi]
      rw [Array.getElem?_eq_getElem (by simpa using hi)]
      simp [h1]
    · rw [Array.getElem?_eq_none (by simp; omega), Array.getElem?_eq_none (by simp [repL_length]; omega)]
  · have : z = [] := List.eq_nil_of_length_eq_zero (by omega)
    subst this
    simp
    rw [repL_length]; simp

section
variable {P : Program} {E : Ent} {Hs : List Snap} {O O' : List Own} {l : Env}

theorem QF.build {T : TypeId} {L : List (Nat × Operand)} {vs : List (Nat × Value)} {pl : List (Nat × Nat)} {z : Value} {cs : List Value} [i : TPl P T pl] [j : TZero P T z] (hx : opvs l L = some vs) (hf : fillL (nth pl) (cellsL z) vs = some cs) :
    QF P l (.build T L.toArray) (.agg cs.toArray) := by
  intro o ho ρ hρ w
  obtain ⟨fs, h1, h2⟩ := i.h
  have h3 := fill_eq (nth pl) vs _ _ hf
  have h4 : (nth pl) = (fun k => pl.toArray[k]?) := by funext k; rw [nth_eq]; simp
  rw [h4] at h3
  have h5 := opvs_eq hρ L vs hx
  simp only [execOp, ho, Instr.build, Sem.run_bind, j.h, Result.andThen_ok, run_underlying h1, h2, List.map_toArray, h5, cellsL_eq]
  rw [h3]
  simp

/-- '[]T{..}' -/
theorem HV.buildSlice {T e : TypeId} {len s : Nat} {L : List (Nat × Operand)} {vs : List (Nat × Value)} {z : Value} {cs : List Value} [t : TDesc P T (.slice e)] [z1 : TSz P e s] [j : TZero P e z] (hx : opvs l L = some vs)
    (hs : Nat.beq (cellsL z).length s = true) (hl : Nat.ble (len * s) 16777216 = true) (hl2 : Nat.ble len 16777216 = true) (hf : fillL (fun i => some (i * s, s)) (repL len (cellsL z)) vs = some cs) :
    HV P E Hs O l (.buildSlice T len L.toArray) (fun v Hs' O1 => Hs' = Hs ∧ O1 = .row e s v len cs :: O ∧ IsSl v len) := by
  refine HV.of_exec fun o' ho w hm ρ hρ => ?_
  have hs' := Nat.eq_of_beq_eq_true hs
  subst hs'
  have hl' := Nat.le_of_ble_eq_true hl
  have hl2' := Nat.le_of_ble_eq_true hl2
  have h5 := opvs_eq hρ L vs hx
  have hlen : cs.length = len * (cellsL z).length := by
    have : ∀ (vs : List (Nat × Value)) (a b : List Value), fillL (fun i => some (i * (cellsL z).length, (cellsL z).length)) a vs = some b → b.length = a.length := by
      intro vs
      induction vs with
      | nil => intro a b h; simp only [fillL, Option.some.injEq] at h; rw [h]
      | cons p r ih =>
        intro a b h
        obtain ⟨i, v⟩ := p
        simp only [fillL] at h
        split at h
        · split at h
          · rename_i a1 h1; rw [ih a1 b h, putAll_length _ _ _ _ h1]
          · cases h
        · cases h
    rw [this vs _ _ hf, repL_length]
  refine ⟨.slice (some ⟨w.heap.size, 0, none⟩) len len, w.alloc (.cells cs.toArray e), Hs, _, ⟨rfl, rfl, _, len, rfl, Nat.le_refl _, by simp [maxLen]; omega, fun _ => ⟨_, _, rfl⟩⟩, ?_, .inl ?_⟩
  · have h1 := hm.alloc cs e
    refine h1.change (x := .blk w.heap.size e cs) (y := .row e (cellsL z).length (.slice (some ⟨w.heap.size, 0, none⟩) len len) len cs) rfl rfl rfl (Nat.le_refl _) (fun _ _ _ => rfl) ?_ (fun b hb => .inl ?_)
    · refine ⟨hlen, .inr ⟨_, len, _, rfl, Nat.zero_le _, heap_alloc_new w _, Nat.le_refl _, by simp [maxLen]; omega, by simpa using hlen, ?_⟩⟩
      simp only
      rw [List.take_of_length_le (by omega)]
    · simpa [Own.foot, Value.ownBlock] using hb
  · have h3 := fill_eq _ vs _ _ hf
    by_cases h0 : len * (cellsL z).length = 0
    · have h6 : repL len (cellsL z) = [] := List.eq_nil_of_length_eq_zero (by rw [repL_length, h0])
      rw [h6] at h3
      simp only [execOp, ho, Instr.buildSlice, Sem.run_bind, run_underlying t.h, Result.andThen_ok, z1.h, h0, List.map_toArray, h5]
      rw [if_neg (by omega)]
      simp only [if_true, Sem.run_pure, Sem.run_bind, Result.andThen_ok, Array.range_zero', Array.map_empty, h3]
      simp [newRow]
    · simp only [execOp, ho, Instr.buildSlice, Sem.run_bind, run_underlying t.h, Result.andThen_ok, z1.h, h0, List.map_toArray, h5, if_false]
      rw [if_neg (by omega)]
      have h7 := range_rep (cellsL z) len
      simp only [Sem.run_bind, j.h, Sem.run_pure, Result.andThen_ok, cellsL_eq, List.size_toArray]
      rw [h7, h3]
      simp [newRow]

/-- 'make([]T, n)' -/
theorem HV.make {T e : TypeId} {x : Operand} {k : IntKind} {n : Nat} {i : Int} {z : Value} {s bytes : Nat} [t : TDesc P T (.slice e)] [j : TInfo P e z s bytes] (hx : opv l x = some (.int k i)) (hi : i = (n : Int)) (hs : Nat.beq (cellsL z).length (s) = true) (h0 : s ≠ 0)
    (hb : (n : Int) * bytes ≤ 281474976710656) (hn : n ≤ 281474976710656) :
    HV P E Hs O l (.makeSlice T x x) (fun v Hs' O1 => Hs' = Hs ∧ O1 = .row e s v n (repL n (cellsL z)) :: O ∧ IsSl v n) := by
  refine HV.of_exec fun o' ho w hm ρ hρ => ?_
  subst hi
  have hs' := Nat.eq_of_beq_eq_true hs
  subst hs'
  obtain ⟨ti, g1, g2, g3, g4⟩ := j.h
  refine ⟨.slice (some ⟨w.heap.size, 0, none⟩) n n, w.alloc (.cells (repL n (cellsL z)).toArray e), Hs, _, ⟨rfl, rfl, _, n, rfl, Nat.le_refl _, by simp [maxLen]; omega, fun _ => ⟨_, _, rfl⟩⟩, ?_, .inl ?_⟩
  · have h1 := hm.alloc (repL n (cellsL z)) e
    refine h1.change (x := .blk w.heap.size e (repL n (cellsL z))) (y := .row e (cellsL z).length (.slice (some ⟨w.heap.size, 0, none⟩) n n) n (repL n (cellsL z))) rfl rfl rfl (Nat.le_refl _) (fun _ _ _ => rfl) ?_ (fun b hb => .inl ?_)
    · refine ⟨repL_length _ _, .inr ⟨_, n, _, rfl, Nat.zero_le _, heap_alloc_new w _, Nat.le_refl _, by simp [maxLen]; omega, by simpa using repL_length _ _, ?_⟩⟩
      simp only
      rw [List.take_of_length_le (by rw [repL_length]; exact Nat.le_refl _)]
    · simpa [Own.foot, Value.ownBlock] using hb
  · have hw : IntKind.i64.wrap (n : Int) = n := wrap_i64 ⟨by omega, by omega⟩
    have h7 := range_rep (cellsL z) n
    have hti : ∀ w, (typeInfo e).run P w = .ok ti w := fun w => by simp [typeInfo, g1]
    have hsz : ∀ w, (sizeOf e).run P w = .ok ti.size w := fun w => by simp [sizeOf, hti]
    have hz : ∀ w, (zeroValue e).run P w = .ok z w := fun w => by simp [zeroValue, hti, g2]
    have hb' : ¬ ((ti.bytes : Int) * (n : Int) > 2 ^ 48) := by rw [g4, Int.mul_comm]; omega
    have hneg : ¬ ((n : Int) < 0) := by omega
    have hc : ((decide ((n : Int) < 0) || decide ((ti.bytes : Int) * (n : Int) > 2 ^ 48)) || decide ((n : Int) < 0) || decide ((n : Int) > (n : Int))) = false := by
      simp only [Bool.or_eq_false_iff, decide_eq_false_iff_not]
      exact ⟨⟨⟨hneg, hb'⟩, hneg⟩, by omega⟩
    simp only [execOp, ho, Instr.makeSlice, Sem.run_bind, run_underlying t.h, Result.andThen_ok, hρ _ _ hx, asInt, asIntOf, Sem.run_pure, hti, hw]
    rw [hc]
    simp only [Bool.false_eq_true, if_false, Sem.run_bind, run_askRoom, Result.andThen_ok, hsz, Int.toNat_natCast, g3]
    by_cases h9 : n * (cellsL z).length = 0
    · have h10 : n = 0 := by
        rcases Nat.mul_eq_zero.1 h9 with h | h
        · exact h
        · exact absurd h h0
      subst h10
      simp only [Nat.zero_mul, if_true, Sem.run_pure, Sem.run_bind, Result.andThen_ok, Array.range_zero', Array.map_empty]
      simp [repL, newRow]
    · simp only [h9, if_false, Sem.run_bind, hz, Result.andThen_ok, Sem.run_pure, cellsL_eq, List.size_toArray]
      rw [h7]
      simp [newRow]

/-! ### append -/
theorem HV.append {T e : TypeId} {x y : Operand} {v vy z : Value} {sz bytes n m : Nat} {xs ds : List Value} [t : TDesc P T (.slice e)] [j : TInfo P e z sz bytes] (hx : opv l x = some v) (hy : opv l y = some vy) [g : GetRow O v e sz n xs] (hs : IsSl vy m) (hd : ds.length = m * sz)
    (hc : ∀ w, Mem E w Hs O → ∀ k u, ds[k]? = some u → w.cell? (vat vy k) = some u) (h1 : ∀ u ∈ ds, one1 u = true) (hz : Nat.beq (cellsL z).length sz = true) (h0 : sz ≠ 0) (hb : (n + m) * bytes ≤ 140737488355328) (hb2 : n + m ≤ 140737488355328)
    {O1 : Value → List Own} (q : ∀ v', PutRow O v e sz n xs v' (n + m) (xs ++ ds) (O1 v')) :
    HV P E Hs O l (.call ⟨.builtin .append, #[x, y], #[T, T]⟩) (fun v' Hs' O2 => Hs' = Hs ∧ O2 = O1 v' ∧ IsSl v' (n + m)) := by
  refine HV.of_exec fun o' ho w hm ρ hρ => ?_
  have hown : w.ownsRow 0 e sz v n xs := hm.own _ g.h
  obtain ⟨ti, g1, g2, g3, g4⟩ := j.h
  obtain ⟨A, cap, rfl, hlc, hcm, hA⟩ := hs
  have key : ∃ v' w', (Builtin.append_ #[T, T] o'.type #[v, .slice A m cap]).run P w = .ok v' w' ∧ w'.ownsRow 0 e sz v' (n + m) (xs ++ ds) ∧ w.grownBy w' v.ownBlock ∧ (v'.ownBlock = v.ownBlock ∨ v'.ownBlock = some w.heap.size) := by
    cases A with
    | none =>
      have hm0 : m = 0 := by
        rcases Nat.eq_zero_or_pos m with h | h
        · exact h
        · obtain ⟨b, off, h2⟩ := hA h; cases h2
      subst hm0
      have hds : ds = [] := List.eq_nil_of_length_eq_zero (by simpa using hd)
      subst hds
      refine ⟨v, w, ?_, by simpa using hown, World.grownBy.refl w _, .inl rfl⟩
      rcases hown.2 with ⟨rfl, rfl⟩ | ⟨b, cap', cur, rfl, _, _, hnc, _⟩
      · simp [Builtin.append_, run_underlying t.h, sizeOf, typeInfo, g1, Builtin.lenOf, Builtin.firstCells]
      · simp [Builtin.append_, run_underlying t.h, sizeOf, typeInfo, g1, Builtin.lenOf, Builtin.firstCells, hnc, storeCells]
    | some ad =>
      have hsp : m ≠ 0 → ad.spot = none := fun hm0 => by
        obtain ⟨b, off, h2⟩ := hA (by omega)
        injection h2 with h2; subst h2; rfl
      have hcells : ∀ k u, ds[k]? = some u → w.cell? (ad.add k) = some u := by
        intro k u hu
        by_cases hm0 : m = 0
        · subst hm0
          have hds : ds = [] := List.eq_nil_of_length_eq_zero (by simpa using hd)
          subst hds; simp at hu
        · have h2 := hc w hm k u hu
          have h3 := hsp hm0
          obtain ⟨b, off, sp⟩ := ad
          simp only at h3
          subst h3
          rw [Addr.add_lit]
          exact h2
      obtain ⟨v', w', hr, h2, h3, _, h4⟩ := run_append_own_at (P := P) w 0 T o'.type e ti z sz bytes t.h g1 g2 g3 g4 (by rw [cellsL_eq]; simpa using Nat.eq_of_beq_eq_true hz) (by omega) v n xs hown ad m cap ds hd hcells (fun u hu => one1_eq (h1 u hu)) (by simp only [maxLen]; omega) hb (Nat.zero_le _)
      exact ⟨v', w', hr, h2, h3, h4⟩
  obtain ⟨v', w', hr, h2, h3, h4⟩ := key
  obtain ⟨pre, post, rfl, qe⟩ := (q v').h
  refine ⟨v', w', Hs, _, ⟨rfl, rfl, row_isSl h2⟩, qe ▸ hm.changeAt (y := .row e sz v' (n + m) (xs ++ ds)) h3.os h3.tape h3.output h3.size (fun k hk hne => h3.block k hk (fun e => hne e.symm)) h2 (fun b hb => ?_), .inl ?_⟩
  · simp only [Own.foot] at hb ⊢
    rcases h4 with h4 | h4
    · exact .inl (h4 ▸ hb)
    · rw [h4] at hb; injection hb with hb; exact .inr (by omega)
  · simp [execOp, ho, resolve, invoke, builtin, hρ _ _ hx, hρ _ _ hy, hr]

/-! ### Calls -/
class TCall (P : Program) (g : FuncId) : Prop where
  h : ∀ args w, (callFunc g args).run P w = .ok (.enter g args) w

theorem HV.callF {fx : Operand} {L : List Operand} {ts : Array TypeId} {g : FuncId} {cap : List Value} {vals : List Value} {H : Snap} {O1 F : List Own} {post : Snap → List Own → Value → Prop} (hf : opv l fx = some (.func (.func g) #[] cap.toArray)) (ha : opvL l L = some vals) [c : TCall P g]
    (hc : Ctr P g (vals ++ cap).toArray H O1 post) [hH : InH Hs H] (hO : O.Perm (O1 ++ F)) :
    HV P E Hs O l (.call ⟨.value fx, L.toArray, ts⟩) (fun v Hs' O' => ∃ H' O2, post H' O2 v ∧ H.le H' ∧ Hs' = H' :: Hs ∧ O' = O2 ++ F) := by
  intro o ho w hm a hρ next Q hn
  have hm2 := hm.perm hO
  have hst : Mem ⟨w, feet O1, H⟩ w [H] O1 := Mem.start rfl (hm.agr H (List.mem_cons_of_mem _ hH.h)) (fun o ho => hm2.own o (List.mem_append_left _ ho)) ((List.pairwise_append.1 hm2.dis).1)
    (fun x hx => hm2.apart H (List.mem_cons_of_mem _ hH.h) x (List.mem_append_left _ hx))
  have hcall := hc w hst
  unfold Oper.wp
  have h5 := opvL_eq hρ L vals ha
  have hex : (execOp a.eval o).run P w = .ok (.enter g (vals ++ cap).toArray) w := by
    simp [execOp, ho, resolve, hρ _ _ hf, Deferred.ofValue, invoke, h5, c.h]
  rw [hex]
  refine hcall.mono ?_
  rintro e w' ⟨v, H', O2, rfl, hp, hle, hm'⟩
  exact hn v w' _ _ ⟨H', O2, hp, hle, rfl, rfl⟩ (hm2.call (List.mem_cons_of_mem _ hH.h) hm')

/-- The call of a function by its name that writes nothing of ours. -/
theorem HV.call {L : List Operand} {ts : Array TypeId} {g : FuncId} {vals : List Value} {H : Snap} {post : Snap → List Own → Value → Prop} (ha : opvL l L = some vals) [c : TCall P g]
    (hc : Ctr P g vals.toArray H [] post) [hH : InH Hs H] :
    HV P E Hs O l (.call ⟨.value (.func g), L.toArray, ts⟩) (fun v Hs' O' => ∃ H' O2, post H' O2 v ∧ H.le H' ∧ Hs' = H' :: Hs ∧ O' = O2 ++ O) :=
  HV.callF (cap := []) (O1 := []) (F := O) rfl ha (by simpa using hc) (List.Perm.refl _)

/-! ### Slice expressions -/
/-- The value of 'v[lo:hi:mx]', elements of s cells. -/
def slv (v : Value) (s lo hi mx : Nat) : Value :=
  match v with
  | .slice A _ _ => .slice (if mx = lo then A else A.map (·.add (lo * s))) (hi - lo) (mx - lo)
  | v => v
def capOf : Value → Nat
  | .slice _ _ c => c
  | _ => 0
theorem vat_slv {v : Value} {len s lo hi mx k : Nat} (h : IsSl v len) (hlo : lo ≤ hi) (hk : k < (hi - lo) * s) (hhi : hi ≤ mx) (h0 : 0 < len) : vat (slv v s lo hi mx) k = vat v (lo * s + k) := by
  obtain ⟨A, cap, rfl, h1, h2, h3⟩ := h
  obtain ⟨b, off, rfl⟩ := h3 h0
  have hne : mx ≠ lo := by
    intro e
    have : hi - lo = 0 := by omega
    rw [this] at hk; simp at hk
  simp only [slv, if_neg hne, Option.map_some]
  rw [Addr.add_lit]
  simp [vat, Nat.add_assoc]
theorem isSl_slv {v : Value} {len s lo hi mx : Nat} (h : IsSl v len) (hlo : lo ≤ hi) (hhi : hi ≤ mx) (hmx : mx ≤ capOf v) (h0 : hi ≤ len) : IsSl (slv v s lo hi mx) (hi - lo) := by
  obtain ⟨A, cap, rfl, h1, h2, h3⟩ := h
  refine ⟨_, mx - lo, rfl, by omega, by simp only [capOf] at hmx; omega, fun hp => ?_⟩
  obtain ⟨b, off, rfl⟩ := h3 (by omega)
  rw [if_neg (by omega)]
  exact ⟨b, off + lo * s, by rw [Option.map_some, Addr.add_lit]⟩
theorem CellsRep.take_drop {α : Type} {H : Snap} {L : Lay α} : ∀ {xs : List α} {cs : List Value} (lo n : Nat), CellsRep H L xs cs → CellsRep H L ((xs.drop lo).take n) ((cs.drop (lo * L.sz)).take (n * L.sz))
  | [], cs, lo, n, h => by simp only [CellsRep] at h; subst h; simp [CellsRep]
  | x :: xs, cs, lo + 1, n, ⟨c, r, h1, h2, h3⟩ => by
    subst h1
    have h4 := L.len h2
    have : (c ++ r).drop ((lo + 1) * L.sz) = r.drop (lo * L.sz) := by
      rw [Nat.succ_mul, Nat.add_comm, ← List.drop_drop, ← h4, List.drop_left]
    rw [this]
    exact CellsRep.take_drop lo n h3
  | x :: xs, cs, 0, 0, h => by simp [CellsRep]
  | x :: xs, cs, 0, n + 1, ⟨c, r, h1, h2, h3⟩ => by
    subst h1
    have h4 := L.len h2
    have h5 := CellsRep.take_drop 0 n h3
    simp only [Nat.zero_mul, List.drop_zero] at h5 ⊢
    refine ⟨c, r.take (n * L.sz), ?_, h2, h5⟩
    rw [Nat.succ_mul, Nat.add_comm, ← h4, List.take_append]
    simp
    exact List.take_of_length_le (Nat.le_add_right _ _)
theorem SliceRep.slv {α : Type} {H : Snap} {L : Lay α} {v : Value} {xs : List α} {lo hi mx s : Nat} (h : SliceRep H L v xs) (hs : L.sz = s) (hlo : lo ≤ hi) (hhi : hi ≤ xs.length) (hmx : hi ≤ mx) (hc : mx ≤ capOf v) : SliceRep H L (slv v s lo hi mx) ((xs.drop lo).take (hi - lo)) := by
  subst hs
  obtain ⟨h1, cs, h2, h3⟩ := h
  have hlen : ((xs.drop lo).take (hi - lo)).length = hi - lo := by simp; omega
  refine ⟨by rw [hlen]; exact isSl_slv h1 hlo hmx hc hhi, _, h2.take_drop lo (hi - lo), fun j u hu => ?_⟩
  have hj : j < (hi - lo) * L.sz := by
    have := (List.getElem?_eq_some_iff.1 hu).1
    simp at this; omega
  rw [List.getElem?_take_of_lt hj, List.getElem?_drop] at hu
  rw [vat_slv h1 hlo hj hmx (by
    rcases Nat.eq_zero_or_pos xs.length with h0 | h0
    · have : hi - lo = 0 := by omega
      rw [this] at hj; simp at hj
    · exact h0)]
  exact h3 _ u hu

theorem run_sliceBound {w : World} {k : IntKind} {i : Int} {j y : Nat} {c : BoundsCode} (hi : i = (j : Int)) (hj : j ≤ y) : (Instr.sliceBound (.int k i) y c).run P w = .ok j w := by
  subst hi
  have h1 : (0 : Int) ≤ (j : Int) ∧ (j : Int) ≤ (y : Int) := by omega
  simp [Instr.sliceBound, asIntOf, hj]

theorem QF.slice3 {T e : TypeId} {x hx mx : Operand} {v : Value} {k k' : IntKind} {hi m len s : Nat} {i i' : Int} (h1 : opv l x = some v) (h2 : opv l hx = some (.int k i)) (h3 : opv l mx = some (.int k' i')) (hs : IsSl v len) (hi1 : i = (hi : Int)) (hm1 : i' = (m : Int)) (hle : hi ≤ m) (hcap : m ≤ capOf v)
    [t : TDesc P T (.slice e)] [z : TSz P e s] : QF P l (.slice T x none (some hx) (some mx)) (slv v s 0 hi m) := by
  intro o ho ρ hρ w
  obtain ⟨A, cap, rfl, g1, g2, g3⟩ := hs
  simp only [capOf] at hcap
  simp only [execOp, ho, Option.map_some, Option.map_none, hρ _ _ h1, hρ _ _ h2, hρ _ _ h3, Instr.sliceAt, Sem.run_bind, run_underlying t.h, Result.andThen_ok, Instr.slice, Instr.sliceBounds, run_sliceBound hm1 hcap, run_sliceBound hi1 hle, Sem.run_pure, z.h, slv]
theorem QF.sliceHi {T e : TypeId} {x hx : Operand} {v : Value} {k : IntKind} {hi len s : Nat} {i : Int} (h1 : opv l x = some v) (h2 : opv l hx = some (.int k i)) (hs : IsSl v len) (hi1 : i = (hi : Int)) (hle : hi ≤ len)
    [t : TDesc P T (.slice e)] [z : TSz P e s] : QF P l (.slice T x none (some hx) none) (slv v s 0 hi (capOf v)) := by
  intro o ho ρ hρ w
  obtain ⟨A, cap, rfl, g1, g2, g3⟩ := hs
  have hcap : hi ≤ cap := by omega
  simp only [execOp, ho, Option.map_some, Option.map_none, hρ _ _ h1, hρ _ _ h2, Instr.sliceAt, Sem.run_bind, run_underlying t.h, Result.andThen_ok, Instr.slice, Instr.sliceBounds, run_sliceBound hi1 hcap, Sem.run_pure, z.h, slv, capOf]
  rfl
theorem QF.sliceLo {T e : TypeId} {x lx : Operand} {v : Value} {k : IntKind} {lo len s : Nat} {i : Int} (h1 : opv l x = some v) (h2 : opv l lx = some (.int k i)) (hs : IsSl v len) (hi1 : i = (lo : Int)) (hle : lo ≤ len)
    [t : TDesc P T (.slice e)] [z : TSz P e s] : QF P l (.slice T x (some lx) none none) (slv v s lo len (capOf v)) := by
  intro o ho ρ hρ w
  obtain ⟨A, cap, rfl, g1, g2, g3⟩ := hs
  simp only [execOp, ho, Option.map_some, Option.map_none, hρ _ _ h1, hρ _ _ h2, Instr.sliceAt, Sem.run_bind, run_underlying t.h, Result.andThen_ok, Instr.slice, Instr.sliceBounds, run_sliceBound hi1 hle, Sem.run_pure, z.h, slv, capOf, Option.isSome_none, Bool.false_eq_true, if_false]
  rfl
theorem QF.sliceLH {T e : TypeId} {x lx hx : Operand} {v : Value} {k k' : IntKind} {lo hi len s : Nat} {i i' : Int} (h1 : opv l x = some v) (h2 : opv l lx = some (.int k i)) (h3 : opv l hx = some (.int k' i')) (hs : IsSl v len) (hl1 : i = (lo : Int)) (hi1 : i' = (hi : Int)) (hle : lo ≤ hi) (hle2 : hi ≤ len)
    [t : TDesc P T (.slice e)] [z : TSz P e s] : QF P l (.slice T x (some lx) (some hx) none) (slv v s lo hi (capOf v)) := by
  intro o ho ρ hρ w
  obtain ⟨A, cap, rfl, g1, g2, g3⟩ := hs
  have hcap : hi ≤ cap := by omega
  simp only [execOp, ho, Option.map_some, Option.map_none, hρ _ _ h1, hρ _ _ h2, hρ _ _ h3, Instr.sliceAt, Sem.run_bind, run_underlying t.h, Result.andThen_ok, Instr.slice, Instr.sliceBounds, run_sliceBound hi1 hcap, run_sliceBound hl1 hle, Sem.run_pure, z.h, slv, capOf, Option.isSome_none, Bool.false_eq_true, if_false]
  rfl
theorem SliceRep.capOf_le {α : Type} {H : Snap} {L : Lay α} {v : Value} {xs : List α} (h : SliceRep H L v xs) : xs.length ≤ capOf v := by
  obtain ⟨⟨A, cap, rfl, h1, _⟩, _⟩ := h
  exact h1
end
end Go.Proofs.Ytbiohkncdlhigaa

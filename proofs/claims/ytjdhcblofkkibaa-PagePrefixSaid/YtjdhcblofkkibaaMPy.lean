/-
  The law ProofMatchesReference. Conditions: the arguments' form.
  More words for the walks (appending in a drawn region what lies in a snapshot, appending a part of a row to its own beginning); a page with one change; the contract of spoilt: it makes some page. Conditions: as each lemma names them; for spoilt a page of at most 1000 candidates with numbers of at most 1000000000000000.
-/
import Derived.Test.YtjdhcblofkkibaaMPu
import Derived.Test.YtjdhcblofkkibaaMTop
namespace Go.Proofs.Ytjdhcblofkkibaa
open Go Go.RowKit

theorem encL_cells : ∀ {gl : List Lnk} {k j : Nat} {x : Lnk} {u : Value}, gl[k]? = some x → [Value.int .i64 x.f, .int .i64 x.t, .int .i64 x.lab, .int .i64 x.c][j]? = some u → (encL gl)[k * 4 + j]? = some u
  | [], k, j, x, u, h, _ => by simp at h
  | y :: r, 0, j, x, u, h, hu => by
    simp at h; subst h
    have hj : j < 4 := (List.getElem?_eq_some_iff.1 hu).1
    rw [encL, List.flatMap_cons, Nat.zero_mul, Nat.zero_add, List.getElem?_append_left (by simpa using hj)]
    exact hu
  | y :: r, k + 1, j, x, u, h, hu => by
    rw [encL, List.flatMap_cons, List.getElem?_append_right (by simp; omega)]
    have e : (k + 1) * 4 + j - [Value.int .i64 y.f, .int .i64 y.t, .int .i64 y.lab, .int .i64 y.c].length = k * 4 + j := by simp; omega
    rw [e]
    exact encL_cells (gl := r) (by simpa using h) hu
theorem encL_len : ∀ r : List Lnk, (encL r).length = r.length * 4
  | [] => rfl
  | x :: r => by have := encL_len r; simp only [encL, List.flatMap_cons, List.length_append, List.length_cons, List.length_nil] at *; omega
theorem encL_put : ∀ {gl : List Lnk} {k j : Nat} {x x' : Lnk} {u : Value}, gl[k]? = some x → [Value.int .i64 x'.f, .int .i64 x'.t, .int .i64 x'.lab, .int .i64 x'.c] = [Value.int .i64 x.f, .int .i64 x.t, .int .i64 x.lab, .int .i64 x.c].set j u → j < 4 → setAt (encL gl) (k * 4 + j) u = some (encL (gl.set k x'))
  | [], k, j, x, x', u, h, _, _ => by simp at h
  | y :: r, 0, j, x, x', u, h, hu, hj => by
    simp at h; subst h
    rw [setAt_set _ _ _ (by simp [encL]; omega)]
    simp only [encL, List.flatMap_cons, List.set_cons_zero, Nat.zero_mul, Nat.zero_add]
    rw [hu, List.set_append_left _ _ (by simpa using hj)]
  | y :: r, k + 1, j, x, x', u, h, hu, hj => by
    have ih := encL_put (gl := r) (k := k) (x := x) (by simpa using h) hu hj
    have hk := (List.getElem?_eq_some_iff.1 h).1
    have hlen : (encL r).length = r.length * 4 := encL_len r
    have hb : k * 4 + j < (encL r).length := by rw [hlen]; simp at hk; omega
    rw [setAt_set _ _ _ hb] at ih
    simp only [Option.some.injEq] at ih
    rw [setAt_set _ _ _ (by simp only [encL, List.flatMap_cons] at *; simp; simp at hb; omega)]
    simp only [encL, List.flatMap_cons, List.set_cons_succ] at ih ⊢
    rw [List.set_append_right _ _ (by simp; omega)]
    have e : (k + 1) * 4 + j - [Value.int .i64 y.f, .int .i64 y.t, .int .i64 y.lab, .int .i64 y.c].length = k * 4 + j := by simp; omega
    rw [e, ih]

def GraphL : Lay (Int × List Lnk) where
  sz := 2
  rep H x c := ∃ v, c = [.int .i64 x.1, v] ∧ SliceRep H LinkL v x.2
  mono := by rintro H H' x c hle ⟨v, h1, h2⟩; exact ⟨v, h1, h2.mono hle⟩
  len := by rintro H x c ⟨v, rfl, _⟩; rfl
  one := by
    rintro H x c ⟨v, rfl, ⟨⟨A, cap, rfl, _⟩, _⟩⟩ u hu
    simp at hu
    rcases hu with rfl | rfl <;> rfl
theorem SliceRep.graph {H : Snap} {v : Value} {xs : List (Int × List Lnk)} (h : SliceRep H GraphL v xs) {k : Nat} {x : Int × List Lnk} (hx : xs[k]? = some x) :
    ∃ vl, SliceRep H LinkL vl x.2 ∧ ∀ j u, [.int .i64 x.1, vl][j]? = some u → H.cell (vat v (k * 2 + j)) = some u := by
  obtain ⟨c, ⟨vl, rfl, h1⟩, h2⟩ := h.at hx
  exact ⟨vl, h1, h2⟩

theorem right_pot (N : Int) (gl : List Lnk) : decide (rightP N gl (potL N gl)) = decide (potE N gl = 0) := by
  rw [decide_eq_decide]
  unfold rightP potL potE
  by_cases hg : validG N gl
  · simp [hg]
  · simp [hg]
def oddL (gl : List Lnk) (w0 w1 w2 : Int) : List Lnk :=
  match gl[(w0 % 256 % (gl.length : Int)).toNat]? with
  | some x => gl.set (w0 % 256 % (gl.length : Int)).toNat ⟨x.f, x.t + w1, x.lab, x.c + w2⟩
  | none => gl

end Go.Proofs.Ytjdhcblofkkibaa
namespace Go.Proofs.Ytjdhcblofkkibaa
open Go Go.RowKit

section
variable {P : Program} {f : FuncId} {n : Nat} {E : Ent} {R : Value → World → Prop} {k : List Item} {Hs : List Snap} {O : List Own} {l : Env}
variable {L : List Oper} {d : Nat} {ty : TypeId} {pos : String} {aft : Array Edge} {os : List Oper} {g : Option (Nat × Bool)}
variable {Hs0 : List Snap} {O0 : List Own} {lt : List Nat} {st : Bool} {fuel : Nat} {listed : Array Bool}
theorem DW.appendH (i : Nat) {α : Type} {A : Lay α} {H : Snap} {ys : List α} {T e : TypeId} {x y : Operand} {v vy z : Value} {sz bytes a : Nat} {xs : List Value} (hi : opAt L i = some ⟨some d, .call ⟨.builtin .append, #[x, y], #[T, T]⟩, ty, pos, aft, g⟩) (hrd : (Region.ready .any L.toArray listed == [i]) = true) [t : TDesc P T (.slice e)] [j : TInfo P e z sz bytes] (hx : opv l x = some v) (hy : opv l y = some vy) [q1 : GetRow O v e sz a xs] (hr : SliceRep H A vy ys) [iH : InH Hs H] (hsz : A.sz = sz)
    (hz : Nat.beq (cellsL z).length sz = true) (h0 : sz ≠ 0) (hb : (a + ys.length) * bytes ≤ 140737488355328) (hb2 : a + ys.length ≤ 140737488355328)
    {O1 : List Value → Value → List Own} (q : ∀ ds v', PutRow O v e sz a xs v' (a + ys.length) (xs ++ ds) (O1 ds v')) (hg : guardIs L l g = some true) (hd : Nat.blt d n = true) (hsub : ∀ ds v', SubO O0 (O1 ds v')) (hsubH : SubH Hs0 Hs)
    (h : ∀ ds v', CellsRep H A ys ds → IsSl v' (a + ys.length) → DW P f n E R L Hs0 O0 lt true fuel (listed.setIfInBounds i true) k Hs (O1 ds v') ((d, v') :: l)) : DW P f n E R L Hs0 O0 lt true (fuel + 1) listed k Hs O l := by
  obtain ⟨hs, ds, hc, hcell⟩ := hr
  refine DW.h i true hi hrd (HV.append hx hy hs (by rw [hc.length, hsz]) (fun w hm k u hu => hm.cellH (hcell k u hu)) hc.one1 hz h0 hb hb2 (q ds)) hg hd (by simp) ?_
  rintro v' Hs' O' ⟨rfl, rfl, h2⟩
  exact ⟨fun _ w hm => hm.sub (fun x hx => List.mem_cons_of_mem _ (hsubH.h x hx)) (hsub ds v').h, h ds v' hc h2⟩

/-- A part of a row is appended to its own beginning. -/
theorem HV.appendSelf {T e : TypeId} {x y : Operand} {v z : Value} {sz bytes n i lo : Nat} {xs : List Value} [t : TDesc P T (.slice e)] [j : TInfo P e z sz bytes] (hx : opv l x = some (slv v sz 0 i (capOf v))) (hy : opv l y = some (slv v sz lo n (capOf v))) [g : GetRow O v e sz n xs]
    (h0n : 0 < n) (hin : i ≤ n) (hlo : lo ≤ n) (h1 : ∀ u ∈ xs, one1 u = true) (hz : Nat.beq (cellsL z).length sz = true) (h0 : sz ≠ 0) (hb : (i + (n - lo)) * bytes ≤ 140737488355328) (hb2 : i + (n - lo) ≤ 140737488355328)
    {O1 : Value → List Own} (q : ∀ v', PutRow O v e sz n xs v' (i + (n - lo)) (xs.take (i * sz) ++ xs.drop (lo * sz)) (O1 v')) :
    HV P E Hs O l (.call ⟨.builtin .append, #[x, y], #[T, T]⟩) (fun v' Hs' O2 => Hs' = Hs ∧ O2 = O1 v' ∧ IsSl v' (i + (n - lo))) := by
  refine HV.of_exec fun o' ho w hm ρ hρ => ?_
  have hown : w.ownsRow 0 e sz v n xs := hm.own _ g.h
  have hsh := own_shrink hown hin h0n
  have hvs := row_isSl hown
  have hcells0 : ∀ k u, xs[k]? = some u → w.cell? (vat v k) = some u := fun k u hu => row_cell hown hu
  have hxl : xs.length = n * sz := hown.1
  obtain ⟨ti, g1, g2, g3, g4⟩ := j.h
  have hsy : IsSl (slv v sz lo n (capOf v)) (n - lo) := by
    obtain ⟨A, cap, rfl, h2, h3, h4⟩ := hvs
    exact isSl_slv ⟨A, cap, rfl, h2, h3, h4⟩ hlo h2 (Nat.le_refl _) (Nat.le_refl _)
  have hcy : ∀ k u, (xs.drop (lo * sz))[k]? = some u → w.cell? (vat (slv v sz lo n (capOf v)) k) = some u := by
    intro k u hu
    have hk : k < (xs.drop (lo * sz)).length := (List.getElem?_eq_some_iff.1 hu).1
    rw [List.length_drop, hxl, ← Nat.sub_mul] at hk
    have hcap : n ≤ capOf v := by obtain ⟨A, cap, rfl, h2, _⟩ := hvs; exact h2
    rw [vat_slv hvs hlo hk hcap h0n]
    rw [List.getElem?_drop] at hu
    exact hcells0 _ u hu
  obtain ⟨A, cap, hve, hlc, hcm, hA⟩ := hsy
  have key : ∃ v' w', (Builtin.append_ #[T, T] o'.type #[slv v sz 0 i (capOf v), slv v sz lo n (capOf v)]).run P w = .ok v' w' ∧ w'.ownsRow 0 e sz v' (i + (n - lo)) (xs.take (i * sz) ++ xs.drop (lo * sz)) ∧ w.grownBy w' v.ownBlock ∧ (v'.ownBlock = v.ownBlock ∨ v'.ownBlock = some w.heap.size) := by
    rw [hve] at hcy ⊢
    have hdl : (xs.drop (lo * sz)).length = (n - lo) * sz := by rw [List.length_drop, hxl, ← Nat.sub_mul]
    cases A with
    | none =>
      have hm0 : n - lo = 0 := by
        rcases Nat.eq_zero_or_pos (n - lo) with h | h
        · exact h
        · obtain ⟨b, off, h2⟩ := hA h; cases h2
      rw [hm0] at hdl ⊢
      have hds : xs.drop (lo * sz) = [] := List.eq_nil_of_length_eq_zero (by simpa using hdl)
      rw [hds, List.append_nil, Nat.add_zero]
      refine ⟨slv v sz 0 i (capOf v), w, ?_, hsh.1, World.grownBy.refl w _, .inl hsh.2⟩
      rcases hsh.1.2 with ⟨h5, rfl⟩ | ⟨b, cap', cur, h5, _, _, hnc, _⟩
      · rw [h5]; simp [Builtin.append_, run_underlying t.h, sizeOf, typeInfo, g1, Builtin.lenOf, Builtin.firstCells]
      · rw [h5]; simp [Builtin.append_, run_underlying t.h, sizeOf, typeInfo, g1, Builtin.lenOf, Builtin.firstCells, hnc, storeCells]
    | some ad =>
      have hsp : n - lo ≠ 0 → ad.spot = none := fun hm0 => by
        obtain ⟨b, off, h2⟩ := hA (by omega)
        injection h2 with h2; subst h2; rfl
      have hcells : ∀ k u, (xs.drop (lo * sz))[k]? = some u → w.cell? (ad.add k) = some u := by
        intro k u hu
        by_cases hm0 : n - lo = 0
        · rw [hm0] at hdl
          have hds : xs.drop (lo * sz) = [] := List.eq_nil_of_length_eq_zero (by simpa using hdl)
          rw [hds] at hu; simp at hu
        · have h2 := hcy k u hu
          have h3 := hsp hm0
          obtain ⟨b, off, sp⟩ := ad
          simp only at h3
          subst h3
          rw [Addr.add_lit]
          exact h2
      obtain ⟨v', w', hr, h2, h3, _, h4⟩ := run_append_own_at (P := P) w 0 T o'.type e ti z sz bytes t.h g1 g2 g3 g4 (by rw [cellsL_eq]; simpa using Nat.eq_of_beq_eq_true hz) (by omega) (slv v sz 0 i (capOf v)) i (xs.take (i * sz)) hsh.1 ad (n - lo) cap (xs.drop (lo * sz)) hdl hcells (fun u hu => one1_eq (h1 u (List.mem_of_mem_drop hu))) (by simp only [maxLen]; omega) hb (Nat.zero_le _)
      exact ⟨v', w', hr, h2, hsh.2 ▸ h3, hsh.2 ▸ h4⟩
  obtain ⟨v', w', hr, h2, h3, h4⟩ := key
  obtain ⟨pre, post, rfl, qe⟩ := (q v').h
  refine ⟨v', w', Hs, _, ⟨rfl, rfl, row_isSl h2⟩, qe ▸ hm.changeAt (y := .row e sz v' (i + (n - lo)) (xs.take (i * sz) ++ xs.drop (lo * sz))) h3.os h3.tape h3.output h3.size (fun k hk hne => h3.block k hk (fun e => hne e.symm)) h2 (fun b hb => ?_), .inl ?_⟩
  · simp only [Own.foot] at hb ⊢
    rcases h4 with h4 | h4
    · exact .inl (h4 ▸ hb)
    · rw [h4] at hb; injection hb with hb; exact .inr (by omega)
  · simp [execOp, ho, resolve, invoke, builtin, hρ _ _ hx, hρ _ _ hy, hr]
end
end Go.Proofs.Ytjdhcblofkkibaa
namespace Go.Proofs.Ytjdhcblofkkibaa
open Go Go.RowKit

/-- A candidate as it lies in memory: the slice of its links, its cost, its links. -/
abbrev Qd := Value × Int × List Int
def cellsQ (qs : List Qd) : List Value := qs.flatMap fun q => [q.1, .int .i64 q.2.1]
def rowsQ (qs : List Qd) : List Own := qs.map fun q => Own.row 3 1 q.1 q.2.2.length (encI q.2.2)
def toC (q : Qd) : Cand := ⟨q.2.2, q.2.1⟩
def okQ (m : Nat) (B : Int) (q : Qd) : Prop := q.2.2.length ≤ m ∧ -B ≤ q.2.1 ∧ q.2.1 ≤ B ∧ ∀ i ∈ q.2.2, -B ≤ i ∧ i ≤ B
def okP (m : Nat) (B : Int) (L : List Cand) : Prop := L.length ≤ m ∧ ∀ x ∈ L, x.links.length ≤ m ∧ -B ≤ x.cost ∧ x.cost ≤ B ∧ ∀ i ∈ x.links, -B ≤ i ∧ i ≤ B
theorem okP_of {m : Nat} {B : Int} {qs : List Qd} (hl : qs.length ≤ m) (h : ∀ q ∈ qs, okQ m B q) : okP m B (qs.map toC) :=
  ⟨by simpa using hl, fun x hx => by obtain ⟨q, hq, rfl⟩ := List.mem_map.1 hx; exact h q hq⟩
theorem okQ_mono {m m' : Nat} {B B' : Int} {q : Qd} (h : okQ m B q) (hm : m ≤ m') (hB : B ≤ B') : okQ m' B' q :=
  ⟨Nat.le_trans h.1 hm, by have := h.2.1; omega, by have := h.2.2.1; omega, fun i hi => by have := h.2.2.2 i hi; omega⟩
theorem cellsQ_len : ∀ qs : List Qd, (cellsQ qs).length = qs.length * 2
  | [] => rfl
  | q :: qs => by have := cellsQ_len qs; simp only [cellsQ, List.flatMap_cons, List.length_append, List.length_cons, List.length_nil] at *; omega
theorem cellsQ_snoc (qs : List Qd) (q : Qd) : cellsQ (qs ++ [q]) = cellsQ qs ++ [q.1, .int .i64 q.2.1] := by simp [cellsQ]
theorem cellsQ_split {qs : List Qd} {i : Nat} {q : Qd} (h : qs[i]? = some q) : cellsQ qs = cellsQ (qs.take i) ++ [q.1, .int .i64 q.2.1] ++ cellsQ (qs.drop (i + 1)) := by
  conv => lhs; rw [split_at h]
  simp [cellsQ]
theorem cellsQ_at {qs : List Qd} {i j : Nat} {q : Qd} {u : Value} (h : qs[i]? = some q) (hu : [q.1, .int .i64 q.2.1][j]? = some u) : (cellsQ qs)[i * 2 + j]? = some u := by
  have hi := (List.getElem?_eq_some_iff.1 h).1
  have hj : j < 2 := (List.getElem?_eq_some_iff.1 hu).1
  have hl : (cellsQ (qs.take i)).length = i * 2 := by rw [cellsQ_len, List.length_take]; omega
  rw [cellsQ_split h, List.append_assoc, List.getElem?_append_right (by omega), hl, Nat.add_sub_cancel_left, List.getElem?_append_left (by simpa using hj)]
  exact hu
theorem cellsQ_put {qs : List Qd} {i j : Nat} {q q' : Qd} {u : Value} (h : qs[i]? = some q) (hu : [q'.1, .int .i64 q'.2.1] = [q.1, .int .i64 q.2.1].set j u) (hj : j < 2) : setAt (cellsQ qs) (i * 2 + j) u = some (cellsQ (qs.set i q')) := by
  have hi := (List.getElem?_eq_some_iff.1 h).1
  have hl : (cellsQ (qs.take i)).length = i * 2 := by rw [cellsQ_len, List.length_take]; omega
  rw [setAt_set _ _ _ (by rw [cellsQ_len]; omega)]
  have h2 : (qs.set i q')[i]? = some q' := by simp [hi]
  rw [cellsQ_split h, cellsQ_split h2, hu]
  have e1 : (qs.set i q').take i = qs.take i := by rw [List.take_set_of_le (Nat.le_refl _)]
  have e2 : (qs.set i q').drop (i + 1) = qs.drop (i + 1) := by rw [List.drop_set_of_lt (by omega)]
  rw [e1, e2, List.append_assoc, List.append_assoc, List.set_append_right _ _ (by omega), hl, Nat.add_sub_cancel_left, List.set_append_left _ _ (by simpa using hj)]
theorem cellsQ_put2 {qs : List Qd} {i : Nat} {q' : Qd} (hi : i < qs.length) : putAll (cellsQ qs) (i * 2) [q'.1, .int .i64 q'.2.1] = some (cellsQ (qs.set i q')) := by
  have h : qs[i]? = some qs[i] := List.getElem?_eq_getElem hi
  have hl : (cellsQ (qs.take i)).length = i * 2 := by rw [cellsQ_len, List.length_take]; omega
  have h2 : (qs.set i q')[i]? = some q' := by simp [hi]
  rw [cellsQ_split h, cellsQ_split h2]
  have e1 : (qs.set i q').take i = qs.take i := by rw [List.take_set_of_le (Nat.le_refl _)]
  have e2 : (qs.set i q').drop (i + 1) = qs.drop (i + 1) := by rw [List.drop_set_of_lt (by omega)]
  rw [e1, e2, ← hl]
  exact putAll_mid _ _ _ _ rfl
theorem cellsQ_take (qs : List Qd) (i : Nat) (hi : i ≤ qs.length) : (cellsQ qs).take (i * 2) = cellsQ (qs.take i) := by
  conv => lhs; rw [← List.take_append_drop i qs]
  have hl : (cellsQ (qs.take i)).length = i * 2 := by rw [cellsQ_len, List.length_take]; omega
  simp only [cellsQ, List.flatMap_append] at *
  rw [← hl, List.take_left]
theorem cellsQ_drop (qs : List Qd) (i : Nat) (hi : i ≤ qs.length) : (cellsQ qs).drop (i * 2) = cellsQ (qs.drop i) := by
  conv => lhs; rw [← List.take_append_drop i qs]
  have hl : (cellsQ (qs.take i)).length = i * 2 := by rw [cellsQ_len, List.length_take]; omega
  simp only [cellsQ, List.flatMap_append] at *
  rw [← hl, List.drop_left]
theorem cellsQ_append (a b : List Qd) : cellsQ (a ++ b) = cellsQ a ++ cellsQ b := by simp [cellsQ]
theorem cellsQ_one {qs : List Qd} (h : ∀ q ∈ qs, one1 q.1 = true) : ∀ u ∈ cellsQ qs, one1 u = true := by
  intro u hu
  obtain ⟨q, hq, hu⟩ := List.mem_flatMap.1 hu
  simp at hu
  rcases hu with rfl | rfl
  · exact h q hq
  · rfl
theorem cellsQ_rep {H : Snap} : ∀ {qs : List Qd}, (∀ q ∈ qs, SliceRep H I64 q.1 q.2.2) → CellsRep H CandL (qs.map toC) (cellsQ qs)
  | [], _ => rfl
  | q :: qs, h => ⟨_, _, by simp only [cellsQ, List.flatMap_cons]; rfl, ⟨_, rfl, h q (List.mem_cons_self ..)⟩, cellsQ_rep fun p hp => h p (List.mem_cons_of_mem _ hp)⟩
theorem rowsQ_at : ∀ {qs : List Qd} {i : Nat} {q : Qd}, qs[i]? = some q → (rowsQ qs).Perm (.row 3 1 q.1 q.2.2.length (encI q.2.2) :: rowsQ (qs.eraseIdx i))
  | [], _, _, h => by simp at h
  | p :: qs, 0, q, h => by simp at h; subst h; exact List.Perm.refl _
  | p :: qs, i + 1, q, h => by
    rw [List.eraseIdx_cons_succ]
    exact (List.Perm.cons _ (rowsQ_at (qs := qs) (by simpa using h))).trans (List.Perm.swap ..)
theorem rowsQ_set {qs : List Qd} {i : Nat} {q : Qd} (h : i < qs.length) : (rowsQ (qs.set i q)).Perm (.row 3 1 q.1 q.2.2.length (encI q.2.2) :: rowsQ (qs.eraseIdx i)) := by
  have := rowsQ_at (qs := qs.set i q) (i := i) (q := q) (by simp [h])
  rwa [List.eraseIdx_set_eq] at this
theorem Mem.freezeQ {E : Ent} {w : World} (hM : E.M = []) : ∀ (qs : List Qd) (Hs : List Snap) (H : Snap) (O : List Own), H ∈ Hs → Mem E w Hs (rowsQ qs ++ O) →
    ∃ H', H.le H' ∧ Mem E w (H' :: Hs) O ∧ ∀ q ∈ qs, SliceRep H' I64 q.1 q.2.2
  | [], Hs, H, O, hH, hm => ⟨H, Snap.le.refl H, hm.sub (by
      intro x hx
      rcases List.mem_cons.1 hx with rfl | hx
      · exact List.mem_cons_of_mem _ hH
      · exact List.mem_cons_of_mem _ hx) (List.Sublist.refl _), by simp⟩
  | q :: qs, Hs, H, O, hH, hm => by
    have i : InH Hs H := ⟨hH⟩
    obtain ⟨H1, h1, h2, h3, h4⟩ := Mem.freezeRow (H := H) (v := q.1) (O := .row 3 1 q.1 q.2.2.length (encI q.2.2) :: (rowsQ qs ++ O)) hM hm
    obtain ⟨H2, h5, h6, h7⟩ := Mem.freezeQ hM qs (H1 :: Hs) H1 O (List.mem_cons_self ..) h4
    refine ⟨H2, h1.trans h5, h6.sub ?_ (List.Sublist.refl _), fun p hp => ?_⟩
    · intro y hy
      rcases List.mem_cons.1 hy with rfl | hy
      · exact List.mem_cons_of_mem _ (List.mem_cons_self ..)
      · exact List.mem_cons_of_mem _ (List.mem_cons_of_mem _ (List.mem_cons_of_mem _ hy))
    · rcases List.mem_cons.1 hp with rfl | hp
      · exact (SliceRep.of_row h2 rfl (ints_rep H1 p.2.2) (Snap.le.refl _) h3).mono h5
      · exact h7 p hp
theorem Runs.freezeQ {P : Program} {f : FuncId} {n : Nat} {E : Ent} {R : Value → World → Prop} {k : List Item} {Hs : List Snap} {O : List Own} {l : Env} {H : Snap} (qs : List Qd) [i : InH Hs H] (hM : E.M = [])
    (h : ∀ H', H.le H' → (∀ q ∈ qs, SliceRep H' I64 q.1 q.2.2) → Runs P f n E R k (H' :: Hs) O l) : Runs P f n E R k Hs (O ++ rowsQ qs) l := by
  intro w hm
  obtain ⟨H', h1, h2, h3⟩ := (hm.perm List.perm_append_comm).freezeQ hM qs Hs H O i.h
  exact h H' h1 h3 w h2
theorem RW.freezeQ {P : Program} {f : FuncId} {n : Nat} {E : Ent} {R : Value → World → Prop} {ops : Array Oper} {os : List Oper} {k : List Item} {Hs : List Snap} {O : List Own} {l : Env} {H : Snap} (qs : List Qd) [i : InH Hs H] (hM : E.M = [])
    (h : ∀ H', H.le H' → (∀ q ∈ qs, SliceRep H' I64 q.1 q.2.2) → RW P f n E R ops os k (H' :: Hs) O l) : RW P f n E R ops os k Hs (O ++ rowsQ qs) l := by
  intro w hm
  obtain ⟨H', h1, h2, h3⟩ := (hm.perm List.perm_append_comm).freezeQ hM qs Hs H O i.h
  exact h H' h1 h3 w h2
end Go.Proofs.Ytjdhcblofkkibaa
namespace Go.Proofs.Ytjdhcblofkkibaa
open Go Go.RowKit

theorem cellsQ_same {qs : List Qd} {i : Nat} {q q' : Qd} (h : qs[i]? = some q) (h1 : q'.1 = q.1) (h2 : q'.2.1 = q.2.1) : cellsQ (qs.set i q') = cellsQ qs := by
  have hi := (List.getElem?_eq_some_iff.1 h).1
  have h3 : (qs.set i q')[i]? = some q' := by simp [hi]
  rw [cellsQ_split h, cellsQ_split h3, h1, h2, List.take_set_of_le (Nat.le_refl _), List.drop_set_of_lt (by omega)]
theorem encI_put {l : List Int} {i : Nat} {y : Int} (h : i < l.length) : setAt (encI l) (i * 1) (.int .i64 y) = some (encI (l.set i y)) := by
  rw [Nat.mul_one, setAt_set _ _ _ (by simpa [encI] using h)]
  simp [encI, List.map_set]
theorem encI_get {l : List Int} {i : Nat} {y : Int} (h : l[i]? = some y) : (encI l)[i * 1]? = some (.int .i64 y) := by simp [encI, h]
theorem mem_set {α : Type} {l : List α} {i : Nat} {a b : α} (h : b ∈ l.set i a) : b ∈ l ∨ b = a := List.mem_or_eq_of_mem_set h

end Go.Proofs.Ytjdhcblofkkibaa

/-
  More words for the walks (appending in a drawn region what lies in a snapshot, appending a part of a row to its own beginning); a page with one change; the contract of spoilt: it makes some page. Conditions: as each lemma names them; for spoilt a page of at most 1000 candidates with numbers of at most 1000000000000000.
-/
import Derived.Test.YthlolpckgffebaaPn
namespace Go.Proofs.Ythlolpckgffebaa
open Go Go.RowKit

section
variable {P : Program} {f : FuncId} {n : Nat} {E : Ent} {R : Value → World → Prop} {k : List Item} {Hs : List Snap} {O : List Own} {l : Env}
variable {L : List Oper} {d : Nat} {ty : TypeId} {pos : String} {aft : Array Edge} {os : List Oper} {g : Option (Nat × Bool)}
variable {Hs0 : List Snap} {O0 : List Own} {lt : List Nat} {st : Bool} {fuel : Nat} {listed : Array Bool}
theorem DW.appendH (i : Nat) {α : Type} {A : Lay α} {H : Snap} {ys : List α} {T e : TypeId} {x y : Operand} {v vy z : Value} {sz bytes a : Nat} {xs : List Value} (hi : opAt L i = some ⟨some d, .call ⟨.builtin .append, #[x, y], #[T, T]⟩, ty, pos, aft, g⟩) (hrd : (Region.ready .any L.toArray listed == [i]) = true) [t : TDesc P T (.slice e)] [j : TInfo P e z sz bytes] (hx : opv l x = some v) (hy : opv l y = some vy) [q1 : GetRow O v e sz a xs] (hr : SliceRep H A vy ys) [iH : InH Hs H] (hsz : A.sz = sz)
    (hz : Nat.beq (cellsL z).length sz = true) (h0 : sz ≠ 0) (hb : (a + ys.length) * bytes ≤ 140737488355328) (hb2 : a + ys.length ≤ 140737488355328)
    {O1 : List Value → Value → List Own} (q : ∀ ds v', PutRow O v e sz a xs v' (a + ys.length) (xs ++ ds) (O1 ds v')) (hg : guardIs L l g = some true) (hd : Nat.blt d n = true) (hsub : ∀ ds v', SubO O0 (O1 ds v')) (hsubH : SubH Hs0 Hs)
    (h : ∀ ds v', CellsRep H A ys ds → IsSl v' (a + ys.length) → DW P f n E R L Hs0 O0 lt true fuel (listed.setIfInBounds i true) k Hs (O1 ds v') ((d, v') :: l)) : DW P f n E R L Hs0 O0 lt true (fuel + 1) listed k Hs O l := by
  obtain ⟨hs, ds, hc, hcell⟩ := hr
  refine DW.h i true hi hrd (HV.append hx hy hs (by rw [hc.length, hsz]) (fun w hm k u hu => hm.cellH (hcell k u hu)) hc.one1 hz h0 hb hb2 (q ds)) hg hd (by simp) ?_
  rintro v' Hs' O' ⟨rfl, rfl, h2⟩
  exact ⟨fun _ w hm => hm.sub (fun x hx => List.mem_cons_of_mem _ (hsubH.h x hx)) (hsub ds v').h, h ds v' hc h2⟩

/-- A part of a row is appended to its own beginning. -/
theorem HV.appendSelf {T e : TypeId} {x y : Operand} {v z : Value} {sz bytes n i lo : Nat} {xs : List Value} [t : TDesc P T (.slice e)] [j : TInfo P e z sz bytes] (hx : opv l x = some (slv v sz 0 i (capOf v))) (hy : opv l y = some (slv v sz lo n (capOf v))) [g : GetRow O v e sz n xs]
    (h0n : 0 < n) (hin : i ≤ n) (hlo : lo ≤ n) (h1 : ∀ u ∈ xs, one1 u = true) (hz : Nat.beq (cellsL z).length sz = true) (h0 : sz ≠ 0) (hb : (i + (n - lo)) * bytes ≤ 140737488355328) (hb2 : i + (n - lo) ≤ 140737488355328)
    {O1 : Value → List Own} (q : ∀ v', PutRow O v e sz n xs v' (i + (n - lo)) (xs.take (i * sz) ++ xs.drop (lo * sz)) (O1 v')) :
    HV P E Hs O l (.call ⟨.builtin .append, #[x, y], #[T, T]⟩) (fun v' Hs' O2 => Hs' = Hs ∧ O2 = O1 v' ∧ IsSl v' (i + (n - lo))) := by
  refine HV.of_exec fun o' ho w hm ρ hρ => ?_
  have hown : w.ownsRow 0 e sz v n xs := hm.own _ g.h
  have hsh := own_shrink hown hin h0n
  have hvs := row_isSl hown
  have hcells0 : ∀ k u, xs[k]? = some u → w.cell? (vat v k) = some u := fun k u hu => row_cell hown hu
  have hxl : xs.length = n * sz := hown.1
  obtain ⟨ti, g1, g2, g3, g4⟩ := j.h
  have hsy : IsSl (slv v sz lo n (capOf v)) (n - lo) := by
    obtain ⟨A, cap, rfl, h2, h3, h4⟩ := hvs
    exact isSl_slv ⟨A, cap, rfl, h2, h3, h4⟩ hlo h2 (Nat.le_refl _) (Nat.le_refl _)
  have hcy : ∀ k u, (xs.drop (lo * sz))[k]? = some u → w.cell? (vat (slv v sz lo n (capOf v)) k) = some u := by
    intro k u hu
    have hk : k < (xs.drop (lo * sz)).length := (List.getElem?_eq_some_iff.1 hu).1
    rw [List.length_drop, hxl, ← Nat.sub_mul] at hk
    have hcap : n ≤ capOf v := by obtain ⟨A, cap, rfl, h2, _⟩ := hvs; exact h2
    rw [vat_slv hvs hlo hk hcap h0n]
    rw [List.getElem?_drop] at hu
    exact hcells0 _ u hu
  obtain ⟨A, cap, hve, hlc, hcm, hA⟩ := hsy
  have key : ∃ v' w', (Builtin.append_ #[T, T] o'.type #[slv v sz 0 i (capOf v), slv v sz lo n (capOf v)]).run P w = .ok v' w' ∧ w'.ownsRow 0 e sz v' (i + (n - lo)) (xs.take (i * sz) ++ xs.drop (lo * sz)) ∧ w.grownBy w' v.ownBlock ∧ (v'.ownBlock = v.ownBlock ∨ v'.ownBlock = some w.heap.size) := by
    rw [hve] at hcy ⊢
    have hdl : (xs.drop (lo * sz)).length = (n - lo) * sz := by rw [List.length_drop, hxl, ← Nat.sub_mul]
    cases A with
    | none =>
      have hm0 : n - lo = 0 := by
        rcases Nat.eq_zero_or_pos (n - lo) with h | h
        · exact h
        · obtain ⟨b, off, h2⟩ := hA h; cases h2
      rw [hm0] at hdl ⊢
      have hds : xs.drop (lo * sz) = [] := List.eq_nil_of_length_eq_zero (by simpa using hdl)
      rw [hds, List.append_nil, Nat.add_zero]
      refine ⟨slv v sz 0 i (capOf v), w, ?_, hsh.1, World.grownBy.refl w _, .inl hsh.2⟩
      rcases hsh.1.2 with ⟨h5, rfl⟩ | ⟨b, cap', cur, h5, _, _, hnc, _⟩
      · rw [h5]; simp [Builtin.append_, run_underlying t.h, sizeOf, typeInfo, g1, Builtin.lenOf, Builtin.firstCells]
      · rw [h5]; simp [Builtin.append_, run_underlying t.h, sizeOf, typeInfo, g1, Builtin.lenOf, Builtin.firstCells, hnc, storeCells]
    | some ad =>
      have hsp : n - lo ≠ 0 → ad.spot = none := fun hm0 => by
        obtain ⟨b, off, h2⟩ := hA (by omega)
        injection h2 with h2; subst h2; rfl
      have hcells : ∀ k u, (xs.drop (lo * sz))[k]? = some u → w.cell? (ad.add k) = some u := by
        intro k u hu
        by_cases hm0 : n - lo = 0
        · rw [hm0] at hdl
          have hds : xs.drop (lo * sz) = [] := List.eq_nil_of_length_eq_zero (by simpa using hdl)
          rw [hds] at hu; simp at hu
        · have h2 := hcy k u hu
          have h3 := hsp hm0
          obtain ⟨b, off, sp⟩ := ad
          simp only at h3
          subst h3
          rw [Addr.add_lit]
          exact h2
      obtain ⟨v', w', hr, h2, h3, _, h4⟩ := run_append_own_at (P := P) w 0 T o'.type e ti z sz bytes t.h g1 g2 g3 g4 (by rw [cellsL_eq]; simpa using Nat.eq_of_beq_eq_true hz) (by omega) (slv v sz 0 i (capOf v)) i (xs.take (i * sz)) hsh.1 ad (n - lo) cap (xs.drop (lo * sz)) hdl hcells (fun u hu => one1_eq (h1 u (List.mem_of_mem_drop hu))) (by simp only [maxLen]; omega) hb (Nat.zero_le _)
      exact ⟨v', w', hr, h2, hsh.2 ▸ h3, hsh.2 ▸ h4⟩
  obtain ⟨v', w', hr, h2, h3, h4⟩ := key
  obtain ⟨pre, post, rfl, qe⟩ := (q v').h
  refine ⟨v', w', Hs, _, ⟨rfl, rfl, row_isSl h2⟩, qe ▸ hm.changeAt (y := .row e sz v' (i + (n - lo)) (xs.take (i * sz) ++ xs.drop (lo * sz))) h3.os h3.tape h3.output h3.size (fun k hk hne => h3.block k hk (fun e => hne e.symm)) h2 (fun b hb => ?_), .inl ?_⟩
  · simp only [Own.foot] at hb ⊢
    rcases h4 with h4 | h4
    · exact .inl (h4 ▸ hb)
    · rw [h4] at hb; injection hb with hb; exact .inr (by omega)
  · simp [execOp, ho, resolve, invoke, builtin, hρ _ _ hx, hρ _ _ hy, hr]
end
end Go.Proofs.Ythlolpckgffebaa
namespace Go.Proofs.Ythlolpckgffebaa
open Go Go.RowKit

/-- A candidate as it lies in memory: the slice of its links, its cost, its links. -/
abbrev Qd := Value × Int × List Int
def cellsQ (qs : List Qd) : List Value := qs.flatMap fun q => [q.1, .int .i64 q.2.1]
def rowsQ (qs : List Qd) : List Own := qs.map fun q => Own.row 3 1 q.1 q.2.2.length (encI q.2.2)
def toC (q : Qd) : Cand := ⟨q.2.2, q.2.1⟩
def okQ (m : Nat) (B : Int) (q : Qd) : Prop := q.2.2.length ≤ m ∧ -B ≤ q.2.1 ∧ q.2.1 ≤ B ∧ ∀ i ∈ q.2.2, -B ≤ i ∧ i ≤ B
def okP (m : Nat) (B : Int) (L : List Cand) : Prop := L.length ≤ m ∧ ∀ x ∈ L, x.links.length ≤ m ∧ -B ≤ x.cost ∧ x.cost ≤ B ∧ ∀ i ∈ x.links, -B ≤ i ∧ i ≤ B
theorem okP_of {m : Nat} {B : Int} {qs : List Qd} (hl : qs.length ≤ m) (h : ∀ q ∈ qs, okQ m B q) : okP m B (qs.map toC) :=
  ⟨by simpa using hl, fun x hx => by obtain ⟨q, hq, rfl⟩ := List.mem_map.1 hx; exact h q hq⟩
theorem okQ_mono {m m' : Nat} {B B' : Int} {q : Qd} (h : okQ m B q) (hm : m ≤ m') (hB : B ≤ B') : okQ m' B' q :=
  ⟨Nat.le_trans h.1 hm, by have := h.2.1; omega, by have := h.2.2.1; omega, fun i hi => by have := h.2.2.2 i hi; omega⟩
theorem cellsQ_len : ∀ qs : List Qd, (cellsQ qs).length = qs.length * 2
  | [] => rfl
  | q :: qs => by have := cellsQ_len qs; simp only [cellsQ, List.flatMap_cons, List.length_append, List.length_cons, List.length_nil] at *; omega
theorem cellsQ_snoc (qs : List Qd) (q : Qd) : cellsQ (qs ++ [q]) = cellsQ qs ++ [q.1, .int .i64 q.2.1] := by simp [cellsQ]
theorem cellsQ_split {qs : List Qd} {i : Nat} {q : Qd} (h : qs[i]? = some q) : cellsQ qs = cellsQ (qs.take i) ++ [q.1, .int .i64 q.2.1] ++ cellsQ (qs.drop (i + 1)) := by
  conv => lhs; rw [split_at h]
  simp [cellsQ]
theorem cellsQ_at {qs : List Qd} {i j : Nat} {q : Qd} {u : Value} (h : qs[i]? = some q) (hu : [q.1, .int .i64 q.2.1][j]? = some u) : (cellsQ qs)[i * 2 + j]? = some u := by
  have hi := (List.getElem?_eq_some_iff.1 h).1
  have hj : j < 2 := (List.getElem?_eq_some_iff.1 hu).1
  have hl : (cellsQ (qs.take i)).length = i * 2 := by rw [cellsQ_len, List.length_take]; omega
  rw [cellsQ_split h, List.append_assoc, List.getElem?_append_right (by omega), hl, Nat.add_sub_cancel_left, List.getElem?_append_left (by simpa using hj)]
  exact hu
theorem cellsQ_put {qs : List Qd} {i j : Nat} {q q' : Qd} {u : Value} (h : qs[i]? = some q) (hu : [q'.1, .int .i64 q'.2.1] = [q.1, .int .i64 q.2.1].set j u) (hj : j < 2) : setAt (cellsQ qs) (i * 2 + j) u = some (cellsQ (qs.set i q')) := by
  have hi := (List.getElem?_eq_some_iff.1 h).1
  have hl : (cellsQ (qs.take i)).length = i * 2 := by rw [cellsQ_len, List.length_take]; omega
  rw [setAt_set _ _ _ (by rw [cellsQ_len]; omega)]
  have h2 : (qs.set i q')[i]? = some q' := by simp [hi]
  rw [cellsQ_split h, cellsQ_split h2, hu]
  have e1 : (qs.set i q').take i = qs.take i := by rw [List.take_set_of_le (Nat.le_refl _)]
  have e2 : (qs.set i q').drop (i + 1) = qs.drop (i + 1) := by rw [List.drop_set_of_lt (by omega)]
  rw [e1, e2, List.append_assoc, List.append_assoc, List.set_append_right _ _ (by omega), hl, Nat.add_sub_cancel_left, List.set_append_left _ _ (by simpa using hj)]
theorem cellsQ_put2 {qs : List Qd} {i : Nat} {q' : Qd} (hi : i < qs.length) : putAll (cellsQ qs) (i * 2) [q'.1, .int .i64 q'.2.1] = some (cellsQ (qs.set i q')) := by
  have h : qs[i]? = some qs[i] := List.getElem?_eq_getElem hi
  have hl : (cellsQ (qs.take i)).length = i * 2 := by rw [cellsQ_len, List.length_take]; omega
  have h2 : (qs.set i q')[i]? = some q' := by simp [hi]
  rw [cellsQ_split h, cellsQ_split h2]
  have e1 : (qs.set i q').take i = qs.take i := by rw [List.take_set_of_le (Nat.le_refl _)]
  have e2 : (qs.set i q').drop (i + 1) = qs.drop (i + 1) := by rw [List.drop_set_of_lt (by omega)]
  rw [e1, e2, ← hl]
  exact putAll_mid _ _ _ _ rfl
theorem cellsQ_take (qs : List Qd) (i : Nat) (hi : i ≤ qs.length) : (cellsQ qs).take (i * 2) = cellsQ (qs.take i) := by
  conv => lhs; rw [← List.take_append_drop i qs]
  have hl : (cellsQ (qs.take i)).length = i * 2 := by rw [cellsQ_len, List.length_take]; omega
  simp only [cellsQ, List.flatMap_append] at *
  rw [← hl, List.take_left]
theorem cellsQ_drop (qs : List Qd) (i : Nat) (hi : i ≤ qs.length) : (cellsQ qs).drop (i * 2) = cellsQ (qs.drop i) := by
  conv => lhs; rw [← List.take_append_drop i qs]
  have hl : (cellsQ (qs.take i)).length = i * 2 := by rw [cellsQ_len, List.length_take]; omega
  simp only [cellsQ, List.flatMap_append] at *
  rw [← hl, List.drop_left]
theorem cellsQ_append (a b : List Qd) : cellsQ (a ++ b) = cellsQ a ++ cellsQ b := by simp [cellsQ]
theorem cellsQ_one {qs : List Qd} (h : ∀ q ∈ qs, one1 q.1 = true) : ∀ u ∈ cellsQ qs, one1 u = true := by
  intro u hu
  obtain ⟨q, hq, hu⟩ := List.mem_flatMap.1 hu
  simp at hu
  rcases hu with rfl | rfl
  · exact h q hq
  · rfl
theorem cellsQ_rep {H : Snap} : ∀ {qs : List Qd}, (∀ q ∈ qs, SliceRep H I64 q.1 q.2.2) → CellsRep H CandL (qs.map toC) (cellsQ qs)
  | [], _ => rfl
  | q :: qs, h => ⟨_, _, by simp only [cellsQ, List.flatMap_cons]; rfl, ⟨_, rfl, h q (List.mem_cons_self ..)⟩, cellsQ_rep fun p hp => h p (List.mem_cons_of_mem _ hp)⟩
theorem rowsQ_at : ∀ {qs : List Qd} {i : Nat} {q : Qd}, qs[i]? = some q → (rowsQ qs).Perm (.row 3 1 q.1 q.2.2.length (encI q.2.2) :: rowsQ (qs.eraseIdx i))
  | [], _, _, h => by simp at h
  | p :: qs, 0, q, h => by simp at h; subst h; exact List.Perm.refl _
  | p :: qs, i + 1, q, h => by
    rw [List.eraseIdx_cons_succ]
    exact (List.Perm.cons _ (rowsQ_at (qs := qs) (by simpa using h))).trans (List.Perm.swap ..)
theorem rowsQ_set {qs : List Qd} {i : Nat} {q : Qd} (h : i < qs.length) : (rowsQ (qs.set i q)).Perm (.row 3 1 q.1 q.2.2.length (encI q.2.2) :: rowsQ (qs.eraseIdx i)) := by
  have := rowsQ_at (qs := qs.set i q) (i := i) (q := q) (by simp [h])
  rwa [List.eraseIdx_set_eq] at this
theorem Mem.freezeQ {E : Ent} {w : World} (hM : E.M = []) : ∀ (qs : List Qd) (Hs : List Snap) (H : Snap) (O : List Own), H ∈ Hs → Mem E w Hs (rowsQ qs ++ O) →
    ∃ H', H.le H' ∧ Mem E w (H' :: Hs) O ∧ ∀ q ∈ qs, SliceRep H' I64 q.1 q.2.2
  | [], Hs, H, O, hH, hm => ⟨H, Snap.le.refl H, hm.sub (by
      intro x hx
      rcases List.mem_cons.1 hx with rfl | hx
      · exact List.mem_cons_of_mem _ hH
      · exact List.mem_cons_of_mem _ hx) (List.Sublist.refl _), by simp⟩
  | q :: qs, Hs, H, O, hH, hm => by
    have i : InH Hs H := ⟨hH⟩
    obtain ⟨H1, h1, h2, h3, h4⟩ := Mem.freezeRow (H := H) (v := q.1) (O := .row 3 1 q.1 q.2.2.length (encI q.2.2) :: (rowsQ qs ++ O)) hM hm
    obtain ⟨H2, h5, h6, h7⟩ := Mem.freezeQ hM qs (H1 :: Hs) H1 O (List.mem_cons_self ..) h4
    refine ⟨H2, h1.trans h5, h6.sub ?_ (List.Sublist.refl _), fun p hp => ?_⟩
    · intro y hy
      rcases List.mem_cons.1 hy with rfl | hy
      · exact List.mem_cons_of_mem _ (List.mem_cons_self ..)
      · exact List.mem_cons_of_mem _ (List.mem_cons_of_mem _ (List.mem_cons_of_mem _ hy))
    · rcases List.mem_cons.1 hp with rfl | hp
      · exact (SliceRep.of_row h2 rfl (ints_rep H1 p.2.2) (Snap.le.refl _) h3).mono h5
      · exact h7 p hp
theorem Runs.freezeQ {P : Program} {f : FuncId} {n : Nat} {E : Ent} {R : Value → World → Prop} {k : List Item} {Hs : List Snap} {O : List Own} {l : Env} {H : Snap} (qs : List Qd) [i : InH Hs H] (hM : E.M = [])
    (h : ∀ H', H.le H' → (∀ q ∈ qs, SliceRep H' I64 q.1 q.2.2) → Runs P f n E R k (H' :: Hs) O l) : Runs P f n E R k Hs (O ++ rowsQ qs) l := by
  intro w hm
  obtain ⟨H', h1, h2, h3⟩ := (hm.perm List.perm_append_comm).freezeQ hM qs Hs H O i.h
  exact h H' h1 h3 w h2
theorem RW.freezeQ {P : Program} {f : FuncId} {n : Nat} {E : Ent} {R : Value → World → Prop} {ops : Array Oper} {os : List Oper} {k : List Item} {Hs : List Snap} {O : List Own} {l : Env} {H : Snap} (qs : List Qd) [i : InH Hs H] (hM : E.M = [])
    (h : ∀ H', H.le H' → (∀ q ∈ qs, SliceRep H' I64 q.1 q.2.2) → RW P f n E R ops os k (H' :: Hs) O l) : RW P f n E R ops os k Hs (O ++ rowsQ qs) l := by
  intro w hm
  obtain ⟨H', h1, h2, h3⟩ := (hm.perm List.perm_append_comm).freezeQ hM qs Hs H O i.h
  exact h H' h1 h3 w h2
end Go.Proofs.Ythlolpckgffebaa
namespace Go.Proofs.Ythlolpckgffebaa
open Go Go.RowKit

theorem cellsQ_same {qs : List Qd} {i : Nat} {q q' : Qd} (h : qs[i]? = some q) (h1 : q'.1 = q.1) (h2 : q'.2.1 = q.2.1) : cellsQ (qs.set i q') = cellsQ qs := by
  have hi := (List.getElem?_eq_some_iff.1 h).1
  have h3 : (qs.set i q')[i]? = some q' := by simp [hi]
  rw [cellsQ_split h, cellsQ_split h3, h1, h2, List.take_set_of_le (Nat.le_refl _), List.drop_set_of_lt (by omega)]
theorem encI_put {l : List Int} {i : Nat} {y : Int} (h : i < l.length) : setAt (encI l) (i * 1) (.int .i64 y) = some (encI (l.set i y)) := by
  rw [Nat.mul_one, setAt_set _ _ _ (by simpa [encI] using h)]
  simp [encI, List.map_set]
theorem encI_get {l : List Int} {i : Nat} {y : Int} (h : l[i]? = some y) : (encI l)[i * 1]? = some (.int .i64 y) := by simp [encI, h]
theorem mem_set {α : Type} {l : List α} {i : Nat} {a b : α} (h : b ∈ l.set i a) : b ∈ l ∨ b = a := List.mem_or_eq_of_mem_set h

set_option maxHeartbeats 16000000 in
theorem spoilt_c {H : Snap} {vp : Value} {pw : Bool} {L : List Cand} {m : Nat} {B sw si sk sb : Int} (hp : SliceRep H CandL vp L) (hL : okP m B L) (hm : m ≤ 1000) (hB : 0 ≤ B ∧ B ≤ 1000000000000000) (hsw : isByte sw) (hsi : isByte si) (hsk : isByte sk) (hsb : isI8 sb) :
    Pure Try.prog 19 #[.agg #[vp, .bool pw], .agg #[.int .u8 sw, .int .u8 si, .int .u8 sk, .int .i8 sb]] H (fun H' r => ∃ v w' L', r = .agg #[v, .bool w'] ∧ SliceRep H' CandL v L' ∧ okP (m + 1) (B + 1000) L') := by
  unfold isByte at hsw hsi hsk
  unfold isI8 at hsb
  have hLl := hL.1
  have hbp := hp.isSl.bound
  refine Pure.intro Try.func19 rfl Try.ntmps19 rfl (fun E R hM hR => ?_)
  repeat (first | refine a1 ?_ | refine a3 ?_ | refine a4 ?_ | refine a5 ?_ | refine a6 ?_ | refine s_fieldB ?_ | refine s_fieldV ?_ | refine s_loadB ?_ | refine s_loadH ?_ | refine s_loadR ?_ | refine s_build ?_ | refine s_len ?_ | refine s_lenR ?_ | refine s_index ?_ | refine s_indexR ?_ | refine s_addI ?_ | refine s_convI ?_ | refine s_loadBs ?_ | refine s_loadHs ?_ | refine s_rem ?_ | refine s_eql ?_ | refine s_sliceHi ?_ | refine s_sliceLo ?_ | refine s_quo ?_ | refine a7 ?_ | refine a8 ?_ | refine a9 ?_ | refine RW.storeR rfl rfl rfl rfl (by first | rfl | (simp [allOne, cellsL, one1]; done) | (simp [allOne, cellsL, one1]; first | assumption | (refine ⟨?_, ?_⟩ <;> assumption))) rfl ?_ | refine a10 ?_ | refine RW.storeR1 rfl rfl (by first | rfl | exact IsSl.one1 (by assumption) | exact IsSl.one1 (SliceRep.isSl (by assumption))) rfl rfl ?_)
  refine RW.box rfl rfl rfl rfl (fun b2 => ?_)
  refine RW.box rfl rfl rfl rfl (fun b3 => ?_)
  refine RW.alloc rfl rfl rfl (fun b4 => ?_)
  repeat (first | refine a1 ?_ | refine a3 ?_ | refine a4 ?_ | refine a5 ?_ | refine a6 ?_ | refine s_fieldB ?_ | refine s_fieldV ?_ | refine s_loadB ?_ | refine s_loadH ?_ | refine s_loadR ?_ | refine s_build ?_ | refine s_len ?_ | refine s_lenR ?_ | refine s_index ?_ | refine s_indexR ?_ | refine s_addI ?_ | refine s_convI ?_ | refine s_loadBs ?_ | refine s_loadHs ?_ | refine s_rem ?_ | refine s_eql ?_ | refine s_sliceHi ?_ | refine s_sliceLo ?_ | refine s_quo ?_ | refine a7 ?_ | refine a8 ?_ | refine a9 ?_ | refine RW.storeR rfl rfl rfl rfl (by first | rfl | (simp [allOne, cellsL, one1]; done) | (simp [allOne, cellsL, one1]; first | assumption | (refine ⟨?_, ?_⟩ <;> assumption))) rfl ?_ | refine a10 ?_ | refine RW.storeR1 rfl rfl (by first | rfl | exact IsSl.one1 (by assumption) | exact IsSl.one1 (SliceRep.isSl (by assumption))) rfl rfl ?_)
  refine RW.alloc rfl rfl rfl (fun b5 => ?_)
  repeat (first | refine a1 ?_ | refine a3 ?_ | refine a4 ?_ | refine a5 ?_ | refine a6 ?_ | refine s_fieldB ?_ | refine s_fieldV ?_ | refine s_loadB ?_ | refine s_loadH ?_ | refine s_loadR ?_ | refine s_build ?_ | refine s_len ?_ | refine s_lenR ?_ | refine s_index ?_ | refine s_indexR ?_ | refine s_addI ?_ | refine s_convI ?_ | refine s_loadBs ?_ | refine s_loadHs ?_ | refine s_rem ?_ | refine s_eql ?_ | refine s_sliceHi ?_ | refine s_sliceLo ?_ | refine s_quo ?_ | refine a7 ?_ | refine a8 ?_ | refine a9 ?_ | refine RW.storeR rfl rfl rfl rfl (by first | rfl | (simp [allOne, cellsL, one1]; done) | (simp [allOne, cellsL, one1]; first | assumption | (refine ⟨?_, ?_⟩ <;> assumption))) rfl ?_ | refine a10 ?_ | refine RW.storeR1 rfl rfl (by first | rfl | exact IsSl.one1 (by assumption) | exact IsSl.one1 (SliceRep.isSl (by assumption))) rfl rfl ?_)
  refine Runs.addNil 62 2 ?_
  refine Runs.loop (fun (s : Nat × Value × List Qd) => s.1 ≤ L.length ∧ s.2.2.length = s.1 ∧ s.2.2.map toC = L.take s.1) (fun s => L.length - s.1) (fun _ => [H])
    (fun s => .row 62 2 s.2.1 s.1 (cellsQ s.2.2) :: .blk b5 44 [s.2.1, .bool pw] :: .blk b4 44 [.slice none 0 0, .bool false] :: .blk b3 50 [.int .u8 sw, .int .u8 si, .int .u8 sk, .int .i8 sb] :: .blk b2 44 [vp, .bool pw] :: rowsQ s.2.2.reverse)
    (fun s => [(2, .pointer (some ⟨b2, 0, none⟩)), (3, .pointer (some ⟨b3, 0, none⟩)), (4, .pointer (some ⟨b4, 0, none⟩)), (5, .pointer (some ⟨b5, 0, none⟩)), (6, .int .i64 (s.1 : Int))]) (0, .slice none 0 0, []) ⟨Nat.zero_le _, rfl, rfl⟩ (fun h => by
      refine Runs.weak (h) (by repeat (first | exact trivial | refine And.intro rfl ?_)) (fun x hx => List.mem_cons_of_mem _ (SubH.h x hx)) (by repeat (first | exact List.nil_sublist _ | exact List.Sublist.refl _ | refine List.Sublist.cons_cons _ ?_ | refine List.Sublist.cons _ ?_))) ?_
  rintro ⟨k, vL, qs⟩ ⟨hk, hql, hqs⟩ ih
  dsimp only at hk hql hqs ⊢
  refine Runs.rowSl vL (fun hvL hvL1 => ?_)
  repeat (first | refine a1 ?_ | refine a3 ?_ | refine a4 ?_ | refine a5 ?_ | refine a6 ?_ | refine s_fieldB ?_ | refine s_fieldV ?_ | refine s_loadB ?_ | refine s_loadH ?_ | refine s_loadR ?_ | refine s_build ?_ | refine s_len ?_ | refine s_lenR ?_ | refine s_index ?_ | refine s_indexR ?_ | refine s_addI ?_ | refine s_convI ?_ | refine s_loadBs ?_ | refine s_loadHs ?_ | refine s_rem ?_ | refine s_eql ?_ | refine s_sliceHi ?_ | refine s_sliceLo ?_ | refine s_quo ?_ | refine a7 ?_ | refine a8 ?_ | refine a9 ?_ | refine RW.storeR rfl rfl rfl rfl (by first | rfl | (simp [allOne, cellsL, one1]; done) | (simp [allOne, cellsL, one1]; first | assumption | (refine ⟨?_, ?_⟩ <;> assumption))) rfl ?_ | refine a10 ?_ | refine RW.storeR1 rfl rfl (by first | rfl | exact IsSl.one1 (by assumption) | exact IsSl.one1 (SliceRep.isSl (by assumption))) rfl rfl ?_)
  refine Runs.cond_d rfl (fun hlt => ?_) (fun hlt => ?_)
  · obtain ⟨x, hx⟩ : ∃ x, L[k]? = some x := ⟨_, List.getElem?_eq_getElem (by omega)⟩
    obtain ⟨vx, hvx, hx0, hx1, _⟩ := hp.cand hx
    have hxl := (hL.2 x (List.mem_of_getElem? hx)).1
    repeat (first | refine a1 ?_ | refine a3 ?_ | refine a4 ?_ | refine a5 ?_ | refine a6 ?_ | refine s_fieldB ?_ | refine s_fieldV ?_ | refine s_loadB ?_ | refine s_loadH ?_ | refine s_loadR ?_ | refine s_build ?_ | refine s_len ?_ | refine s_lenR ?_ | refine s_index ?_ | refine s_indexR ?_ | refine s_addI ?_ | refine s_convI ?_ | refine s_loadBs ?_ | refine s_loadHs ?_ | refine s_rem ?_ | refine s_eql ?_ | refine s_sliceHi ?_ | refine s_sliceLo ?_ | refine s_quo ?_ | refine a7 ?_ | refine a8 ?_ | refine a9 ?_ | refine RW.storeR rfl rfl rfl rfl (by first | rfl | (simp [allOne, cellsL, one1]; done) | (simp [allOne, cellsL, one1]; first | assumption | (refine ⟨?_, ?_⟩ <;> assumption))) rfl ?_ | refine a10 ?_ | refine RW.storeR1 rfl rfl (by first | rfl | exact IsSl.one1 (by assumption) | exact IsSl.one1 (SliceRep.isSl (by assumption))) rfl rfl ?_)
    refine Runs.regionD _ (.blk b5 44 [vL, .bool pw] :: .blk b4 44 [.slice none 0 0, .bool false] :: .blk b3 50 [.int .u8 sw, .int .u8 si, .int .u8 sk, .int .i8 sb] :: .blk b2 44 [vp, .bool pw] :: rowsQ qs.reverse) [20] (fun x hx => List.mem_cons_of_mem _ hx) SubO.h (by kernel_rfl) ?_
    (first | refine t_fieldB 0 ?_ | refine t_fieldV 0 ?_)
    (first | refine t_loadB 1 ?_ | refine t_loadH 1 ?_ | refine t_loadR 1 ?_)
    (first | refine t_fieldB 3 ?_ | refine t_fieldV 3 ?_)
    (first | refine t_loadB 4 ?_ | refine t_loadH 4 ?_ | refine t_loadR 4 ?_)
    refine d2 5 ?_
    (first | refine t_index 6 ?_ | refine t_indexR 6 ?_)
    (first | refine t_fieldB 7 ?_ | refine t_fieldV 7 ?_)
    (first | refine t_loadB 8 ?_ | refine t_loadH 8 ?_ | refine t_loadR 8 ?_)
    (first | refine t_fieldB 10 ?_ | refine t_fieldV 10 ?_)
    (first | refine t_loadB 11 ?_ | refine t_loadH 11 ?_ | refine t_loadR 11 ?_)
    refine d2 12 ?_
    (first | refine t_index 13 ?_ | refine t_indexR 13 ?_)
    (first | refine t_fieldB 14 ?_ | refine t_fieldV 14 ?_)
    (first | refine t_loadB 15 ?_ | refine t_loadH 15 ?_ | refine t_loadR 15 ?_)
    refine DW.buildSlice 2 rfl (by kernel_rfl) rfl rfl rfl rfl rfl rfl rfl (fun v23 hv23 => ?_)
    refine DW.appendH 9 rfl (by kernel_rfl) rfl rfl hvx (by rfl) rfl (by decide) (by omega) (by omega) (fun _ _ => inferInstance) rfl rfl (fun _ _ => inferInstance) inferInstance (fun ds v30 hds hv30 => ?_)
    have hds' := i64_cells hds
    subst hds'
    rw [Nat.zero_add] at hv30
    have hv30' := hv30
    obtain ⟨A30, c30, rfl, _, _⟩ := hv30
    refine t_build 16 ?_
    refine DW.buildSlice 17 rfl (by kernel_rfl) rfl rfl rfl rfl rfl rfl rfl (fun v38 hv38 => ?_)
    refine DW.appendR 18 rfl (by kernel_rfl) rfl rfl (by assumption) rfl rfl rfl (by decide) (by omega) (by omega) (fun _ => inferInstance) rfl rfl (fun _ => inferInstance) inferInstance (fun v39 hv39 => ?_)
    (first | refine t_fieldB 19 ?_ | refine t_fieldV 19 ?_)
    (first | refine DW.storeB 20 rfl (by kernel_rfl) rfl rfl rfl rfl (by first | rfl | (simp [allOne, cellsL, one1]; done) | (simp [allOne, cellsL, one1]; first | assumption | (refine ⟨?_, ?_⟩ <;> assumption))) rfl ?_ | refine DW.storeB1 20 rfl (by kernel_rfl) rfl rfl rfl (by first | rfl | exact IsSl.one1 (by assumption) | exact IsSl.one1 (SliceRep.isSl (by assumption))) rfl rfl ?_)
    refine DW.done (by kernel_rfl) ?_
    simp only [repL, List.nil_append, Nat.zero_add]
    generalize Value.slice A30 x.links.length c30 = v30 at hv30' ⊢
    refine Runs.perm (O' := .row 62 2 v38 1 [v30, .int .i64 x.cost] :: .row 62 2 v39 (k + 1) (cellsQ qs ++ [v30, .int .i64 x.cost]) :: .blk b5 44 [v39, .bool pw] :: .blk b4 44 [.slice none 0 0, .bool false] :: .blk b3 50 [.int .u8 sw, .int .u8 si, .int .u8 sk, .int .i8 sb] :: .blk b2 44 [vp, .bool pw] :: rowsQ ((v30, x.cost, x.links) :: qs.reverse)) (List.Perm.cons _ (List.perm_middle (l₁ := [_, _, _, _, _]) (l₂ := rowsQ qs.reverse)).symm) ?_
    repeat (first | refine a1 ?_ | refine a3 ?_ | refine a4 ?_ | refine a5 ?_ | refine a6 ?_ | refine s_fieldB ?_ | refine s_fieldV ?_ | refine s_loadB ?_ | refine s_loadH ?_ | refine s_loadR ?_ | refine s_build ?_ | refine s_len ?_ | refine s_lenR ?_ | refine s_index ?_ | refine s_indexR ?_ | refine s_addI ?_ | refine s_convI ?_ | refine s_loadBs ?_ | refine s_loadHs ?_ | refine s_rem ?_ | refine s_eql ?_ | refine s_sliceHi ?_ | refine s_sliceLo ?_ | refine s_quo ?_ | refine a7 ?_ | refine a8 ?_ | refine a9 ?_ | refine RW.storeR rfl rfl rfl rfl (by first | rfl | (simp [allOne, cellsL, one1]; done) | (simp [allOne, cellsL, one1]; first | assumption | (refine ⟨?_, ?_⟩ <;> assumption))) rfl ?_ | refine a10 ?_ | refine RW.storeR1 rfl rfl (by first | rfl | exact IsSl.one1 (by assumption) | exact IsSl.one1 (SliceRep.isSl (by assumption))) rfl rfl ?_)
    have h := ih (k + 1, v39, qs ++ [(v30, x.cost, x.links)]) ⟨by dsimp only; omega, by simp [hql], by dsimp only; rw [List.map_append, hqs, take_snoc_of hx]; rfl⟩ (by dsimp only; omega)
    dsimp only at h
    rw [cellsQ_snoc, List.reverse_append] at h
    refine Runs.weak (h) (by repeat (first | exact trivial | refine And.intro rfl ?_)) (fun x hx => List.mem_cons_of_mem _ (SubH.h x hx)) (by repeat (first | exact List.nil_sublist _ | exact List.Sublist.refl _ | refine List.Sublist.cons_cons _ ?_ | refine List.Sublist.cons _ ?_))
  · have hkl : k = L.length := by omega
    subst hkl
    rw [List.take_length] at hqs
    have hqok : ∀ q ∈ qs, okQ m B q := fun q hq => hL.2 (toC q) (by rw [← hqs]; exact List.mem_map.2 ⟨q, hq, rfl⟩)
    have hqok1 : ∀ q ∈ qs, okQ (m + 1) (B + 1000) q := fun q hq => okQ_mono (hqok q hq) (by omega) (by omega)
    refine Runs.perm (O' := .row 62 2 vL L.length (cellsQ qs) :: .blk b5 44 [vL, .bool pw] :: .blk b4 44 [.slice none 0 0, .bool false] :: .blk b3 50 [.int .u8 sw, .int .u8 si, .int .u8 sk, .int .i8 sb] :: .blk b2 44 [vp, .bool pw] :: rowsQ qs) (List.Perm.append_left [_, _, _, _, _] ((List.reverse_perm qs).map _)) ?_
    rw [← hql]
    rw [← hql] at hvL hLl hbp
    clear ih hk hlt
    repeat (first | refine a1 ?_ | refine a3 ?_ | refine a4 ?_ | refine a5 ?_ | refine a6 ?_ | refine s_fieldB ?_ | refine s_fieldV ?_ | refine s_loadB ?_ | refine s_loadH ?_ | refine s_loadR ?_ | refine s_build ?_ | refine s_len ?_ | refine s_lenR ?_ | refine s_index ?_ | refine s_indexR ?_ | refine s_addI ?_ | refine s_convI ?_ | refine s_loadBs ?_ | refine s_loadHs ?_ | refine s_rem ?_ | refine s_eql ?_ | refine s_sliceHi ?_ | refine s_sliceLo ?_ | refine s_quo ?_ | refine a7 ?_ | refine a8 ?_ | refine a9 ?_ | refine RW.storeR rfl rfl rfl rfl (by first | rfl | (simp [allOne, cellsL, one1]; done) | (simp [allOne, cellsL, one1]; first | assumption | (refine ⟨?_, ?_⟩ <;> assumption))) rfl ?_ | refine a10 ?_ | refine RW.storeR1 rfl rfl (by first | rfl | exact IsSl.one1 (by assumption) | exact IsSl.one1 (SliceRep.isSl (by assumption))) rfl rfl ?_)
    refine Runs.cond_d rfl (fun hz => ?_) (fun hz => ?_)
    · repeat (first | refine a1 ?_ | refine a3 ?_ | refine a4 ?_ | refine a5 ?_ | refine a6 ?_ | refine s_fieldB ?_ | refine s_fieldV ?_ | refine s_loadB ?_ | refine s_loadH ?_ | refine s_loadR ?_ | refine s_build ?_ | refine s_len ?_ | refine s_lenR ?_ | refine s_index ?_ | refine s_indexR ?_ | refine s_addI ?_ | refine s_convI ?_ | refine s_loadBs ?_ | refine s_loadHs ?_ | refine s_rem ?_ | refine s_eql ?_ | refine s_sliceHi ?_ | refine s_sliceLo ?_ | refine s_quo ?_ | refine a7 ?_ | refine a8 ?_ | refine a9 ?_ | refine RW.storeR rfl rfl rfl rfl (by first | rfl | (simp [allOne, cellsL, one1]; done) | (simp [allOne, cellsL, one1]; first | assumption | (refine ⟨?_, ?_⟩ <;> assumption))) rfl ?_ | refine a10 ?_ | refine RW.storeR1 rfl rfl (by first | rfl | exact IsSl.one1 (by assumption) | exact IsSl.one1 (SliceRep.isSl (by assumption))) rfl rfl ?_)
      refine RW.buildSlice rfl rfl rfl rfl rfl rfl rfl (fun v49 hv49 => ?_)
      have hv49' := hv49
      obtain ⟨A49, c49, rfl, _, _⟩ := hv49
      repeat (first | refine a1 ?_ | refine a3 ?_ | refine a4 ?_ | refine a5 ?_ | refine a6 ?_ | refine s_fieldB ?_ | refine s_fieldV ?_ | refine s_loadB ?_ | refine s_loadH ?_ | refine s_loadR ?_ | refine s_build ?_ | refine s_len ?_ | refine s_lenR ?_ | refine s_index ?_ | refine s_indexR ?_ | refine s_addI ?_ | refine s_convI ?_ | refine s_loadBs ?_ | refine s_loadHs ?_ | refine s_rem ?_ | refine s_eql ?_ | refine s_sliceHi ?_ | refine s_sliceLo ?_ | refine s_quo ?_ | refine a7 ?_ | refine a8 ?_ | refine a9 ?_ | refine RW.storeR rfl rfl rfl rfl (by first | rfl | (simp [allOne, cellsL, one1]; done) | (simp [allOne, cellsL, one1]; first | assumption | (refine ⟨?_, ?_⟩ <;> assumption))) rfl ?_ | refine a10 ?_ | refine RW.storeR1 rfl rfl (by first | rfl | exact IsSl.one1 (by assumption) | exact IsSl.one1 (SliceRep.isSl (by assumption))) rfl rfl ?_)
      refine RW.buildSlice rfl rfl rfl rfl rfl rfl rfl (fun v54 hv54 => ?_)
      have hv541 := hv54.one1
      refine RW.freeze (H := H) (.slice A49 1 c49) hM (fun HQ hleQ hsQ hcQ => ?_)
      have hQ0 : SliceRep HQ I64 (.slice A49 1 c49) [sb] := SliceRep.of_row hsQ rfl (ints_rep HQ [sb]) (Snap.le.refl _) hcQ
      generalize Value.slice A49 1 c49 = v49 at hQ0 ⊢
      skip
      repeat (first | refine a1 ?_ | refine a3 ?_ | refine a4 ?_ | refine a5 ?_ | refine a6 ?_ | refine s_fieldB ?_ | refine s_fieldV ?_ | refine s_loadB ?_ | refine s_loadH ?_ | refine s_loadR ?_ | refine s_build ?_ | refine s_len ?_ | refine s_lenR ?_ | refine s_index ?_ | refine s_indexR ?_ | refine s_addI ?_ | refine s_convI ?_ | refine s_loadBs ?_ | refine s_loadHs ?_ | refine s_rem ?_ | refine s_eql ?_ | refine s_sliceHi ?_ | refine s_sliceLo ?_ | refine s_quo ?_ | refine a7 ?_ | refine a8 ?_ | refine a9 ?_ | refine RW.storeR rfl rfl rfl rfl (by first | rfl | (simp [allOne, cellsL, one1]; done) | (simp [allOne, cellsL, one1]; first | assumption | (refine ⟨?_, ?_⟩ <;> assumption))) rfl ?_ | refine a10 ?_ | refine RW.storeR1 rfl rfl (by first | rfl | exact IsSl.one1 (by assumption) | exact IsSl.one1 (SliceRep.isSl (by assumption))) rfl rfl ?_)
      refine Runs.freeze (H := HQ) v54 hM (fun HF hleF hsF hcF => ?_)
      refine Runs.retC Try.func19 Try.results19 rfl (fun w hm => hR _ w _ HF _ (by simp) ((hleQ.trans hleF)) ?_ hm)
      exact ⟨v54, pw, ([(v49, sk, [sb])] : List Qd).map toC, rfl, SliceRep.of_row hsF (by simp; try omega) ((cellsQ_rep (qs := [(v49, sk, [sb])]) (fun p hp => by rw [List.mem_singleton] at hp; subst hp; exact hQ0)).mono hleF) (Snap.le.refl _) hcF, okP_of (qs := [(v49, sk, [sb])]) (by simp) (fun p hp => by rw [List.mem_singleton] at hp; subst hp; exact ⟨by simp, by dsimp only; omega, by dsimp only; omega, by simp; omega⟩)⟩
    · have hn0 : 0 < qs.length := by omega
      have hn1 : qs.length ≤ 1000 := by omega
      obtain ⟨i, hi⟩ : ∃ i : Nat, si % (qs.length : Int) = (i : Int) := ⟨(si % (qs.length : Int)).toNat, by
        have := Int.emod_nonneg si (b := (qs.length : Int)) (by omega)
        omega⟩
      have hil : i < qs.length := by
        have := Int.emod_lt_of_pos si (b := (qs.length : Int)) (by omega)
        omega
      obtain ⟨kq, hkq⟩ : ∃ i : Nat, sk % (qs.length : Int) = (i : Int) := ⟨(sk % (qs.length : Int)).toNat, by
        have := Int.emod_nonneg sk (b := (qs.length : Int)) (by omega)
        omega⟩
      have hkl : kq < qs.length := by
        have := Int.emod_lt_of_pos sk (b := (qs.length : Int)) (by omega)
        omega
      obtain ⟨q, hqi⟩ : ∃ q, qs[i]? = some q := ⟨_, List.getElem?_eq_getElem hil⟩
      obtain ⟨qk, hqk⟩ : ∃ q, qs[kq]? = some q := ⟨_, List.getElem?_eq_getElem hkl⟩
      have hqm := List.mem_of_getElem? hqi
      have hqkm := List.mem_of_getElem? hqk
      have hqo := hqok q hqm
      unfold okQ at hqo
      refine Runs.perm (O' := .row 3 1 q.1 q.2.2.length (encI q.2.2) :: (.row 62 2 vL qs.length (cellsQ qs) :: .blk b5 44 [vL, .bool pw] :: .blk b4 44 [.slice none 0 0, .bool false] :: .blk b3 50 [.int .u8 sw, .int .u8 si, .int .u8 sk, .int .i8 sb] :: .blk b2 44 [vp, .bool pw] :: rowsQ (qs.eraseIdx i))) ((List.Perm.append_left [_, _, _, _, _] (rowsQ_at hqi)).trans (List.perm_middle (l₁ := [_, _, _, _, _]))) ?_
      refine Runs.rowSl q.1 (fun hqs1 hqone => ?_)
      refine Runs.perm (O' := .row 62 2 vL qs.length (cellsQ qs) :: .blk b5 44 [vL, .bool pw] :: .blk b4 44 [.slice none 0 0, .bool false] :: .blk b3 50 [.int .u8 sw, .int .u8 si, .int .u8 sk, .int .i8 sb] :: .blk b2 44 [vp, .bool pw] :: rowsQ qs) ((List.Perm.append_left [_, _, _, _, _] (rowsQ_at hqi)).trans (List.perm_middle (l₁ := [_, _, _, _, _]))).symm ?_
      have hc0 := cellsQ_at (j := 0) hqi rfl
      have hc1 := cellsQ_at (j := 1) hqi rfl
      repeat (first | refine a1 ?_ | refine a3 ?_ | refine a4 ?_ | refine a5 ?_ | refine a6 ?_ | refine s_fieldB ?_ | refine s_fieldV ?_ | refine s_loadB ?_ | refine s_loadH ?_ | refine s_loadR ?_ | refine s_build ?_ | refine s_len ?_ | refine s_lenR ?_ | refine s_index ?_ | refine s_indexR ?_ | refine s_addI ?_ | refine s_convI ?_ | refine s_loadBs ?_ | refine s_loadHs ?_ | refine s_rem ?_ | refine s_eql ?_ | refine s_sliceHi ?_ | refine s_sliceLo ?_ | refine s_quo ?_ | refine a7 ?_ | refine a8 ?_ | refine a9 ?_ | refine RW.storeR rfl rfl rfl rfl (by first | rfl | (simp [allOne, cellsL, one1]; done) | (simp [allOne, cellsL, one1]; first | assumption | (refine ⟨?_, ?_⟩ <;> assumption))) rfl ?_ | refine a10 ?_ | refine RW.storeR1 rfl rfl (by first | rfl | exact IsSl.one1 (by assumption) | exact IsSl.one1 (SliceRep.isSl (by assumption))) rfl rfl ?_)
      rw [hi, hkq]
      repeat (first | refine a1 ?_ | refine a3 ?_ | refine a4 ?_ | refine a5 ?_ | refine a6 ?_ | refine s_fieldB ?_ | refine s_fieldV ?_ | refine s_loadB ?_ | refine s_loadH ?_ | refine s_loadR ?_ | refine s_build ?_ | refine s_len ?_ | refine s_lenR ?_ | refine s_index ?_ | refine s_indexR ?_ | refine s_addI ?_ | refine s_convI ?_ | refine s_loadBs ?_ | refine s_loadHs ?_ | refine s_rem ?_ | refine s_eql ?_ | refine s_sliceHi ?_ | refine s_sliceLo ?_ | refine s_quo ?_ | refine a7 ?_ | refine a8 ?_ | refine a9 ?_ | refine RW.storeR rfl rfl rfl rfl (by first | rfl | (simp [allOne, cellsL, one1]; done) | (simp [allOne, cellsL, one1]; first | assumption | (refine ⟨?_, ?_⟩ <;> assumption))) rfl ?_ | refine a10 ?_ | refine RW.storeR1 rfl rfl (by first | rfl | exact IsSl.one1 (by assumption) | exact IsSl.one1 (SliceRep.isSl (by assumption))) rfl rfl ?_)
      refine RW.q (QV.loadRs (c := [q.1, .int .i64 q.2.1]) rfl (fun j u hu => cellsQ_at hqi hu)) rfl rfl ?_
      refine RW.alloc rfl rfl rfl (fun b10 => ?_)
      repeat (first | refine a1 ?_ | refine a3 ?_ | refine a4 ?_ | refine a5 ?_ | refine a6 ?_ | refine s_fieldB ?_ | refine s_fieldV ?_ | refine s_loadB ?_ | refine s_loadH ?_ | refine s_loadR ?_ | refine s_build ?_ | refine s_len ?_ | refine s_lenR ?_ | refine s_index ?_ | refine s_indexR ?_ | refine s_addI ?_ | refine s_convI ?_ | refine s_loadBs ?_ | refine s_loadHs ?_ | refine s_rem ?_ | refine s_eql ?_ | refine s_sliceHi ?_ | refine s_sliceLo ?_ | refine s_quo ?_ | refine a7 ?_ | refine a8 ?_ | refine a9 ?_ | refine RW.storeR rfl rfl rfl rfl (by first | rfl | (simp [allOne, cellsL, one1]; done) | (simp [allOne, cellsL, one1]; first | assumption | (refine ⟨?_, ?_⟩ <;> assumption))) rfl ?_ | refine a10 ?_ | refine RW.storeR1 rfl rfl (by first | rfl | exact IsSl.one1 (by assumption) | exact IsSl.one1 (SliceRep.isSl (by assumption))) rfl rfl ?_)
      have hmw : 0 ≤ sw % 8 ∧ sw % 8 ≤ 7 := by omega
      refine Runs.cond_d rfl (fun w0 => ?_) (fun w0 => ?_)
      · skip
        refine Runs.perm (O' := [.blk b10 62 [q.1, .int .i64 q.2.1], .row 62 2 vL qs.length (cellsQ qs), .blk b5 44 [vL, .bool pw], .blk b4 44 [.slice none 0 0, .bool false], .blk b3 50 [.int .u8 sw, .int .u8 si, .int .u8 sk, .int .i8 sb], .blk b2 44 [vp, .bool pw]] ++ rowsQ qs) (List.Perm.refl _) ?_
        refine Runs.freezeQ (H := H) qs hM (fun HQ hleQ hqr => ?_)
        repeat (first | refine a1 ?_ | refine a3 ?_ | refine a4 ?_ | refine a5 ?_ | refine a6 ?_ | refine s_fieldB ?_ | refine s_fieldV ?_ | refine s_loadB ?_ | refine s_loadH ?_ | refine s_loadR ?_ | refine s_build ?_ | refine s_len ?_ | refine s_lenR ?_ | refine s_index ?_ | refine s_indexR ?_ | refine s_addI ?_ | refine s_convI ?_ | refine s_loadBs ?_ | refine s_loadHs ?_ | refine s_rem ?_ | refine s_eql ?_ | refine s_sliceHi ?_ | refine s_sliceLo ?_ | refine s_quo ?_ | refine a7 ?_ | refine a8 ?_ | refine a9 ?_ | refine RW.storeR rfl rfl rfl rfl (by first | rfl | (simp [allOne, cellsL, one1]; done) | (simp [allOne, cellsL, one1]; first | assumption | (refine ⟨?_, ?_⟩ <;> assumption))) rfl ?_ | refine a10 ?_ | refine RW.storeR1 rfl rfl (by first | rfl | exact IsSl.one1 (by assumption) | exact IsSl.one1 (SliceRep.isSl (by assumption))) rfl rfl ?_)
        refine Runs.regionD _ _ [12] (fun x hx => List.mem_cons_of_mem _ hx) (List.Sublist.refl _) (by kernel_rfl) ?_
        (first | refine t_fieldB 0 ?_ | refine t_fieldV 0 ?_)
        (first | refine t_loadB 1 ?_ | refine t_loadH 1 ?_ | refine t_loadR 1 ?_)
        refine d2 2 ?_
        (first | refine t_index 3 ?_ | refine t_indexR 3 ?_)
        (first | refine t_fieldB 4 ?_ | refine t_fieldV 4 ?_)
        (first | refine t_loadB 5 ?_ | refine t_loadH 5 ?_ | refine t_loadR 5 ?_)
        (first | refine t_fieldB 6 ?_ | refine t_fieldV 6 ?_)
        (first | refine t_loadB 7 ?_ | refine t_loadH 7 ?_ | refine t_loadR 7 ?_)
        refine t_convI 8 ?_
        refine t_addI 9 ?_
        (first | refine t_index 10 ?_ | refine t_indexR 10 ?_)
        (first | refine t_fieldB 11 ?_ | refine t_fieldV 11 ?_)
        (first | refine DW.storeR 12 rfl (by kernel_rfl) rfl rfl rfl (cellsQ_put (q' := (q.1, q.2.1 + sb, q.2.2)) hqi rfl (by omega)) rfl (by first | rfl | (simp [allOne, cellsL, one1]; done) | (simp [allOne, cellsL, one1]; first | assumption | (refine ⟨?_, ?_⟩ <;> assumption))) rfl ?_ | refine DW.storeR1 12 rfl (by kernel_rfl) rfl rfl rfl (by first | rfl | exact IsSl.one1 (by assumption) | exact IsSl.one1 (SliceRep.isSl (by assumption))) (cellsQ_put (q' := (q.1, q.2.1 + sb, q.2.2)) hqi rfl (by omega)) rfl ?_)
        refine DW.done (by kernel_rfl) ?_
        refine Runs.rowSl vL (fun hsv hov => ?_)
        repeat (first | refine a1 ?_ | refine a3 ?_ | refine a4 ?_ | refine a5 ?_ | refine a6 ?_ | refine s_fieldB ?_ | refine s_fieldV ?_ | refine s_loadB ?_ | refine s_loadH ?_ | refine s_loadR ?_ | refine s_build ?_ | refine s_len ?_ | refine s_lenR ?_ | refine s_index ?_ | refine s_indexR ?_ | refine s_addI ?_ | refine s_convI ?_ | refine s_loadBs ?_ | refine s_loadHs ?_ | refine s_rem ?_ | refine s_eql ?_ | refine s_sliceHi ?_ | refine s_sliceLo ?_ | refine s_quo ?_ | refine a7 ?_ | refine a8 ?_ | refine a9 ?_ | refine RW.storeR rfl rfl rfl rfl (by first | rfl | (simp [allOne, cellsL, one1]; done) | (simp [allOne, cellsL, one1]; first | assumption | (refine ⟨?_, ?_⟩ <;> assumption))) rfl ?_ | refine a10 ?_ | refine RW.storeR1 rfl rfl (by first | rfl | exact IsSl.one1 (by assumption) | exact IsSl.one1 (SliceRep.isSl (by assumption))) rfl rfl ?_)
        refine Runs.freeze (H := HQ) vL hM (fun HF hleF hsF hcF => ?_)
        refine Runs.retC Try.func19 Try.results19 rfl (fun w hm => hR _ w _ HF _ (by simp) ((hleQ.trans hleF)) ?_ hm)
        exact ⟨vL, pw, ((qs.set i (q.1, q.2.1 + sb, q.2.2)) : List Qd).map toC, rfl, SliceRep.of_row hsF (by simp; try omega) ((cellsQ_rep (qs := (qs.set i (q.1, q.2.1 + sb, q.2.2))) (fun p hp => (mem_set hp).elim (fun h => hqr p h) (fun h => by subst h; exact hqr q hqm))).mono hleF) (Snap.le.refl _) hcF, okP_of (qs := (qs.set i (q.1, q.2.1 + sb, q.2.2))) (by simp; omega) (fun p hp => (mem_set hp).elim (fun h => hqok1 p h) (fun h => by subst h; exact ⟨by dsimp only; omega, by dsimp only; omega, by dsimp only; omega, fun j hj => by have := hqo.2.2.2 j hj; omega⟩))⟩
      · repeat (first | refine a1 ?_ | refine a3 ?_ | refine a4 ?_ | refine a5 ?_ | refine a6 ?_ | refine s_fieldB ?_ | refine s_fieldV ?_ | refine s_loadB ?_ | refine s_loadH ?_ | refine s_loadR ?_ | refine s_build ?_ | refine s_len ?_ | refine s_lenR ?_ | refine s_index ?_ | refine s_indexR ?_ | refine s_addI ?_ | refine s_convI ?_ | refine s_loadBs ?_ | refine s_loadHs ?_ | refine s_rem ?_ | refine s_eql ?_ | refine s_sliceHi ?_ | refine s_sliceLo ?_ | refine s_quo ?_ | refine a7 ?_ | refine a8 ?_ | refine a9 ?_ | refine RW.storeR rfl rfl rfl rfl (by first | rfl | (simp [allOne, cellsL, one1]; done) | (simp [allOne, cellsL, one1]; first | assumption | (refine ⟨?_, ?_⟩ <;> assumption))) rfl ?_ | refine a10 ?_ | refine RW.storeR1 rfl rfl (by first | rfl | exact IsSl.one1 (by assumption) | exact IsSl.one1 (SliceRep.isSl (by assumption))) rfl rfl ?_)
        refine Runs.cond_d rfl (fun w1 => ?_) (fun w1 => ?_)
        · refine Runs.perm (O' := .row 3 1 q.1 q.2.2.length (encI q.2.2) :: (.blk b10 62 [q.1, .int .i64 q.2.1] :: .row 62 2 vL qs.length (cellsQ qs) :: .blk b5 44 [vL, .bool pw] :: .blk b4 44 [.slice none 0 0, .bool false] :: .blk b3 50 [.int .u8 sw, .int .u8 si, .int .u8 sk, .int .i8 sb] :: .blk b2 44 [vp, .bool pw] :: rowsQ (qs.eraseIdx i))) ((List.Perm.append_left [_, _, _, _, _, _] (rowsQ_at hqi)).trans (List.perm_middle (l₁ := [_, _, _, _, _, _]))) ?_
          repeat (first | refine a1 ?_ | refine a3 ?_ | refine a4 ?_ | refine a5 ?_ | refine a6 ?_ | refine s_fieldB ?_ | refine s_fieldV ?_ | refine s_loadB ?_ | refine s_loadH ?_ | refine s_loadR ?_ | refine s_build ?_ | refine s_len ?_ | refine s_lenR ?_ | refine s_index ?_ | refine s_indexR ?_ | refine s_addI ?_ | refine s_convI ?_ | refine s_loadBs ?_ | refine s_loadHs ?_ | refine s_rem ?_ | refine s_eql ?_ | refine s_sliceHi ?_ | refine s_sliceLo ?_ | refine s_quo ?_ | refine a7 ?_ | refine a8 ?_ | refine a9 ?_ | refine RW.storeR rfl rfl rfl rfl (by first | rfl | (simp [allOne, cellsL, one1]; done) | (simp [allOne, cellsL, one1]; first | assumption | (refine ⟨?_, ?_⟩ <;> assumption))) rfl ?_ | refine a10 ?_ | refine RW.storeR1 rfl rfl (by first | rfl | exact IsSl.one1 (by assumption) | exact IsSl.one1 (SliceRep.isSl (by assumption))) rfl rfl ?_)
          refine Runs.regionD _ (.blk b10 62 [q.1, .int .i64 q.2.1] :: .blk b5 44 [vL, .bool pw] :: .blk b4 44 [.slice none 0 0, .bool false] :: .blk b3 50 [.int .u8 sw, .int .u8 si, .int .u8 sk, .int .i8 sb] :: .blk b2 44 [vp, .bool pw] :: rowsQ (qs.eraseIdx i)) [12] (fun x hx => List.mem_cons_of_mem _ hx) SubO.h (by kernel_rfl) ?_
          (first | refine t_fieldB 0 ?_ | refine t_fieldV 0 ?_)
          (first | refine t_loadB 1 ?_ | refine t_loadH 1 ?_ | refine t_loadR 1 ?_)
          refine d2 2 ?_
          (first | refine t_fieldB 3 ?_ | refine t_fieldV 3 ?_)
          (first | refine t_loadB 4 ?_ | refine t_loadH 4 ?_ | refine t_loadR 4 ?_)
          (first | refine t_fieldB 5 ?_ | refine t_fieldV 5 ?_)
          (first | refine t_loadB 6 ?_ | refine t_loadH 6 ?_ | refine t_loadR 6 ?_)
          refine t_convI 7 ?_
          refine DW.buildSlice 8 rfl (by kernel_rfl) rfl rfl rfl rfl rfl rfl rfl (fun v111 hv111 => ?_)
          refine DW.appendR 9 rfl (by kernel_rfl) rfl rfl (by assumption) rfl rfl rfl (by decide) (by omega) (by omega) (fun _ => inferInstance) rfl rfl (fun _ => inferInstance) inferInstance (fun v112 hv112 => ?_)
          (first | refine t_index 10 ?_ | refine t_indexR 10 ?_)
          (first | refine t_fieldB 11 ?_ | refine t_fieldV 11 ?_)
          (first | refine DW.storeR 12 rfl (by kernel_rfl) rfl rfl rfl (cellsQ_put (q' := (v112, q.2.1, q.2.2 ++ [sb])) hqi rfl (by omega)) rfl (by first | rfl | (simp [allOne, cellsL, one1]; done) | (simp [allOne, cellsL, one1]; first | assumption | (refine ⟨?_, ?_⟩ <;> assumption))) rfl ?_ | refine DW.storeR1 12 rfl (by kernel_rfl) rfl rfl rfl (by first | rfl | exact IsSl.one1 (by assumption) | exact IsSl.one1 (SliceRep.isSl (by assumption))) (cellsQ_put (q' := (v112, q.2.1, q.2.2 ++ [sb])) hqi rfl (by omega)) rfl ?_)
          refine DW.done (by kernel_rfl) ?_
          have hen : encI (q.2.2 ++ [sb]) = encI q.2.2 ++ [.int .i64 sb] := by simp [encI]
          have hpm : (Own.row 3 1 v112 (q.2.2.length + 1) (encI q.2.2 ++ [.int .i64 sb]) :: rowsQ (qs.eraseIdx i)).Perm (rowsQ (qs.set i (v112, q.2.1, q.2.2 ++ [sb]))) := by
            have := (rowsQ_set (q := (v112, q.2.1, q.2.2 ++ [sb])) hil).symm
            dsimp only at this
            rw [hen, List.length_append] at this
            exact this
          refine Runs.weak (Hs' := [H]) (O' := .row 3 1 v112 (q.2.2.length + 1) (encI q.2.2 ++ [.int .i64 sb]) :: .row 62 2 vL qs.length (cellsQ (qs.set i (v112, q.2.1, q.2.2 ++ [sb]))) :: .blk b5 44 [vL, .bool pw] :: .blk b4 44 [.slice none 0 0, .bool false] :: .blk b3 50 [.int .u8 sw, .int .u8 si, .int .u8 sk, .int .i8 sb] :: .blk b2 44 [vp, .bool pw] :: rowsQ (qs.eraseIdx i)) (l' := [(4, .pointer (some ⟨b4, 0, none⟩)), (5, .pointer (some ⟨b5, 0, none⟩))]) ?_ (by repeat (first | exact trivial | refine And.intro rfl ?_)) (fun x hx => List.mem_cons_of_mem _ (SubH.h x hx)) (by repeat (first | exact List.nil_sublist _ | exact List.Sublist.refl _ | refine List.Sublist.cons_cons _ ?_ | refine List.Sublist.cons _ ?_))
          refine Runs.perm ((List.perm_middle (l₁ := [_, _, _, _, _])).symm.trans (List.Perm.append_left [_, _, _, _, _] hpm)) ?_
          refine Runs.perm (O' := [.row 62 2 vL qs.length (cellsQ (qs.set i (v112, q.2.1, q.2.2 ++ [sb]))), .blk b5 44 [vL, .bool pw], .blk b4 44 [.slice none 0 0, .bool false], .blk b3 50 [.int .u8 sw, .int .u8 si, .int .u8 sk, .int .i8 sb], .blk b2 44 [vp, .bool pw]] ++ rowsQ (qs.set i (v112, q.2.1, q.2.2 ++ [sb]))) (List.Perm.refl _) ?_
          refine Runs.freezeQ (H := H) (qs.set i (v112, q.2.1, q.2.2 ++ [sb])) hM (fun HQ hleQ hqr => ?_)
          refine Runs.rowSl vL (fun hsv hov => ?_)
          repeat (first | refine a1 ?_ | refine a3 ?_ | refine a4 ?_ | refine a5 ?_ | refine a6 ?_ | refine s_fieldB ?_ | refine s_fieldV ?_ | refine s_loadB ?_ | refine s_loadH ?_ | refine s_loadR ?_ | refine s_build ?_ | refine s_len ?_ | refine s_lenR ?_ | refine s_index ?_ | refine s_indexR ?_ | refine s_addI ?_ | refine s_convI ?_ | refine s_loadBs ?_ | refine s_loadHs ?_ | refine s_rem ?_ | refine s_eql ?_ | refine s_sliceHi ?_ | refine s_sliceLo ?_ | refine s_quo ?_ | refine a7 ?_ | refine a8 ?_ | refine a9 ?_ | refine RW.storeR rfl rfl rfl rfl (by first | rfl | (simp [allOne, cellsL, one1]; done) | (simp [allOne, cellsL, one1]; first | assumption | (refine ⟨?_, ?_⟩ <;> assumption))) rfl ?_ | refine a10 ?_ | refine RW.storeR1 rfl rfl (by first | rfl | exact IsSl.one1 (by assumption) | exact IsSl.one1 (SliceRep.isSl (by assumption))) rfl rfl ?_)
          refine Runs.freeze (H := HQ) vL hM (fun HF hleF hsF hcF => ?_)
          refine Runs.retC Try.func19 Try.results19 rfl (fun w hm => hR _ w _ HF _ (by simp) ((hleQ.trans hleF)) ?_ hm)
          exact ⟨vL, pw, ((qs.set i (v112, q.2.1, q.2.2 ++ [sb])) : List Qd).map toC, rfl, SliceRep.of_row hsF (by simp; try omega) ((cellsQ_rep (qs := (qs.set i (v112, q.2.1, q.2.2 ++ [sb]))) hqr).mono hleF) (Snap.le.refl _) hcF, okP_of (qs := (qs.set i (v112, q.2.1, q.2.2 ++ [sb]))) (by simp; omega) (fun p hp => (mem_set hp).elim (fun h => hqok1 p h) (fun h => by subst h; exact ⟨by simp; omega, by dsimp only; omega, by dsimp only; omega, fun j hj => (List.mem_append.1 hj).elim (fun h => by have := hqo.2.2.2 j h; omega) (fun h => by rw [List.mem_singleton.1 h]; omega)⟩))⟩
        · repeat (first | refine a1 ?_ | refine a3 ?_ | refine a4 ?_ | refine a5 ?_ | refine a6 ?_ | refine s_fieldB ?_ | refine s_fieldV ?_ | refine s_loadB ?_ | refine s_loadH ?_ | refine s_loadR ?_ | refine s_build ?_ | refine s_len ?_ | refine s_lenR ?_ | refine s_index ?_ | refine s_indexR ?_ | refine s_addI ?_ | refine s_convI ?_ | refine s_loadBs ?_ | refine s_loadHs ?_ | refine s_rem ?_ | refine s_eql ?_ | refine s_sliceHi ?_ | refine s_sliceLo ?_ | refine s_quo ?_ | refine a7 ?_ | refine a8 ?_ | refine a9 ?_ | refine RW.storeR rfl rfl rfl rfl (by first | rfl | (simp [allOne, cellsL, one1]; done) | (simp [allOne, cellsL, one1]; first | assumption | (refine ⟨?_, ?_⟩ <;> assumption))) rfl ?_ | refine a10 ?_ | refine RW.storeR1 rfl rfl (by first | rfl | exact IsSl.one1 (by assumption) | exact IsSl.one1 (SliceRep.isSl (by assumption))) rfl rfl ?_)
          refine Runs.cond_d rfl (fun w2 => ?_) (fun w2 => ?_)
          · refine Runs.perm (O' := .row 3 1 q.1 q.2.2.length (encI q.2.2) :: (.blk b10 62 [q.1, .int .i64 q.2.1] :: .row 62 2 vL qs.length (cellsQ qs) :: .blk b5 44 [vL, .bool pw] :: .blk b4 44 [.slice none 0 0, .bool false] :: .blk b3 50 [.int .u8 sw, .int .u8 si, .int .u8 sk, .int .i8 sb] :: .blk b2 44 [vp, .bool pw] :: rowsQ (qs.eraseIdx i))) ((List.Perm.append_left [_, _, _, _, _, _] (rowsQ_at hqi)).trans (List.perm_middle (l₁ := [_, _, _, _, _, _]))) ?_
            have hqb := hqs1.bound
            repeat (first | refine a1 ?_ | refine a3 ?_ | refine a4 ?_ | refine a5 ?_ | refine a6 ?_ | refine s_fieldB ?_ | refine s_fieldV ?_ | refine s_loadB ?_ | refine s_loadH ?_ | refine s_loadR ?_ | refine s_build ?_ | refine s_len ?_ | refine s_lenR ?_ | refine s_index ?_ | refine s_indexR ?_ | refine s_addI ?_ | refine s_convI ?_ | refine s_loadBs ?_ | refine s_loadHs ?_ | refine s_rem ?_ | refine s_eql ?_ | refine s_sliceHi ?_ | refine s_sliceLo ?_ | refine s_quo ?_ | refine a7 ?_ | refine a8 ?_ | refine a9 ?_ | refine RW.storeR rfl rfl rfl rfl (by first | rfl | (simp [allOne, cellsL, one1]; done) | (simp [allOne, cellsL, one1]; first | assumption | (refine ⟨?_, ?_⟩ <;> assumption))) rfl ?_ | refine a10 ?_ | refine RW.storeR1 rfl rfl (by first | rfl | exact IsSl.one1 (by assumption) | exact IsSl.one1 (SliceRep.isSl (by assumption))) rfl rfl ?_)
            refine Runs.cond_d rfl (fun hc => ?_) (fun hc => ?_)
            · obtain ⟨kk, hkk⟩ : ∃ kk : Nat, sk % (q.2.2.length : Int) = (kk : Int) := ⟨(sk % (q.2.2.length : Int)).toNat, by
                have := Int.emod_nonneg sk (b := (q.2.2.length : Int)) (by omega)
                omega⟩
              have hkl2 : kk < q.2.2.length := by
                have := Int.emod_lt_of_pos sk (b := (q.2.2.length : Int)) (by omega)
                omega
              obtain ⟨y, hy⟩ : ∃ y, q.2.2[kk]? = some y := ⟨_, List.getElem?_eq_getElem hkl2⟩
              have hyo := hqo.2.2.2 y (List.mem_of_getElem? hy)
              have hya := encI_get hy
              repeat (first | refine a1 ?_ | refine a3 ?_ | refine a4 ?_ | refine a5 ?_ | refine a6 ?_ | refine s_fieldB ?_ | refine s_fieldV ?_ | refine s_loadB ?_ | refine s_loadH ?_ | refine s_loadR ?_ | refine s_build ?_ | refine s_len ?_ | refine s_lenR ?_ | refine s_index ?_ | refine s_indexR ?_ | refine s_addI ?_ | refine s_convI ?_ | refine s_loadBs ?_ | refine s_loadHs ?_ | refine s_rem ?_ | refine s_eql ?_ | refine s_sliceHi ?_ | refine s_sliceLo ?_ | refine s_quo ?_ | refine a7 ?_ | refine a8 ?_ | refine a9 ?_ | refine RW.storeR rfl rfl rfl rfl (by first | rfl | (simp [allOne, cellsL, one1]; done) | (simp [allOne, cellsL, one1]; first | assumption | (refine ⟨?_, ?_⟩ <;> assumption))) rfl ?_ | refine a10 ?_ | refine RW.storeR1 rfl rfl (by first | rfl | exact IsSl.one1 (by assumption) | exact IsSl.one1 (SliceRep.isSl (by assumption))) rfl rfl ?_)
              refine Runs.regionD _ _ [16] (fun x hx => List.mem_cons_of_mem _ hx) (List.Sublist.refl _) (by kernel_rfl) ?_
              (first | refine t_fieldB 0 ?_ | refine t_fieldV 0 ?_)
              (first | refine t_loadB 1 ?_ | refine t_loadH 1 ?_ | refine t_loadR 1 ?_)
              (first | refine t_fieldB 2 ?_ | refine t_fieldV 2 ?_)
              (first | refine t_loadB 3 ?_ | refine t_loadH 3 ?_ | refine t_loadR 3 ?_)
              refine t_convI 4 ?_
              (first | refine t_fieldB 5 ?_ | refine t_fieldV 5 ?_)
              (first | refine t_loadB 6 ?_ | refine t_loadH 6 ?_ | refine t_loadR 6 ?_)
              (first | refine t_len 7 ?_ | refine t_lenR 7 ?_)
              refine t_rem 8 ?_
              rw [hkk]
              (first | refine t_index 9 ?_ | refine t_indexR 9 ?_)
              (first | refine t_loadB 10 ?_ | refine t_loadH 10 ?_ | refine t_loadR 10 ?_)
              (first | refine t_fieldB 11 ?_ | refine t_fieldV 11 ?_)
              (first | refine t_loadB 12 ?_ | refine t_loadH 12 ?_ | refine t_loadR 12 ?_)
              refine t_convI 13 ?_
              refine t_addI 14 ?_
              (first | refine t_index 15 ?_ | refine t_indexR 15 ?_)
              (first | refine DW.storeR 16 rfl (by kernel_rfl) rfl rfl rfl (encI_put (y := y + sb) hkl2) rfl (by first | rfl | (simp [allOne, cellsL, one1]; done) | (simp [allOne, cellsL, one1]; first | assumption | (refine ⟨?_, ?_⟩ <;> assumption))) rfl ?_ | refine DW.storeR1 16 rfl (by kernel_rfl) rfl rfl rfl (by first | rfl | exact IsSl.one1 (by assumption) | exact IsSl.one1 (SliceRep.isSl (by assumption))) (encI_put (y := y + sb) hkl2) rfl ?_)
              refine DW.done (by kernel_rfl) ?_
              have hsm := cellsQ_same (q' := (q.1, q.2.1, q.2.2.set kk (y + sb))) hqi rfl rfl
              have hpm : (Own.row 3 1 q.1 q.2.2.length (encI (q.2.2.set kk (y + sb))) :: rowsQ (qs.eraseIdx i)).Perm (rowsQ (qs.set i (q.1, q.2.1, q.2.2.set kk (y + sb)))) := by
                have := (rowsQ_set (q := (q.1, q.2.1, q.2.2.set kk (y + sb))) hil).symm
                dsimp only at this
                rw [List.length_set] at this
                exact this
              rw [← hsm]
              refine Runs.weak (Hs' := [H]) (O' := .row 3 1 q.1 q.2.2.length (encI (q.2.2.set kk (y + sb))) :: .row 62 2 vL qs.length (cellsQ (qs.set i (q.1, q.2.1, q.2.2.set kk (y + sb)))) :: .blk b5 44 [vL, .bool pw] :: .blk b4 44 [.slice none 0 0, .bool false] :: .blk b3 50 [.int .u8 sw, .int .u8 si, .int .u8 sk, .int .i8 sb] :: .blk b2 44 [vp, .bool pw] :: rowsQ (qs.eraseIdx i)) (l' := [(4, .pointer (some ⟨b4, 0, none⟩)), (5, .pointer (some ⟨b5, 0, none⟩))]) ?_ (by repeat (first | exact trivial | refine And.intro rfl ?_)) (fun x hx => List.mem_cons_of_mem _ (SubH.h x hx)) (by repeat (first | exact List.nil_sublist _ | exact List.Sublist.refl _ | refine List.Sublist.cons_cons _ ?_ | refine List.Sublist.cons _ ?_))
              refine Runs.perm ((List.perm_middle (l₁ := [_, _, _, _, _])).symm.trans (List.Perm.append_left [_, _, _, _, _] hpm)) ?_
              refine Runs.perm (O' := [.row 62 2 vL qs.length (cellsQ (qs.set i (q.1, q.2.1, q.2.2.set kk (y + sb)))), .blk b5 44 [vL, .bool pw], .blk b4 44 [.slice none 0 0, .bool false], .blk b3 50 [.int .u8 sw, .int .u8 si, .int .u8 sk, .int .i8 sb], .blk b2 44 [vp, .bool pw]] ++ rowsQ (qs.set i (q.1, q.2.1, q.2.2.set kk (y + sb)))) (List.Perm.refl _) ?_
              refine Runs.freezeQ (H := H) (qs.set i (q.1, q.2.1, q.2.2.set kk (y + sb))) hM (fun HQ hleQ hqr => ?_)
              refine Runs.rowSl vL (fun hsv hov => ?_)
              repeat (first | refine a1 ?_ | refine a3 ?_ | refine a4 ?_ | refine a5 ?_ | refine a6 ?_ | refine s_fieldB ?_ | refine s_fieldV ?_ | refine s_loadB ?_ | refine s_loadH ?_ | refine s_loadR ?_ | refine s_build ?_ | refine s_len ?_ | refine s_lenR ?_ | refine s_index ?_ | refine s_indexR ?_ | refine s_addI ?_ | refine s_convI ?_ | refine s_loadBs ?_ | refine s_loadHs ?_ | refine s_rem ?_ | refine s_eql ?_ | refine s_sliceHi ?_ | refine s_sliceLo ?_ | refine s_quo ?_ | refine a7 ?_ | refine a8 ?_ | refine a9 ?_ | refine RW.storeR rfl rfl rfl rfl (by first | rfl | (simp [allOne, cellsL, one1]; done) | (simp [allOne, cellsL, one1]; first | assumption | (refine ⟨?_, ?_⟩ <;> assumption))) rfl ?_ | refine a10 ?_ | refine RW.storeR1 rfl rfl (by first | rfl | exact IsSl.one1 (by assumption) | exact IsSl.one1 (SliceRep.isSl (by assumption))) rfl rfl ?_)
              refine Runs.freeze (H := HQ) vL hM (fun HF hleF hsF hcF => ?_)
              refine Runs.retC Try.func19 Try.results19 rfl (fun w hm => hR _ w _ HF _ (by simp) ((hleQ.trans hleF)) ?_ hm)
              exact ⟨vL, pw, ((qs.set i (q.1, q.2.1, q.2.2.set kk (y + sb))) : List Qd).map toC, rfl, SliceRep.of_row hsF (by simp; try omega) ((cellsQ_rep (qs := (qs.set i (q.1, q.2.1, q.2.2.set kk (y + sb)))) hqr).mono hleF) (Snap.le.refl _) hcF, okP_of (qs := (qs.set i (q.1, q.2.1, q.2.2.set kk (y + sb)))) (by simp; omega) (fun p hp => (mem_set hp).elim (fun h => hqok1 p h) (fun h => by subst h; exact ⟨by simp; omega, by dsimp only; omega, by dsimp only; omega, fun j hj => (List.mem_or_eq_of_mem_set hj).elim (fun h => by have := hqo.2.2.2 j h; omega) (fun h => by rw [h]; omega)⟩))⟩
            · refine Runs.weak (Hs' := [H]) (O' := .row 3 1 q.1 q.2.2.length (encI q.2.2) :: .row 62 2 vL qs.length (cellsQ qs) :: .blk b5 44 [vL, .bool pw] :: .blk b4 44 [.slice none 0 0, .bool false] :: .blk b3 50 [.int .u8 sw, .int .u8 si, .int .u8 sk, .int .i8 sb] :: .blk b2 44 [vp, .bool pw] :: rowsQ (qs.eraseIdx i)) (l' := [(4, .pointer (some ⟨b4, 0, none⟩)), (5, .pointer (some ⟨b5, 0, none⟩))]) ?_ (by repeat (first | exact trivial | refine And.intro rfl ?_)) (fun x hx => List.mem_cons_of_mem _ (SubH.h x hx)) (by repeat (first | exact List.nil_sublist _ | exact List.Sublist.refl _ | refine List.Sublist.cons_cons _ ?_ | refine List.Sublist.cons _ ?_))
              refine Runs.perm ((List.perm_middle (l₁ := [_, _, _, _, _])).symm.trans (List.Perm.append_left [_, _, _, _, _] (rowsQ_at hqi).symm)) ?_
              refine Runs.perm (O' := [.row 62 2 vL qs.length (cellsQ qs), .blk b5 44 [vL, .bool pw], .blk b4 44 [.slice none 0 0, .bool false], .blk b3 50 [.int .u8 sw, .int .u8 si, .int .u8 sk, .int .i8 sb], .blk b2 44 [vp, .bool pw]] ++ rowsQ qs) (List.Perm.refl _) ?_
              refine Runs.freezeQ (H := H) qs hM (fun HQ hleQ hqr => ?_)
              refine Runs.rowSl vL (fun hsv hov => ?_)
              repeat (first | refine a1 ?_ | refine a3 ?_ | refine a4 ?_ | refine a5 ?_ | refine a6 ?_ | refine s_fieldB ?_ | refine s_fieldV ?_ | refine s_loadB ?_ | refine s_loadH ?_ | refine s_loadR ?_ | refine s_build ?_ | refine s_len ?_ | refine s_lenR ?_ | refine s_index ?_ | refine s_indexR ?_ | refine s_addI ?_ | refine s_convI ?_ | refine s_loadBs ?_ | refine s_loadHs ?_ | refine s_rem ?_ | refine s_eql ?_ | refine s_sliceHi ?_ | refine s_sliceLo ?_ | refine s_quo ?_ | refine a7 ?_ | refine a8 ?_ | refine a9 ?_ | refine RW.storeR rfl rfl rfl rfl (by first | rfl | (simp [allOne, cellsL, one1]; done) | (simp [allOne, cellsL, one1]; first | assumption | (refine ⟨?_, ?_⟩ <;> assumption))) rfl ?_ | refine a10 ?_ | refine RW.storeR1 rfl rfl (by first | rfl | exact IsSl.one1 (by assumption) | exact IsSl.one1 (SliceRep.isSl (by assumption))) rfl rfl ?_)
              refine Runs.freeze (H := HQ) vL hM (fun HF hleF hsF hcF => ?_)
              refine Runs.retC Try.func19 Try.results19 rfl (fun w hm => hR _ w _ HF _ (by simp) ((hleQ.trans hleF)) ?_ hm)
              exact ⟨vL, pw, (qs : List Qd).map toC, rfl, SliceRep.of_row hsF (by simp; try omega) ((cellsQ_rep (qs := qs) hqr).mono hleF) (Snap.le.refl _) hcF, okP_of (qs := qs) (by omega) hqok1⟩
          · skip
            refine Runs.perm (O' := [.blk b10 62 [q.1, .int .i64 q.2.1], .row 62 2 vL qs.length (cellsQ qs), .blk b5 44 [vL, .bool pw], .blk b4 44 [.slice none 0 0, .bool false], .blk b3 50 [.int .u8 sw, .int .u8 si, .int .u8 sk, .int .i8 sb], .blk b2 44 [vp, .bool pw]] ++ rowsQ qs) (List.Perm.refl _) ?_
            refine Runs.freezeQ (H := H) qs hM (fun HQ hleQ hqr => ?_)
            repeat (first | refine a1 ?_ | refine a3 ?_ | refine a4 ?_ | refine a5 ?_ | refine a6 ?_ | refine s_fieldB ?_ | refine s_fieldV ?_ | refine s_loadB ?_ | refine s_loadH ?_ | refine s_loadR ?_ | refine s_build ?_ | refine s_len ?_ | refine s_lenR ?_ | refine s_index ?_ | refine s_indexR ?_ | refine s_addI ?_ | refine s_convI ?_ | refine s_loadBs ?_ | refine s_loadHs ?_ | refine s_rem ?_ | refine s_eql ?_ | refine s_sliceHi ?_ | refine s_sliceLo ?_ | refine s_quo ?_ | refine a7 ?_ | refine a8 ?_ | refine a9 ?_ | refine RW.storeR rfl rfl rfl rfl (by first | rfl | (simp [allOne, cellsL, one1]; done) | (simp [allOne, cellsL, one1]; first | assumption | (refine ⟨?_, ?_⟩ <;> assumption))) rfl ?_ | refine a10 ?_ | refine RW.storeR1 rfl rfl (by first | rfl | exact IsSl.one1 (by assumption) | exact IsSl.one1 (SliceRep.isSl (by assumption))) rfl rfl ?_)
            refine Runs.cond_d rfl (fun w3 => ?_) (fun w3 => ?_)
            · repeat (first | refine a1 ?_ | refine a3 ?_ | refine a4 ?_ | refine a5 ?_ | refine a6 ?_ | refine s_fieldB ?_ | refine s_fieldV ?_ | refine s_loadB ?_ | refine s_loadH ?_ | refine s_loadR ?_ | refine s_build ?_ | refine s_len ?_ | refine s_lenR ?_ | refine s_index ?_ | refine s_indexR ?_ | refine s_addI ?_ | refine s_convI ?_ | refine s_loadBs ?_ | refine s_loadHs ?_ | refine s_rem ?_ | refine s_eql ?_ | refine s_sliceHi ?_ | refine s_sliceLo ?_ | refine s_quo ?_ | refine a7 ?_ | refine a8 ?_ | refine a9 ?_ | refine RW.storeR rfl rfl rfl rfl (by first | rfl | (simp [allOne, cellsL, one1]; done) | (simp [allOne, cellsL, one1]; first | assumption | (refine ⟨?_, ?_⟩ <;> assumption))) rfl ?_ | refine a10 ?_ | refine RW.storeR1 rfl rfl (by first | rfl | exact IsSl.one1 (by assumption) | exact IsSl.one1 (SliceRep.isSl (by assumption))) rfl rfl ?_)
              refine Runs.regionD _ (.blk b10 62 [q.1, .int .i64 q.2.1] :: [.blk b5 44 [vL, .bool pw], .blk b4 44 [.slice none 0 0, .bool false], .blk b3 50 [.int .u8 sw, .int .u8 si, .int .u8 sk, .int .i8 sb], .blk b2 44 [vp, .bool pw]]) [11] (fun x hx => List.mem_cons_of_mem _ hx) SubO.h (by kernel_rfl) ?_
              (first | refine t_fieldB 0 ?_ | refine t_fieldV 0 ?_)
              (first | refine t_loadB 1 ?_ | refine t_loadH 1 ?_ | refine t_loadR 1 ?_)
              refine d2 2 ?_
              refine t_sliceHi 3 ?_
              (first | refine t_fieldB 4 ?_ | refine t_fieldV 4 ?_)
              (first | refine t_loadB 5 ?_ | refine t_loadH 5 ?_ | refine t_loadR 5 ?_)
              refine d2 6 ?_
              refine t_addI 7 ?_
              rw [show ((i : Int) + 1) = ((i + 1 : Nat) : Int) from by omega]
              refine t_sliceLo 8 ?_
              refine DW.h 9 true rfl (by kernel_rfl) (HV.appendSelf (v := vL) (i := i) (lo := i + 1) (n := qs.length) rfl rfl hn0 (by omega) (by omega) (cellsQ_one (fun p hp => (hqr p hp).isSl.one1)) rfl (by decide) (by omega) (by omega) (fun _ => inferInstance)) rfl rfl (by simp) ?_
              rintro vN _ _ ⟨rfl, rfl, hvN⟩
              refine ⟨fun _ w hm => hm.sub (fun x hx => List.mem_cons_of_mem _ (SubH.h x hx)) SubO.h, ?_⟩
              have hvN1 := hvN.one1
              (first | refine t_fieldB 10 ?_ | refine t_fieldV 10 ?_)
              (first | refine DW.storeB 11 rfl (by kernel_rfl) rfl rfl rfl rfl (by first | rfl | (simp [allOne, cellsL, one1]; done) | (simp [allOne, cellsL, one1]; first | assumption | (refine ⟨?_, ?_⟩ <;> assumption))) rfl ?_ | refine DW.storeB1 11 rfl (by kernel_rfl) rfl rfl rfl (by first | rfl | exact IsSl.one1 (by assumption) | exact IsSl.one1 (SliceRep.isSl (by assumption))) rfl rfl ?_)
              refine DW.done (by kernel_rfl) ?_
              rw [cellsQ_take qs i (by omega), cellsQ_drop qs (i + 1) (by omega), ← cellsQ_append]
              refine Runs.rowSl vN (fun hsv hov => ?_)
              repeat (first | refine a1 ?_ | refine a3 ?_ | refine a4 ?_ | refine a5 ?_ | refine a6 ?_ | refine s_fieldB ?_ | refine s_fieldV ?_ | refine s_loadB ?_ | refine s_loadH ?_ | refine s_loadR ?_ | refine s_build ?_ | refine s_len ?_ | refine s_lenR ?_ | refine s_index ?_ | refine s_indexR ?_ | refine s_addI ?_ | refine s_convI ?_ | refine s_loadBs ?_ | refine s_loadHs ?_ | refine s_rem ?_ | refine s_eql ?_ | refine s_sliceHi ?_ | refine s_sliceLo ?_ | refine s_quo ?_ | refine a7 ?_ | refine a8 ?_ | refine a9 ?_ | refine RW.storeR rfl rfl rfl rfl (by first | rfl | (simp [allOne, cellsL, one1]; done) | (simp [allOne, cellsL, one1]; first | assumption | (refine ⟨?_, ?_⟩ <;> assumption))) rfl ?_ | refine a10 ?_ | refine RW.storeR1 rfl rfl (by first | rfl | exact IsSl.one1 (by assumption) | exact IsSl.one1 (SliceRep.isSl (by assumption))) rfl rfl ?_)
              refine Runs.freeze (H := HQ) vN hM (fun HF hleF hsF hcF => ?_)
              refine Runs.retC Try.func19 Try.results19 rfl (fun w hm => hR _ w _ HF _ (by simp) ((hleQ.trans hleF)) ?_ hm)
              exact ⟨vN, pw, ((qs.take i ++ qs.drop (i + 1)) : List Qd).map toC, rfl, SliceRep.of_row hsF (by simp; try omega) ((cellsQ_rep (qs := (qs.take i ++ qs.drop (i + 1))) (fun p hp => (List.mem_append.1 hp).elim (fun h => hqr p (List.mem_of_mem_take h)) (fun h => hqr p (List.mem_of_mem_drop h)))).mono hleF) (Snap.le.refl _) hcF, okP_of (qs := (qs.take i ++ qs.drop (i + 1))) (by simp; omega) (fun p hp => (List.mem_append.1 hp).elim (fun h => hqok1 p (List.mem_of_mem_take h)) (fun h => hqok1 p (List.mem_of_mem_drop h)))⟩
            · repeat (first | refine a1 ?_ | refine a3 ?_ | refine a4 ?_ | refine a5 ?_ | refine a6 ?_ | refine s_fieldB ?_ | refine s_fieldV ?_ | refine s_loadB ?_ | refine s_loadH ?_ | refine s_loadR ?_ | refine s_build ?_ | refine s_len ?_ | refine s_lenR ?_ | refine s_index ?_ | refine s_indexR ?_ | refine s_addI ?_ | refine s_convI ?_ | refine s_loadBs ?_ | refine s_loadHs ?_ | refine s_rem ?_ | refine s_eql ?_ | refine s_sliceHi ?_ | refine s_sliceLo ?_ | refine s_quo ?_ | refine a7 ?_ | refine a8 ?_ | refine a9 ?_ | refine RW.storeR rfl rfl rfl rfl (by first | rfl | (simp [allOne, cellsL, one1]; done) | (simp [allOne, cellsL, one1]; first | assumption | (refine ⟨?_, ?_⟩ <;> assumption))) rfl ?_ | refine a10 ?_ | refine RW.storeR1 rfl rfl (by first | rfl | exact IsSl.one1 (by assumption) | exact IsSl.one1 (SliceRep.isSl (by assumption))) rfl rfl ?_)
              refine Runs.cond_d rfl (fun w4 => ?_) (fun w4 => ?_)
              · have hqk1 := (hqr qk hqkm).isSl.one1
                repeat (first | refine a1 ?_ | refine a3 ?_ | refine a4 ?_ | refine a5 ?_ | refine a6 ?_ | refine s_fieldB ?_ | refine s_fieldV ?_ | refine s_loadB ?_ | refine s_loadH ?_ | refine s_loadR ?_ | refine s_build ?_ | refine s_len ?_ | refine s_lenR ?_ | refine s_index ?_ | refine s_indexR ?_ | refine s_addI ?_ | refine s_convI ?_ | refine s_loadBs ?_ | refine s_loadHs ?_ | refine s_rem ?_ | refine s_eql ?_ | refine s_sliceHi ?_ | refine s_sliceLo ?_ | refine s_quo ?_ | refine a7 ?_ | refine a8 ?_ | refine a9 ?_ | refine RW.storeR rfl rfl rfl rfl (by first | rfl | (simp [allOne, cellsL, one1]; done) | (simp [allOne, cellsL, one1]; first | assumption | (refine ⟨?_, ?_⟩ <;> assumption))) rfl ?_ | refine a10 ?_ | refine RW.storeR1 rfl rfl (by first | rfl | exact IsSl.one1 (by assumption) | exact IsSl.one1 (SliceRep.isSl (by assumption))) rfl rfl ?_)
                refine Runs.regionD _ _ [9] (fun x hx => List.mem_cons_of_mem _ hx) (List.Sublist.refl _) (by kernel_rfl) ?_
                (first | refine t_fieldB 0 ?_ | refine t_fieldV 0 ?_)
                (first | refine t_loadB 1 ?_ | refine t_loadH 1 ?_ | refine t_loadR 1 ?_)
                refine d2 2 ?_
                (first | refine t_fieldB 3 ?_ | refine t_fieldV 3 ?_)
                (first | refine t_loadB 4 ?_ | refine t_loadH 4 ?_ | refine t_loadR 4 ?_)
                refine d2 5 ?_
                (first | refine t_index 6 ?_ | refine t_indexR 6 ?_)
                refine DW.q 7 rfl (by kernel_rfl) (QV.loadRs (c := [qk.1, .int .i64 qk.2.1]) rfl (fun j u hu => cellsQ_at hqk hu)) rfl rfl ?_
                (first | refine t_index 8 ?_ | refine t_indexR 8 ?_)
                (first | refine DW.storeR 9 rfl (by kernel_rfl) rfl rfl rfl (cellsQ_put2 (q' := qk) hil) rfl (by first | rfl | (simp [allOne, cellsL, one1]; done) | (simp [allOne, cellsL, one1]; first | assumption | (refine ⟨?_, ?_⟩ <;> assumption))) rfl ?_ | refine DW.storeR1 9 rfl (by kernel_rfl) rfl rfl rfl (by first | rfl | exact IsSl.one1 (by assumption) | exact IsSl.one1 (SliceRep.isSl (by assumption))) (cellsQ_put2 (q' := qk) hil) rfl ?_)
                refine DW.done (by kernel_rfl) ?_
                have hkl3 : kq < (qs.set i qk).length := by simpa using hkl
                repeat (first | refine a1 ?_ | refine a3 ?_ | refine a4 ?_ | refine a5 ?_ | refine a6 ?_ | refine s_fieldB ?_ | refine s_fieldV ?_ | refine s_loadB ?_ | refine s_loadH ?_ | refine s_loadR ?_ | refine s_build ?_ | refine s_len ?_ | refine s_lenR ?_ | refine s_index ?_ | refine s_indexR ?_ | refine s_addI ?_ | refine s_convI ?_ | refine s_loadBs ?_ | refine s_loadHs ?_ | refine s_rem ?_ | refine s_eql ?_ | refine s_sliceHi ?_ | refine s_sliceLo ?_ | refine s_quo ?_ | refine a7 ?_ | refine a8 ?_ | refine a9 ?_ | refine RW.storeR rfl rfl rfl rfl (by first | rfl | (simp [allOne, cellsL, one1]; done) | (simp [allOne, cellsL, one1]; first | assumption | (refine ⟨?_, ?_⟩ <;> assumption))) rfl ?_ | refine a10 ?_ | refine RW.storeR1 rfl rfl (by first | rfl | exact IsSl.one1 (by assumption) | exact IsSl.one1 (SliceRep.isSl (by assumption))) rfl rfl ?_)
                refine RW.storeR rfl rfl (cellsQ_put2 (q' := q) hkl3) rfl (by first | rfl | (simp [allOne, cellsL, one1]; done) | (simp [allOne, cellsL, one1]; first | assumption | (refine ⟨?_, ?_⟩ <;> assumption))) rfl ?_
                repeat (first | refine a1 ?_ | refine a3 ?_ | refine a4 ?_ | refine a5 ?_ | refine a6 ?_ | refine s_fieldB ?_ | refine s_fieldV ?_ | refine s_loadB ?_ | refine s_loadH ?_ | refine s_loadR ?_ | refine s_build ?_ | refine s_len ?_ | refine s_lenR ?_ | refine s_index ?_ | refine s_indexR ?_ | refine s_addI ?_ | refine s_convI ?_ | refine s_loadBs ?_ | refine s_loadHs ?_ | refine s_rem ?_ | refine s_eql ?_ | refine s_sliceHi ?_ | refine s_sliceLo ?_ | refine s_quo ?_ | refine a7 ?_ | refine a8 ?_ | refine a9 ?_ | refine RW.storeR rfl rfl rfl rfl (by first | rfl | (simp [allOne, cellsL, one1]; done) | (simp [allOne, cellsL, one1]; first | assumption | (refine ⟨?_, ?_⟩ <;> assumption))) rfl ?_ | refine a10 ?_ | refine RW.storeR1 rfl rfl (by first | rfl | exact IsSl.one1 (by assumption) | exact IsSl.one1 (SliceRep.isSl (by assumption))) rfl rfl ?_)
                refine Runs.rowSl vL (fun hsv hov => ?_)
                repeat (first | refine a1 ?_ | refine a3 ?_ | refine a4 ?_ | refine a5 ?_ | refine a6 ?_ | refine s_fieldB ?_ | refine s_fieldV ?_ | refine s_loadB ?_ | refine s_loadH ?_ | refine s_loadR ?_ | refine s_build ?_ | refine s_len ?_ | refine s_lenR ?_ | refine s_index ?_ | refine s_indexR ?_ | refine s_addI ?_ | refine s_convI ?_ | refine s_loadBs ?_ | refine s_loadHs ?_ | refine s_rem ?_ | refine s_eql ?_ | refine s_sliceHi ?_ | refine s_sliceLo ?_ | refine s_quo ?_ | refine a7 ?_ | refine a8 ?_ | refine a9 ?_ | refine RW.storeR rfl rfl rfl rfl (by first | rfl | (simp [allOne, cellsL, one1]; done) | (simp [allOne, cellsL, one1]; first | assumption | (refine ⟨?_, ?_⟩ <;> assumption))) rfl ?_ | refine a10 ?_ | refine RW.storeR1 rfl rfl (by first | rfl | exact IsSl.one1 (by assumption) | exact IsSl.one1 (SliceRep.isSl (by assumption))) rfl rfl ?_)
                refine Runs.freeze (H := HQ) vL hM (fun HF hleF hsF hcF => ?_)
                refine Runs.retC Try.func19 Try.results19 rfl (fun w hm => hR _ w _ HF _ (by simp) ((hleQ.trans hleF)) ?_ hm)
                exact ⟨vL, pw, (((qs.set i qk).set kq q) : List Qd).map toC, rfl, SliceRep.of_row hsF (by simp; try omega) ((cellsQ_rep (qs := ((qs.set i qk).set kq q)) (fun p hp => (mem_set hp).elim (fun h => (mem_set h).elim (fun h => hqr p h) (fun h => by subst h; exact hqr _ hqkm)) (fun h => by subst h; exact hqr _ hqm))).mono hleF) (Snap.le.refl _) hcF, okP_of (qs := ((qs.set i qk).set kq q)) (by simp; omega) (fun p hp => (mem_set hp).elim (fun h => (mem_set h).elim (fun h => hqok1 p h) (fun h => by subst h; exact hqok1 _ hqkm)) (fun h => by subst h; exact hqok1 _ hqm))⟩
              · repeat (first | refine a1 ?_ | refine a3 ?_ | refine a4 ?_ | refine a5 ?_ | refine a6 ?_ | refine s_fieldB ?_ | refine s_fieldV ?_ | refine s_loadB ?_ | refine s_loadH ?_ | refine s_loadR ?_ | refine s_build ?_ | refine s_len ?_ | refine s_lenR ?_ | refine s_index ?_ | refine s_indexR ?_ | refine s_addI ?_ | refine s_convI ?_ | refine s_loadBs ?_ | refine s_loadHs ?_ | refine s_rem ?_ | refine s_eql ?_ | refine s_sliceHi ?_ | refine s_sliceLo ?_ | refine s_quo ?_ | refine a7 ?_ | refine a8 ?_ | refine a9 ?_ | refine RW.storeR rfl rfl rfl rfl (by first | rfl | (simp [allOne, cellsL, one1]; done) | (simp [allOne, cellsL, one1]; first | assumption | (refine ⟨?_, ?_⟩ <;> assumption))) rfl ?_ | refine a10 ?_ | refine RW.storeR1 rfl rfl (by first | rfl | exact IsSl.one1 (by assumption) | exact IsSl.one1 (SliceRep.isSl (by assumption))) rfl rfl ?_)
                refine Runs.cond_d rfl (fun w5 => ?_) (fun w5 => ?_)
                · repeat (first | refine a1 ?_ | refine a3 ?_ | refine a4 ?_ | refine a5 ?_ | refine a6 ?_ | refine s_fieldB ?_ | refine s_fieldV ?_ | refine s_loadB ?_ | refine s_loadH ?_ | refine s_loadR ?_ | refine s_build ?_ | refine s_len ?_ | refine s_lenR ?_ | refine s_index ?_ | refine s_indexR ?_ | refine s_addI ?_ | refine s_convI ?_ | refine s_loadBs ?_ | refine s_loadHs ?_ | refine s_rem ?_ | refine s_eql ?_ | refine s_sliceHi ?_ | refine s_sliceLo ?_ | refine s_quo ?_ | refine a7 ?_ | refine a8 ?_ | refine a9 ?_ | refine RW.storeR rfl rfl rfl rfl (by first | rfl | (simp [allOne, cellsL, one1]; done) | (simp [allOne, cellsL, one1]; first | assumption | (refine ⟨?_, ?_⟩ <;> assumption))) rfl ?_ | refine a10 ?_ | refine RW.storeR1 rfl rfl (by first | rfl | exact IsSl.one1 (by assumption) | exact IsSl.one1 (SliceRep.isSl (by assumption))) rfl rfl ?_)
                  refine RW.buildSlice rfl rfl rfl rfl rfl rfl rfl (fun v171 hv171 => ?_)
                  have hq11 := (hqr q hqm).isSl.one1
                  repeat (first | refine a1 ?_ | refine a3 ?_ | refine a4 ?_ | refine a5 ?_ | refine a6 ?_ | refine s_fieldB ?_ | refine s_fieldV ?_ | refine s_loadB ?_ | refine s_loadH ?_ | refine s_loadR ?_ | refine s_build ?_ | refine s_len ?_ | refine s_lenR ?_ | refine s_index ?_ | refine s_indexR ?_ | refine s_addI ?_ | refine s_convI ?_ | refine s_loadBs ?_ | refine s_loadHs ?_ | refine s_rem ?_ | refine s_eql ?_ | refine s_sliceHi ?_ | refine s_sliceLo ?_ | refine s_quo ?_ | refine a7 ?_ | refine a8 ?_ | refine a9 ?_ | refine RW.storeR rfl rfl rfl rfl (by first | rfl | (simp [allOne, cellsL, one1]; done) | (simp [allOne, cellsL, one1]; first | assumption | (refine ⟨?_, ?_⟩ <;> assumption))) rfl ?_ | refine a10 ?_ | refine RW.storeR1 rfl rfl (by first | rfl | exact IsSl.one1 (by assumption) | exact IsSl.one1 (SliceRep.isSl (by assumption))) rfl rfl ?_)
                  refine RW.appendR rfl rfl (by assumption) rfl (by simp [allOne, cellsL, one1, repL]; exact hq11) rfl (by decide) (by omega) (by omega) (fun _ => inferInstance) rfl rfl (fun v172 hv172 => ?_)
                  have hv1721 := hv172.one1
                  repeat (first | refine a1 ?_ | refine a3 ?_ | refine a4 ?_ | refine a5 ?_ | refine a6 ?_ | refine s_fieldB ?_ | refine s_fieldV ?_ | refine s_loadB ?_ | refine s_loadH ?_ | refine s_loadR ?_ | refine s_build ?_ | refine s_len ?_ | refine s_lenR ?_ | refine s_index ?_ | refine s_indexR ?_ | refine s_addI ?_ | refine s_convI ?_ | refine s_loadBs ?_ | refine s_loadHs ?_ | refine s_rem ?_ | refine s_eql ?_ | refine s_sliceHi ?_ | refine s_sliceLo ?_ | refine s_quo ?_ | refine a7 ?_ | refine a8 ?_ | refine a9 ?_ | refine RW.storeR rfl rfl rfl rfl (by first | rfl | (simp [allOne, cellsL, one1]; done) | (simp [allOne, cellsL, one1]; first | assumption | (refine ⟨?_, ?_⟩ <;> assumption))) rfl ?_ | refine a10 ?_ | refine RW.storeR1 rfl rfl (by first | rfl | exact IsSl.one1 (by assumption) | exact IsSl.one1 (SliceRep.isSl (by assumption))) rfl rfl ?_)
                  simp only [repL, List.nil_append, Nat.zero_add]
                  have hsn : cellsQ qs ++ (q.1 :: .int .i64 q.2.1 :: List.append [] []) = cellsQ (qs ++ [q]) := (cellsQ_snoc qs q).symm
                  rw [hsn]
                  refine Runs.rowSl v172 (fun hsv hov => ?_)
                  repeat (first | refine a1 ?_ | refine a3 ?_ | refine a4 ?_ | refine a5 ?_ | refine a6 ?_ | refine s_fieldB ?_ | refine s_fieldV ?_ | refine s_loadB ?_ | refine s_loadH ?_ | refine s_loadR ?_ | refine s_build ?_ | refine s_len ?_ | refine s_lenR ?_ | refine s_index ?_ | refine s_indexR ?_ | refine s_addI ?_ | refine s_convI ?_ | refine s_loadBs ?_ | refine s_loadHs ?_ | refine s_rem ?_ | refine s_eql ?_ | refine s_sliceHi ?_ | refine s_sliceLo ?_ | refine s_quo ?_ | refine a7 ?_ | refine a8 ?_ | refine a9 ?_ | refine RW.storeR rfl rfl rfl rfl (by first | rfl | (simp [allOne, cellsL, one1]; done) | (simp [allOne, cellsL, one1]; first | assumption | (refine ⟨?_, ?_⟩ <;> assumption))) rfl ?_ | refine a10 ?_ | refine RW.storeR1 rfl rfl (by first | rfl | exact IsSl.one1 (by assumption) | exact IsSl.one1 (SliceRep.isSl (by assumption))) rfl rfl ?_)
                  refine Runs.freeze (H := HQ) v172 hM (fun HF hleF hsF hcF => ?_)
                  refine Runs.retC Try.func19 Try.results19 rfl (fun w hm => hR _ w _ HF _ (by simp) ((hleQ.trans hleF)) ?_ hm)
                  exact ⟨v172, pw, ((qs ++ [q]) : List Qd).map toC, rfl, SliceRep.of_row hsF (by simp; try omega) ((cellsQ_rep (qs := (qs ++ [q])) (fun p hp => (List.mem_append.1 hp).elim (fun h => hqr p h) (fun h => by rw [List.mem_singleton.1 h]; exact hqr q hqm))).mono hleF) (Snap.le.refl _) hcF, okP_of (qs := (qs ++ [q])) (by simp; omega) (fun p hp => (List.mem_append.1 hp).elim (fun h => hqok1 p h) (fun h => by rw [List.mem_singleton.1 h]; exact hqok1 q hqm))⟩
                · repeat (first | refine a1 ?_ | refine a3 ?_ | refine a4 ?_ | refine a5 ?_ | refine a6 ?_ | refine s_fieldB ?_ | refine s_fieldV ?_ | refine s_loadB ?_ | refine s_loadH ?_ | refine s_loadR ?_ | refine s_build ?_ | refine s_len ?_ | refine s_lenR ?_ | refine s_index ?_ | refine s_indexR ?_ | refine s_addI ?_ | refine s_convI ?_ | refine s_loadBs ?_ | refine s_loadHs ?_ | refine s_rem ?_ | refine s_eql ?_ | refine s_sliceHi ?_ | refine s_sliceLo ?_ | refine s_quo ?_ | refine a7 ?_ | refine a8 ?_ | refine a9 ?_ | refine RW.storeR rfl rfl rfl rfl (by first | rfl | (simp [allOne, cellsL, one1]; done) | (simp [allOne, cellsL, one1]; first | assumption | (refine ⟨?_, ?_⟩ <;> assumption))) rfl ?_ | refine a10 ?_ | refine RW.storeR1 rfl rfl (by first | rfl | exact IsSl.one1 (by assumption) | exact IsSl.one1 (SliceRep.isSl (by assumption))) rfl rfl ?_)
                  refine Runs.cond_d rfl (fun w6 => ?_) (fun w6 => ?_)
                  · repeat (first | refine a1 ?_ | refine a3 ?_ | refine a4 ?_ | refine a5 ?_ | refine a6 ?_ | refine s_fieldB ?_ | refine s_fieldV ?_ | refine s_loadB ?_ | refine s_loadH ?_ | refine s_loadR ?_ | refine s_build ?_ | refine s_len ?_ | refine s_lenR ?_ | refine s_index ?_ | refine s_indexR ?_ | refine s_addI ?_ | refine s_convI ?_ | refine s_loadBs ?_ | refine s_loadHs ?_ | refine s_rem ?_ | refine s_eql ?_ | refine s_sliceHi ?_ | refine s_sliceLo ?_ | refine s_quo ?_ | refine a7 ?_ | refine a8 ?_ | refine a9 ?_ | refine RW.storeR rfl rfl rfl rfl (by first | rfl | (simp [allOne, cellsL, one1]; done) | (simp [allOne, cellsL, one1]; first | assumption | (refine ⟨?_, ?_⟩ <;> assumption))) rfl ?_ | refine a10 ?_ | refine RW.storeR1 rfl rfl (by first | rfl | exact IsSl.one1 (by assumption) | exact IsSl.one1 (SliceRep.isSl (by assumption))) rfl rfl ?_)
                    refine Runs.rowSl vL (fun hsv hov => ?_)
                    repeat (first | refine a1 ?_ | refine a3 ?_ | refine a4 ?_ | refine a5 ?_ | refine a6 ?_ | refine s_fieldB ?_ | refine s_fieldV ?_ | refine s_loadB ?_ | refine s_loadH ?_ | refine s_loadR ?_ | refine s_build ?_ | refine s_len ?_ | refine s_lenR ?_ | refine s_index ?_ | refine s_indexR ?_ | refine s_addI ?_ | refine s_convI ?_ | refine s_loadBs ?_ | refine s_loadHs ?_ | refine s_rem ?_ | refine s_eql ?_ | refine s_sliceHi ?_ | refine s_sliceLo ?_ | refine s_quo ?_ | refine a7 ?_ | refine a8 ?_ | refine a9 ?_ | refine RW.storeR rfl rfl rfl rfl (by first | rfl | (simp [allOne, cellsL, one1]; done) | (simp [allOne, cellsL, one1]; first | assumption | (refine ⟨?_, ?_⟩ <;> assumption))) rfl ?_ | refine a10 ?_ | refine RW.storeR1 rfl rfl (by first | rfl | exact IsSl.one1 (by assumption) | exact IsSl.one1 (SliceRep.isSl (by assumption))) rfl rfl ?_)
                    refine Runs.freeze (H := HQ) vL hM (fun HF hleF hsF hcF => ?_)
                    refine Runs.retC Try.func19 Try.results19 rfl (fun w hm => hR _ w _ HF _ (by simp) ((hleQ.trans hleF)) ?_ hm)
                    exact ⟨vL, !pw, (qs : List Qd).map toC, rfl, SliceRep.of_row hsF (by simp; try omega) ((cellsQ_rep (qs := qs) hqr).mono hleF) (Snap.le.refl _) hcF, okP_of (qs := qs) (by omega) hqok1⟩
                  · obtain ⟨hf, hhf⟩ : ∃ hf : Nat, hf = q.2.2.length / 2 := ⟨_, rfl⟩
                    have hfl : hf ≤ q.2.2.length := by omega
                    have hsv2 := SliceRep.slv (lo := 0) (hi := hf) (mx := capOf q.1) (s := 1) (hqr q hqm) rfl (Nat.zero_le _) hfl (by have := (hqr q hqm).capOf_le; omega) (Nat.le_refl _)
                    rw [List.drop_zero, Nat.sub_zero] at hsv2
                    have hso := hsv2.isSl.one1
                    repeat (first | refine a1 ?_ | refine a3 ?_ | refine a4 ?_ | refine a5 ?_ | refine a6 ?_ | refine s_fieldB ?_ | refine s_fieldV ?_ | refine s_loadB ?_ | refine s_loadH ?_ | refine s_loadR ?_ | refine s_build ?_ | refine s_len ?_ | refine s_lenR ?_ | refine s_index ?_ | refine s_indexR ?_ | refine s_addI ?_ | refine s_convI ?_ | refine s_loadBs ?_ | refine s_loadHs ?_ | refine s_rem ?_ | refine s_eql ?_ | refine s_sliceHi ?_ | refine s_sliceLo ?_ | refine s_quo ?_ | refine a7 ?_ | refine a8 ?_ | refine a9 ?_ | refine RW.storeR rfl rfl rfl rfl (by first | rfl | (simp [allOne, cellsL, one1]; done) | (simp [allOne, cellsL, one1]; first | assumption | (refine ⟨?_, ?_⟩ <;> assumption))) rfl ?_ | refine a10 ?_ | refine RW.storeR1 rfl rfl (by first | rfl | exact IsSl.one1 (by assumption) | exact IsSl.one1 (SliceRep.isSl (by assumption))) rfl rfl ?_)
                    refine Runs.regionD _ _ [12] (fun x hx => List.mem_cons_of_mem _ hx) (List.Sublist.refl _) (by kernel_rfl) ?_
                    (first | refine t_fieldB 0 ?_ | refine t_fieldV 0 ?_)
                    (first | refine t_loadB 1 ?_ | refine t_loadH 1 ?_ | refine t_loadR 1 ?_)
                    refine d2 2 ?_
                    (first | refine t_fieldB 3 ?_ | refine t_fieldV 3 ?_)
                    (first | refine t_loadB 4 ?_ | refine t_loadH 4 ?_ | refine t_loadR 4 ?_)
                    (first | refine t_fieldB 5 ?_ | refine t_fieldV 5 ?_)
                    (first | refine t_loadB 6 ?_ | refine t_loadH 6 ?_ | refine t_loadR 6 ?_)
                    (first | refine t_len 7 ?_ | refine t_lenR 7 ?_)
                    refine t_quo 8 ?_
                    rw [show ((q.2.2.length : Int) / 2) = ((hf : Nat) : Int) from by omega]
                    refine t_sliceHi 9 ?_
                    (first | refine t_index 10 ?_ | refine t_indexR 10 ?_)
                    (first | refine t_fieldB 11 ?_ | refine t_fieldV 11 ?_)
                    refine DW.storeR1 12 rfl (by kernel_rfl) rfl rfl rfl (by first | rfl | exact IsSl.one1 (by assumption) | exact IsSl.one1 (SliceRep.isSl (by assumption))) (cellsQ_put (q' := (slv q.1 1 0 hf (capOf q.1), q.2.1, q.2.2.take hf)) hqi rfl (by omega)) rfl ?_
                    refine DW.done (by kernel_rfl) ?_
                    refine Runs.rowSl vL (fun hsv hov => ?_)
                    repeat (first | refine a1 ?_ | refine a3 ?_ | refine a4 ?_ | refine a5 ?_ | refine a6 ?_ | refine s_fieldB ?_ | refine s_fieldV ?_ | refine s_loadB ?_ | refine s_loadH ?_ | refine s_loadR ?_ | refine s_build ?_ | refine s_len ?_ | refine s_lenR ?_ | refine s_index ?_ | refine s_indexR ?_ | refine s_addI ?_ | refine s_convI ?_ | refine s_loadBs ?_ | refine s_loadHs ?_ | refine s_rem ?_ | refine s_eql ?_ | refine s_sliceHi ?_ | refine s_sliceLo ?_ | refine s_quo ?_ | refine a7 ?_ | refine a8 ?_ | refine a9 ?_ | refine RW.storeR rfl rfl rfl rfl (by first | rfl | (simp [allOne, cellsL, one1]; done) | (simp [allOne, cellsL, one1]; first | assumption | (refine ⟨?_, ?_⟩ <;> assumption))) rfl ?_ | refine a10 ?_ | refine RW.storeR1 rfl rfl (by first | rfl | exact IsSl.one1 (by assumption) | exact IsSl.one1 (SliceRep.isSl (by assumption))) rfl rfl ?_)
                    refine Runs.freeze (H := HQ) vL hM (fun HF hleF hsF hcF => ?_)
                    refine Runs.retC Try.func19 Try.results19 rfl (fun w hm => hR _ w _ HF _ (by simp) ((hleQ.trans hleF)) ?_ hm)
                    exact ⟨vL, pw, ((qs.set i (slv q.1 1 0 hf (capOf q.1), q.2.1, q.2.2.take hf)) : List Qd).map toC, rfl, SliceRep.of_row hsF (by simp; try omega) ((cellsQ_rep (qs := (qs.set i (slv q.1 1 0 hf (capOf q.1), q.2.1, q.2.2.take hf))) (fun p hp => (mem_set hp).elim (fun h => hqr p h) (fun h => by subst h; exact hsv2))).mono hleF) (Snap.le.refl _) hcF, okP_of (qs := (qs.set i (slv q.1 1 0 hf (capOf q.1), q.2.1, q.2.2.take hf))) (by simp; omega) (fun p hp => (mem_set hp).elim (fun h => hqok1 p h) (fun h => by subst h; exact ⟨by simp; omega, by dsimp only; omega, by dsimp only; omega, fun j hj => by have := hqo.2.2.2 j (List.mem_of_mem_take hj); omega⟩))⟩
end Go.Proofs.Ythlolpckgffebaa

/-
  More words for the walks: scopes, calls that hand on all that is owned, two operations of a drawn region that are ready at once, a row that is frozen beside what the caller owns. Conditions: as each lemma names them.
-/
import Derived.Test.YtbiohkncdlhigaaAs
namespace Go.Proofs.Ytbiohkncdlhigaa
open Go Go.RowKit

section
variable {P : Program} {f : FuncId} {n : Nat} {E : Ent} {R : Value → World → Prop} {k : List Item} {Hs : List Snap} {O : List Own} {l : Env}
variable {L : List Oper} {d : Nat} {ty : TypeId} {pos : String} {aft : Array Edge} {os : List Oper} {g : Option (Nat × Bool)}
/-- A call that is handed what O1 owns; all else that is owned is forgotten. -/
theorem RW.callD {fx : Operand} {La : List Operand} {ts : Array TypeId} {fid : FuncId} {cap vals : List Value} {H : Snap} {O1 : List Own} {post : Snap → List Own → Value → Prop} (hf : opv l fx = some (.func (.func fid) #[] cap.toArray)) (ha : opvL l La = some vals) [c : TCall P fid] (hc : Ctr P fid (vals ++ cap).toArray H O1 post) [hH : InH Hs H] (hO : O1.Sublist O) (hg : guardIs L l g = some true) (hd : Nat.blt d n = true)
    (h : ∀ v H' O2, post H' O2 v → H.le H' → RW P f n E R L.toArray os k (H' :: Hs) O2 ((d, v) :: l)) : RW P f n E R L.toArray (⟨some d, .call ⟨.value fx, La.toArray, ts⟩, ty, pos, aft, g⟩ :: os) k Hs O l := by
  obtain ⟨F, hF⟩ := hO.exists_perm_append
  refine RW.h (HV.callF (cap := cap) hf ha hc hF) hg hd ?_
  rintro v Hs' O' ⟨H', O2, h1, h2, rfl, rfl⟩
  intro w hm
  exact h v H' O2 h1 h2 w (hm.sub (fun x hx => List.mem_cons_of_mem _ hx) (List.sublist_append_left ..))
/-- A call whose result is dropped. -/
theorem RW.callD0 {fx : Operand} {La : List Operand} {ts : Array TypeId} {fid : FuncId} {cap vals : List Value} {H : Snap} {O1 : List Own} {post : Snap → List Own → Value → Prop} (hf : opv l fx = some (.func (.func fid) #[] cap.toArray)) (ha : opvL l La = some vals) [c : TCall P fid] (hc : Ctr P fid (vals ++ cap).toArray H O1 post) [hH : InH Hs H] (hO : O1.Sublist O) (hg : guardIs L l g = some true)
    (h : ∀ v H' O2, post H' O2 v → H.le H' → RW P f n E R L.toArray os k (H' :: Hs) O2 l) : RW P f n E R L.toArray (⟨none, .call ⟨.value fx, La.toArray, ts⟩, ty, pos, aft, g⟩ :: os) k Hs O l := by
  obtain ⟨F, hF⟩ := hO.exists_perm_append
  refine RW.h0 (HV.callF (cap := cap) hf ha hc hF) hg ?_
  rintro v Hs' O' ⟨H', O2, h1, h2, rfl, rfl⟩
  intro w hm
  exact h v H' O2 h1 h2 w (hm.sub (fun x hx => List.mem_cons_of_mem _ hx) (List.sublist_append_left ..))

theorem RW.appendF {α : Type} {A : Lay α} {H : Snap} {ys : List α} {T e : TypeId} {x y : Operand} {v vy z : Value} {sz bytes m : Nat} {ds : List Value} [t : TDesc P T (.slice e)] [j : TInfo P e z sz bytes] (hx : opv l x = some v) (hr : SliceRep H A v ys) (hcap : capOf v = ys.length) [i : InH Hs H] (hsz : A.sz = sz) (hy : opv l y = some vy) [q : GetRow O vy e sz m ds]
    (hm0 : 0 < m) (h1 : allOne ds = true) (hz : Nat.beq (cellsL z).length sz = true) (h0 : sz ≠ 0) (hb : (ys.length + m) * bytes ≤ 140737488355328) (hb2 : ys.length + m ≤ 140737488355328) (hg : guardIs L l g = some true) (hd : Nat.blt d n = true)
    (h : ∀ xs v', CellsRep H A ys xs → IsSl v' (ys.length + m) → RW P f n E R L.toArray os k Hs (.row e sz v' (ys.length + m) (xs ++ ds) :: O) ((d, v') :: l)) : RW P f n E R L.toArray (⟨some d, .call ⟨.builtin .append, #[x, y], #[T, T]⟩, ty, pos, aft, g⟩ :: os) k Hs O l := by
  obtain ⟨hs, xs, hc, hcell⟩ := hr
  intro w hm
  have hrow := hm.own _ q.h
  have hvy : IsSl vy m := row_isSl hrow
  have hlen : ds.length = m * sz := hrow.1
  refine RW.h (HV.appendF (P := P) (E := E) (Hs := Hs) (O := O) (xs := xs) (T := T) (e := e) (bytes := bytes) hx hy hs hcap (by rw [hc.length, hsz]) (fun w hm k u hu => hm.cellH (hcell k u hu)) hvy hm0 hlen (fun w hm k u hu => hm.cellR hu) (allOne_eq h1) hz h0 hb hb2) hg hd ?_ w hm
  rintro v' Hs' O' ⟨rfl, rfl, h3⟩
  exact h xs v' hc h3

/-- A row of ours goes into a snapshot, beside what the caller owns. -/
theorem Mem.freezeRowM {w : World} {O' : List Own} {H : Snap} {v : Value} {T : TypeId} {sz m : Nat} {xs : List Value} [q : DelRow O v T sz m xs O'] [i : InH Hs H] (hM : ∀ b ∈ E.M, b ∈ feet O') (hm : Mem E w Hs O) :
    ∃ H', H.le H' ∧ IsSl v m ∧ (∀ j u, xs[j]? = some u → H'.cell (vat v j) = some u) ∧ Mem E w (H' :: Hs) O' := by
  have hm2 := hm.perm q.h
  have hown : w.ownsRow 0 T sz v m xs := hm2.own _ (List.mem_cons_self ..)
  rcases hown.2 with ⟨rfl, h0⟩ | ⟨b, cap, cur, rfl, _, hh, hnc, hcap, hcs, htake⟩
  · subst h0
    have hx : xs = [] := List.eq_nil_of_length_eq_zero (by simpa using hown.1)
    subst hx
    refine ⟨H, Snap.le.refl H, isSl_nil, fun j u hu => by simp at hu, hm2.sub ?_ (List.sublist_cons_self _ _)⟩
    intro x hx
    rcases List.mem_cons.1 hx with rfl | hx
    · exact List.mem_cons_of_mem _ i.h
    · exact List.mem_cons_of_mem _ hx
  · obtain ⟨h1, h2⟩ := hm2.freeze (List.mem_cons_of_mem _ i.h) (b := b) rfl hh (fun hb => by
      obtain ⟨o, ho, hob⟩ := mem_feet.1 (hM b hb)
      exact (List.pairwise_cons.1 hm2.dis).1 o ho b rfl hob)
    refine ⟨_, h2, ⟨_, cap, rfl, hnc, hcap, fun _ => ⟨b, 0, rfl⟩⟩, fun j u hu => ?_, h1⟩
    have hj : j < m * sz := by have := (List.getElem?_eq_some_iff.1 hu).1; rw [hown.1] at this; exact this
    rw [← htake, List.getElem?_take_of_lt hj] at hu
    simp [Snap.cell, Snap.join, vat]
    simpa using hu
theorem Runs.freezeM {O' : List Own} {H : Snap} (v : Value) {T : TypeId} {sz m : Nat} {xs : List Value} [q : DelRow O v T sz m xs O'] [i : InH Hs H] (hM : ∀ b ∈ E.M, b ∈ feet O')
    (h : ∀ H', H.le H' → IsSl v m → (∀ j u, xs[j]? = some u → H'.cell (vat v j) = some u) → Runs P f n E R k (H' :: Hs) O' l) : Runs P f n E R k Hs O l := by
  intro w hm
  obtain ⟨H', h1, h2, h3, h4⟩ := hm.freezeRowM (q := q) (i := i) hM
  exact h H' h1 h2 h3 w h4
theorem RW.freezeM {ops : Array Oper} {O' : List Own} {H : Snap} (v : Value) {T : TypeId} {sz m : Nat} {xs : List Value} [q : DelRow O v T sz m xs O'] [i : InH Hs H] (hM : ∀ b ∈ E.M, b ∈ feet O')
    (h : ∀ H', H.le H' → IsSl v m → (∀ j u, xs[j]? = some u → H'.cell (vat v j) = some u) → RW P f n E R ops os k (H' :: Hs) O' l) : RW P f n E R ops os k Hs O l := by
  intro w hm
  obtain ⟨H', h1, h2, h3, h4⟩ := hm.freezeRowM (q := q) (i := i) hM
  exact h H' h1 h2 h3 w h4
theorem feet_sub {O O' : List Own} (h : O.Sublist O') : ∀ b ∈ feet O, b ∈ feet O' := fun b hb => by
  obtain ⟨o, ho, e⟩ := mem_feet.1 hb
  exact mem_feet.2 ⟨o, h.subset ho, e⟩

theorem cs1_step {k k' : List Item} (h : cs1 k = some k') (b : Frame) (a : Act) (cs : List Frame) (w : World) : step P (lone (b.at a k) cs w) = .next (lone (b.at a k') cs w) := by
  unfold cs1 at h
  split at h
  · cases h; exact step_seq
  · cases h; exact step_skip
  · cases h; exact step_label
  · cases h; exact step_block
  · cases h; exact step_inBlock
  · cases h; exact step_scope
  · cases h; exact step_inScope
  · exact step_exit h
  · cases h
theorem Runs.cs1_inv {k k' : List Item} (h : cs1 k = some k') (hr : Runs P f n E R k Hs O l) : Runs P f n E R k' Hs O l := by
  intro w hm a ha b hb hk cs
  obtain ⟨v, w', fr, hR, hs, hv⟩ := hr w hm a ha b hb hk cs
  refine ⟨v, w', fr, hR, ?_, hv⟩
  obtain ⟨m, hs⟩ := hs
  cases m with
  | zero =>
    simp only [runN] at hs
    injection hs with hs
    have e1 : fr = b.at a k := by
      have := congrArg (fun (m : Machine) => (m.gs[0]?).map (·.frame)) hs
      simpa [lone] using this.symm
    have h9 := hv.2.1
    rw [e1] at h9
    cases h9
  | succ m =>
    simp only [runN, cs1_step h] at hs
    exact ⟨m, hs⟩
theorem Runs.cstep_inv : ∀ (fuel : Nat) (k k' : List Item), cstep fuel k = some k' → Runs P f n E R k Hs O l → Runs P f n E R k' Hs O l
  | 0, k, k', h, hr => by simp only [cstep, Option.some.injEq] at h; subst h; exact hr
  | fuel + 1, k, k', h, hr => by
    simp only [cstep] at h
    split at h
    · rename_i k1 h1; exact Runs.cstep_inv fuel _ _ h (Runs.cs1_inv h1 hr)
    · simp only [Option.some.injEq] at h; subst h; exact hr
/-- The code's steps, taken back: for a place where several ways meet. -/
theorem Runs.uncode {k k' : List Item} (hr : Runs P f n E R k Hs O l) (h : csteps k = some k' := by exact rfl) : Runs P f n E R k' Hs O l := by
  unfold csteps at h
  split at h
  · rename_i k1 h1; exact Runs.cstep_inv 60 _ _ h (Runs.cs1_inv h1 hr)
  · cases h

variable {Hs0 : List Snap} {O0 : List Own} {lt : List Nat} {st : Bool} {fuel : Nat} {listed : Array Bool}
/-- A call behind which nothing of the region reads memory. -/
theorem DW.callD (i : Nat) {fx : Operand} {La : List Operand} {ts : Array TypeId} {fid : FuncId} {cap vals : List Value} {H : Snap} {O1 : List Own} {post : Snap → List Own → Value → Prop} (hi : opAt L i = some ⟨some d, .call ⟨.value fx, La.toArray, ts⟩, ty, pos, aft, g⟩)
    (hrd : (Region.ready .any L.toArray listed == [i]) = true) (hlt : lt.contains i = true) (hf : opv l fx = some (.func (.func fid) #[] cap.toArray)) (ha : opvL l La = some vals) [c : TCall P fid] (hc : Ctr P fid (vals ++ cap).toArray H O1 post) [hH : InH Hs H] (hO : O1.Sublist O) (hg : guardIs L l g = some true) (hd : Nat.blt d n = true)
    (h : ∀ v H' O2, post H' O2 v → H.le H' → DW P f n E R L Hs0 O0 lt false fuel (listed.setIfInBounds i true) k (H' :: Hs) O2 ((d, v) :: l)) : DW P f n E R L Hs0 O0 lt st (fuel + 1) listed k Hs O l := by
  obtain ⟨F, hF⟩ := hO.exists_perm_append
  refine DW.h i false hi hrd (HV.callF (cap := cap) hf ha hc hF) hg hd (by rw [hlt]; rfl) ?_
  rintro v Hs' O' ⟨H', O2, h1, h2, rfl, rfl⟩
  refine ⟨fun e => (by cases e), fun _ w hm => h v H' O2 h1 h2 (fun e => by cases e) w (hm.sub (fun x hx => List.mem_cons_of_mem _ hx) (List.sublist_append_left ..))⟩
theorem DW.callD0 (i : Nat) {fx : Operand} {La : List Operand} {ts : Array TypeId} {fid : FuncId} {cap vals : List Value} {H : Snap} {O1 : List Own} {post : Snap → List Own → Value → Prop} (hi : opAt L i = some ⟨none, .call ⟨.value fx, La.toArray, ts⟩, ty, pos, aft, g⟩)
    (hrd : (Region.ready .any L.toArray listed == [i]) = true) (hlt : lt.contains i = true) (hf : opv l fx = some (.func (.func fid) #[] cap.toArray)) (ha : opvL l La = some vals) [c : TCall P fid] (hc : Ctr P fid (vals ++ cap).toArray H O1 post) [hH : InH Hs H] (hO : O1.Sublist O) (hg : guardIs L l g = some true)
    (h : ∀ v H' O2, post H' O2 v → H.le H' → DW P f n E R L Hs0 O0 lt false fuel (listed.setIfInBounds i true) k (H' :: Hs) O2 l) : DW P f n E R L Hs0 O0 lt st (fuel + 1) listed k Hs O l := by
  obtain ⟨F, hF⟩ := hO.exists_perm_append
  refine DW.h0 i false hi hrd (HV.callF (cap := cap) hf ha hc hF) hg (by rw [hlt]; rfl) ?_
  rintro v Hs' O' ⟨H', O2, h1, h2, rfl, rfl⟩
  refine ⟨fun e => (by cases e), fun _ w hm => h v H' O2 h1 h2 (fun e => by cases e) w (hm.sub (fun x hx => List.mem_cons_of_mem _ hx) (List.sublist_append_left ..))⟩
/-- A call behind which what the region looks at still holds. -/
theorem DW.callM (i : Nat) {fx : Operand} {La : List Operand} {ts : Array TypeId} {fid : FuncId} {cap vals : List Value} {H : Snap} {O1 F : List Own} {post : Snap → List Own → Value → Prop} (hi : opAt L i = some ⟨some d, .call ⟨.value fx, La.toArray, ts⟩, ty, pos, aft, g⟩)
    (hrd : (Region.ready .any L.toArray listed == [i]) = true) (hf : opv l fx = some (.func (.func fid) #[] cap.toArray)) (ha : opvL l La = some vals) [c : TCall P fid] (hc : Ctr P fid (vals ++ cap).toArray H O1 post) [hH : InH Hs H] (hO : O.Perm (O1 ++ F)) (hg : guardIs L l g = some true) (hd : Nat.blt d n = true)
    (hsub2 : ∀ v H' O2, post H' O2 v → ∀ w, Mem E w (H' :: Hs) (O2 ++ F) → Mem E w Hs0 O0)
    (h : ∀ v H' O2, post H' O2 v → H.le H' → DW P f n E R L Hs0 O0 lt true fuel (listed.setIfInBounds i true) k (H' :: Hs) (O2 ++ F) ((d, v) :: l)) : DW P f n E R L Hs0 O0 lt true (fuel + 1) listed k Hs O l := by
  intro hsub
  refine DW.h i true hi hrd (HV.callF (cap := cap) hf ha hc hO) hg hd (by simp) ?_ hsub
  rintro v Hs' O' ⟨H', O2, h1, h2, rfl, rfl⟩
  exact ⟨fun _ => hsub2 v H' O2 h1, fun _ => h v H' O2 h1 h2 (fun _ => hsub2 v H' O2 h1)⟩
/-- A call that changes nothing of ours. -/
theorem DW.callL (i : Nat) {fx : Operand} {La : List Operand} {ts : Array TypeId} {fid : FuncId} {cap vals : List Value} {H : Snap} {O1 : List Own} {post : Snap → Value → Prop} (hi : opAt L i = some ⟨some d, .call ⟨.value fx, La.toArray, ts⟩, ty, pos, aft, g⟩)
    (hrd : (Region.ready .any L.toArray listed == [i]) = true) (hf : opv l fx = some (.func (.func fid) #[] cap.toArray)) (ha : opvL l La = some vals) [c : TCall P fid] (hc : Ctr P fid (vals ++ cap).toArray H O1 (fun H' O' v => O' = O1 ∧ post H' v)) [hH : InH Hs H] (hO : O1.Sublist O) (hg : guardIs L l g = some true) (hd : Nat.blt d n = true)
    (h : ∀ v H', post H' v → H.le H' → DW P f n E R L Hs0 O0 lt true fuel (listed.setIfInBounds i true) k (H' :: Hs) O ((d, v) :: l)) : DW P f n E R L Hs0 O0 lt true (fuel + 1) listed k Hs O l := by
  obtain ⟨F, hF⟩ := hO.exists_perm_append
  intro hsub
  refine DW.h i true hi hrd (HV.callF (cap := cap) hf ha hc hF) hg hd (by simp) ?_ hsub
  rintro v Hs' O' ⟨H', O2, ⟨rfl, h1⟩, h2, rfl, rfl⟩
  refine ⟨fun _ w hm => hsub rfl w ((hm.perm hF.symm).sub (fun x hx => List.mem_cons_of_mem _ (List.mem_cons_of_mem _ hx)) (List.Sublist.refl _)), fun hs2 w hm => ?_⟩
  exact h v H' h1 h2 (fun _ w hm => hs2 rfl w (hm.perm hF)) w (hm.perm hF.symm)
theorem RW.callL {fx : Operand} {La : List Operand} {ts : Array TypeId} {fid : FuncId} {cap vals : List Value} {H : Snap} {O1 : List Own} {post : Snap → Value → Prop} (hf : opv l fx = some (.func (.func fid) #[] cap.toArray)) (ha : opvL l La = some vals) [c : TCall P fid] (hc : Ctr P fid (vals ++ cap).toArray H O1 (fun H' O' v => O' = O1 ∧ post H' v)) [hH : InH Hs H] (hO : O1.Sublist O) (hg : guardIs L l g = some true) (hd : Nat.blt d n = true)
    (h : ∀ v H', post H' v → H.le H' → RW P f n E R L.toArray os k (H' :: Hs) O ((d, v) :: l)) : RW P f n E R L.toArray (⟨some d, .call ⟨.value fx, La.toArray, ts⟩, ty, pos, aft, g⟩ :: os) k Hs O l := by
  obtain ⟨F, hF⟩ := hO.exists_perm_append
  refine RW.h (HV.callF (cap := cap) hf ha hc hF) hg hd ?_
  rintro v Hs' O' ⟨H', O2, ⟨rfl, h1⟩, h2, rfl, rfl⟩
  intro w hm
  exact h v H' h1 h2 w (hm.perm hF.symm)

theorem HV.appendRR {T e : TypeId} {x y : Operand} {v vy z : Value} {sz bytes a m : Nat} {xs ds : List Value} [t : TDesc P T (.slice e)] [j : TInfo P e z sz bytes] (hx : opv l x = some v) (hy : opv l y = some vy) [q1 : GetRow O v e sz a xs] [q2 : GetRow O vy e sz m ds] (hs : IsSl vy m) (hd' : Nat.beq ds.length (m * sz) = true)
    (h1 : allOne ds = true) (hz : Nat.beq (cellsL z).length sz = true) (h0 : sz ≠ 0) (hb : (a + m) * bytes ≤ 140737488355328) (hb2 : a + m ≤ 140737488355328)
    {O1 : Value → List Own} (q : ∀ v', PutRow O v e sz a xs v' (a + m) (xs ++ ds) (O1 v')) : HV P E Hs O l (.call ⟨.builtin .append, #[x, y], #[T, T]⟩) (fun v' Hs' O2 => Hs' = Hs ∧ O2 = O1 v' ∧ IsSl v' (a + m)) :=
  HV.append hx hy hs (Nat.eq_of_beq_eq_true hd') (fun w hm k u hu => hm.cellR hu) (allOne_eq h1) hz h0 hb hb2 q
/-- Two operations that may come up in either order. -/
theorem DW.h2 (i j : Nat) {di dj : Nat} {opi opj : Op} {tyi tyj : TypeId} {posi posj : String} {afti aftj : Array Edge} {gi gj : Option (Nat × Bool)} {posti postj : Value → List Snap → List Own → Prop} (hi : opAt L i = some ⟨some di, opi, tyi, posi, afti, gi⟩) (hj : opAt L j = some ⟨some dj, opj, tyj, posj, aftj, gj⟩)
    (hc : (Region.ready .any L.toArray listed == [i, j]) = true) (hqi : HV P E Hs O l opi posti) (hqj : HV P E Hs O l opj postj) (hgi : guardIs L l gi = some true) (hgj : guardIs L l gj = some true) (hdi : Nat.blt di n = true) (hdj : Nat.blt dj n = true) (hst : st = true)
    (h1 : ∀ v Hs' O', posti v Hs' O' → (∀ w, Mem E w Hs' O' → Mem E w Hs0 O0) ∧ DW P f n E R L Hs0 O0 lt true fuel (listed.setIfInBounds i true) k Hs' O' ((di, v) :: l))
    (h2 : ∀ v Hs' O', postj v Hs' O' → (∀ w, Mem E w Hs' O' → Mem E w Hs0 O0) ∧ DW P f n E R L Hs0 O0 lt true fuel (listed.setIfInBounds j true) k Hs' O' ((dj, v) :: l)) : DW P f n E R L Hs0 O0 lt st (fuel + 1) listed k Hs O l := by
  rw [opAt_eq] at hi hj
  refine DW.all hc rfl (fun m hm w hs hmem a ha => ?_)
  have hm' : m = i ∨ m = j := by simpa using hm
  rcases hm' with rfl | rfl
  · unfold wpOp
    simp only [hi]
    rw [guardIs_spec (o := ⟨some di, opi, tyi, posi, afti, gi⟩) ha hgi, if_pos rfl]
    exact .inl (hqi ⟨some di, opi, tyi, posi, afti, gi⟩ rfl w hmem a (fun x u hx => ha.eval hx) _ _ (fun v w' Hs' O' hp hm' => ⟨fun _ _ => (h1 v Hs' O' hp).1 w' hm', fun _ => hm'.agr _ (List.mem_cons_self ..), (h1 v Hs' O' hp).2 (fun _ => (h1 v Hs' O' hp).1) w' hm' _ (ha.put di v hdi)⟩))
  · unfold wpOp
    simp only [hj]
    rw [guardIs_spec (o := ⟨some dj, opj, tyj, posj, aftj, gj⟩) ha hgj, if_pos rfl]
    exact .inl (hqj ⟨some dj, opj, tyj, posj, aftj, gj⟩ rfl w hmem a (fun x u hx => ha.eval hx) _ _ (fun v w' Hs' O' hp hm' => ⟨fun _ _ => (h2 v Hs' O' hp).1 w' hm', fun _ => hm'.agr _ (List.mem_cons_self ..), (h2 v Hs' O' hp).2 (fun _ => (h2 v Hs' O' hp).1) w' hm' _ (ha.put dj v hdj)⟩))
/-- What only looks at slots may be dropped from the facts held throughout. -/
theorem DW.drop (h : DW P f n E R L Hs0 O0 lt false fuel listed k Hs O l) : DW P f n E R L Hs0 O0 lt st fuel listed k Hs O l :=
  fun _ => h (fun e => by cases e)
theorem Runs.joinI {α : Type} {c : Item} (I : α → Prop) (sH : α → List Snap) (sO : α → List Own) (sl : α → Env) (h1 : (∀ s, I s → Runs P f n E R k (sH s) (sO s) (sl s)) → Runs P f n E R (c :: k) Hs O l) (h2 : ∀ s, I s → Runs P f n E R k (sH s) (sO s) (sl s)) : Runs P f n E R (c :: k) Hs O l := h1 h2
end
end Go.Proofs.Ytbiohkncdlhigaa

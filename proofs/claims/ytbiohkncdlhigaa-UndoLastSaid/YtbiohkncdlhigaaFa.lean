/-
  An allocation that a drawn region may make at any time: the walk keeps both cases side by side. Conditions: none.
-/
import Derived.Test.YtbiohkncdlhigaaMDx
namespace Go.Proofs.Ytbiohkncdlhigaa
open Go Go.RowKit

theorem efind_app {m : Env} : ∀ {l : Env} {t : Nat} {v : Value}, efind l t = some v → efind (l ++ m) t = some v
  | [], _, _, h => by cases h
  | p :: l, t, v, h => by
    simp only [List.cons_append, efind] at *
    cases hb : Nat.beq p.1 t with
    | true => rw [hb] at h; exact h
    | false => rw [hb] at h; exact efind_app (l := l) h
theorem efind_app_none {m : Env} : ∀ {l : Env} {t : Nat}, efind l t = none → efind (l ++ m) t = efind m t
  | [], _, _ => rfl
  | p :: l, t, h => by
    simp only [List.cons_append, efind] at *
    cases hb : Nat.beq p.1 t with
    | true => rw [hb] at h; cases h
    | false => rw [hb] at h; exact efind_app_none (l := l) h
theorem opv_app {l m : Env} {x : Operand} {v : Value} (h : opv l x = some v) : opv (l ++ m) x = some v := by
  cases x with
  | tmp t => exact efind_app h
  | _ => exact h
theorem opvs_app {l m : Env} : ∀ {L : List (Nat × Operand)} {vs : List (Nat × Value)}, opvs l L = some vs → opvs (l ++ m) L = some vs
  | [], _, h => h
  | (i, x) :: r, vs, h => by
    simp only [opvs] at *
    split at h
    · rename_i v hv
      rw [opv_app hv]
      split at h
      · rename_i vs' hvs
        rw [opvs_app hvs]; exact h
      · cases h
    · cases h
theorem opvL_app {l m : Env} : ∀ {L : List Operand} {vs : List Value}, opvL l L = some vs → opvL (l ++ m) L = some vs
  | [], _, h => h
  | x :: r, vs, h => by
    simp only [opvL] at *
    split at h
    · rename_i v hv
      rw [opv_app hv]
      split at h
      · rename_i vs' hvs
        rw [opvL_app hvs]; exact h
      · cases h
    · cases h
theorem guardIs_app {L : List Oper} {l m : Env} {g : Option (Nat × Bool)} {b : Bool} (h : guardIs L l g = some b) : guardIs L (l ++ m) g = some b := by
  unfold guardIs at *
  split at h
  · exact h
  · split at h
    · split at h
      · split at h
        · rename_i hb; rw [efind_app hb]; exact h
        · rename_i hb; rw [efind_app hb]; exact h
        · cases h
      · cases h
    · cases h
theorem Sat.put_app {a : Act} {n : Nat} {l : Env} (h : Sat a n l) (d : Nat) (v : Value) (hd : Nat.blt d n = true) (hn : (efind l d).isNone = true) : Sat (a.put (some d) v) n (l ++ [(d, v)]) := by
  have h1 := h.put d v hd
  have hn' : efind l d = none := by simpa using hn
  refine ⟨h1.size, h1.defers, fun t u hu => h1.get t u ?_⟩
  cases e : efind l t with
  | some w =>
    rw [efind_app e] at hu
    have hne : Nat.beq d t = false := by
      cases hb : Nat.beq d t with
      | false => rfl
      | true => rw [← Nat.eq_of_beq_eq_true hb, hn'] at e; cases e
    simp only [efind, hne, cond_false, e]; exact hu
  | none =>
    rw [efind_app_none e] at hu
    simp only [efind] at hu ⊢
    cases hb : Nat.beq d t with
    | true => rw [hb] at hu; exact hu
    | false => rw [hb] at hu; cases hu
instance {O : List Own} {y : Own} {v : Value} {T : TypeId} {sz n : Nat} {xs : List Value} [i : GetRow O v T sz n xs] : GetRow (O ++ [y]) v T sz n xs := ⟨List.mem_append_left _ i.h⟩
theorem PutRow.app {O O' : List Own} {y : Own} {v : Value} {T : TypeId} {sz n : Nat} {xs : List Value} {v' : Value} {n' : Nat} {xs' : List Value} (i : PutRow O v T sz n xs v' n' xs' O') : PutRow (O ++ [y]) v T sz n xs v' n' xs' (O' ++ [y]) := by
  obtain ⟨pre, post, h1, h2⟩ := i.h
  exact ⟨pre, post ++ [y], by simp [h1], by simp [h2]⟩

theorem perm_last {α : Type} (x : α) (O : List α) : (x :: O).Perm (O ++ [x]) := (List.perm_append_comm : ([x] ++ O).Perm (O ++ [x]))
section
variable {P : Program} {f : FuncId} {n : Nat} {E : Ent} {R : Value → World → Prop} {k : List Item} {Hs : List Snap} {O : List Own} {l : Env} {L : List Oper} {d : Nat} {ty : TypeId} {pos : String} {aft : Array Edge} {g : Option (Nat × Bool)}
  {Hs0 : List Snap} {O0 : List Own} {lt : List Nat} {fuel : Nat} {listed : Array Bool} {j dj : Nat} {T : TypeId} {cs : List Value}

theorem Runs.join {c : Item} {Hs' : List Snap} {O' : List Own} {l' : Env} (h1 : Runs P f n E R k Hs' O' l' → Runs P f n E R (c :: k) Hs O l) (h2 : Runs P f n E R k Hs' O' l') : Runs P f n E R (c :: k) Hs O l := h1 h2

def DWf (P : Program) (f : FuncId) (n : Nat) (E : Ent) (R : Value → World → Prop) (L : List Oper) (Hs0 : List Snap) (O0 : List Own) (lt : List Nat) (j dj : Nat) (T : TypeId) (cs : List Value) (fuel : Nat) (listed : Array Bool) (k : List Item) (Hs : List Snap) (O : List Own) (l : Env) : Prop :=
  (∀ w, Mem E w Hs O → Mem E w Hs0 O0) → DW P f n E R L Hs0 O0 lt true (fuel + 1) listed k Hs O l ∧ ∀ b, DW P f n E R L Hs0 O0 lt true fuel (listed.setIfInBounds j true) k Hs (O ++ [.blk b T cs]) (l ++ [(dj, .pointer (some ⟨b, 0, none⟩))])
/-- The region's operation j is the allocation. -/
theorem DW.float (j : Nat) {z : Value} [_t : TZero P T z] (_hj : opAt L j = some ⟨some dj, .alloc T, ty, pos, aft, none⟩) (_hc : cellsO z = some cs) (h : DWf P f n E R L Hs0 O0 lt j dj T cs fuel listed k Hs O l) : DW P f n E R L Hs0 O0 lt true (fuel + 1) listed k Hs O l :=
  fun hsub => (h (hsub rfl)).1 hsub
theorem Mem.subApp {w : World} {y : Own} (h : Mem E w Hs (O ++ [y])) : Mem E w Hs O := h.sub (fun x hx => List.mem_cons_of_mem _ hx) (List.sublist_append_left ..)

theorem DWf.step (i : Nat) {op : Op} {post : Value → List Snap → List Own → Prop} {z : Value} [t : TZero P T z] {tyj : TypeId} {posj : String} {aftj : Array Edge} (hij : Nat.beq i j = false)
    (hi : opAt L i = some ⟨some d, op, ty, pos, aft, g⟩) (hj : opAt L j = some ⟨some dj, .alloc T, tyj, posj, aftj, none⟩) (hc : cellsO z = some cs)
    (hrd : (Region.ready .any L.toArray listed == [i, j] || Region.ready .any L.toArray listed == [j, i]) = true) (hrd2 : (Region.ready .any L.toArray (listed.setIfInBounds j true) == [i]) = true)
    (hq : HV P E Hs O l op post) (hq2 : ∀ b, HV P E Hs (O ++ [.blk b T cs]) (l ++ [(dj, .pointer (some ⟨b, 0, none⟩))]) op (fun v Hs' O' => ∃ O1, O' = O1 ++ [.blk b T cs] ∧ post v Hs' O1))
    (hg : guardIs L l g = some true) (hd : Nat.blt d n = true) (hdj : Nat.blt dj n = true) (hnj : (efind l dj).isNone = true)
    (hst : ∀ v Hs' O', post v Hs' O' → (∀ w, Mem E w Hs O → Mem E w Hs0 O0) → ∀ w, Mem E w Hs' O' → Mem E w Hs0 O0)
    (h : ∀ v Hs' O', post v Hs' O' → DWf P f n E R L Hs0 O0 lt j dj T cs fuel (listed.setIfInBounds i true) k Hs' O' ((d, v) :: l)) : DWf P f n E R L Hs0 O0 lt j dj T cs (fuel + 1) listed k Hs O l := by
  have hne : i ≠ j := fun e => by rw [e] at hij; simp at hij
  intro hsub
  have two : ∀ b, DW P f n E R L Hs0 O0 lt true (fuel + 1) (listed.setIfInBounds j true) k Hs (O ++ [.blk b T cs]) (l ++ [(dj, .pointer (some ⟨b, 0, none⟩))]) := by
    intro b
    refine DW.h i true hi hrd2 (hq2 b) (guardIs_app hg) hd (by simp) ?_
    rintro v Hs' O' ⟨O1, rfl, hp⟩
    refine ⟨fun _ w hm => hst v Hs' O1 hp hsub w hm.subApp, ?_⟩
    have := (h v Hs' O1 hp (hst v Hs' O1 hp hsub)).2 b
    rw [Array.setIfInBounds_comm _ _ hne] at this
    exact this
  refine ⟨?_, two⟩
  intro hsub'
  have body : ∀ x, x = i ∨ x = j → ∀ w, Mem E w Hs0 O0 → Mem E w Hs O → ∀ a, Sat a n l → wpOp P L.toArray (QN P f R k) x (fun a' w' => (lt.contains x = false → Mem E w Hs0 O0 → Mem E w' Hs0 O0) ∧ (Agr w E.H0 → Agr w' E.H0) ∧ wpAnyL P L.toArray (QN P f R k) (fun w => Mem E w Hs0 O0) (fun w => Agr w E.H0) lt (fuel + 1) (listed.setIfInBounds x true) a' w') a w := by
    rintro x (rfl | rfl) w hs hm a ha
    · rw [opAt_eq] at hi
      unfold wpOp
      simp only [hi]
      rw [guardIs_spec (o := ⟨some d, op, ty, pos, aft, g⟩) ha hg, if_pos rfl]
      exact .inl (hq ⟨some d, op, ty, pos, aft, g⟩ rfl w hm a (fun x u hx => ha.eval hx) _ _ (fun v w' Hs' O' hp hm' => ⟨fun _ _ => hst v Hs' O' hp hsub w' hm', fun _ => hm'.agr _ (List.mem_cons_self ..), (h v Hs' O' hp (hst v Hs' O' hp hsub)).1 (fun _ => hst v Hs' O' hp hsub) w' hm' _ (ha.put d v hd)⟩))
    · rw [opAt_eq] at hj
      unfold wpOp
      simp only [hj]
      rw [guardIs_spec (o := ⟨some dj, .alloc T, tyj, posj, aftj, none⟩) ha (by rfl), if_pos rfl]
      refine .inl ((HV.alloc (P := P) (E := E) (Hs := Hs) (O := O) (l := l) (T := T) (z := z)) ⟨some dj, .alloc T, tyj, posj, aftj, none⟩ rfl w hm a (fun x u hx => ha.eval hx) _ _ ?_)
      rintro v w' Hs' O' ⟨rfl, b, rfl, rfl⟩ hm'
      rw [cellsO_eq hc] at hm'
      have hm2 : Mem E w' Hs' (O ++ [.blk b T cs]) := hm'.perm (perm_last _ O)
      exact ⟨fun _ _ => hsub w' hm2.subApp, fun _ => hm2.agr _ (List.mem_cons_self ..), two b (fun _ w hm => hsub w hm.subApp) w' hm2 _ (ha.put_app dj _ hdj hnj)⟩
  intro w hm a ha
  rw [Bool.or_eq_true] at hrd
  rcases hrd with hrd | hrd
  · exact DW.all hrd rfl (fun x hx w hs hm a ha => body x (by simpa using hx) w (hs rfl) hm a ha) hsub' w hm a ha
  · exact DW.all hrd rfl (fun x hx w hs hm a ha => body x (by simp at hx; exact hx.symm) w (hs rfl) hm a ha) hsub' w hm a ha

section
variable (i : Nat) {zj : Value} [tj : TZero P T zj] {tyj : TypeId} {posj : String} {aftj : Array Edge} (hij : Nat.beq i j = false) (hj : opAt L j = some ⟨some dj, .alloc T, tyj, posj, aftj, none⟩) (hc : cellsO zj = some cs)
  (hrd : (Region.ready .any L.toArray listed == [i, j] || Region.ready .any L.toArray listed == [j, i]) = true) (hrd2 : (Region.ready .any L.toArray (listed.setIfInBounds j true) == [i]) = true)
  (hdj : Nat.blt dj n = true) (hnj : (efind l dj).isNone = true)
include tj hij hj hc hrd hrd2 hdj hnj
theorem DWf.buildSlice {Ts e : TypeId} {len s : Nat} {Lp : List (Nat × Operand)} {vs : List (Nat × Value)} {z : Value} {cs' : List Value} (hi : opAt L i = some ⟨some d, .buildSlice Ts len Lp.toArray, ty, pos, aft, g⟩) (hg : guardIs L l g = some true) (hd : Nat.blt d n = true) [t : TDesc P Ts (.slice e)] [z1 : TSz P e s] [jz : TZero P e z] (hx : opvs l Lp = some vs)
    (hs : Nat.beq (cellsL z).length s = true) (hl : Nat.ble (len * s) 16777216 = true) (hl2 : Nat.ble len 16777216 = true) (hf : fillL (fun i => some (i * s, s)) (repL len (cellsL z)) vs = some cs')
    (h : ∀ v, IsSl v len → DWf P f n E R L Hs0 O0 lt j dj T cs fuel (listed.setIfInBounds i true) k Hs (.row e s v len cs' :: O) ((d, v) :: l)) : DWf P f n E R L Hs0 O0 lt j dj T cs (fuel + 1) listed k Hs O l := by
  refine DWf.step i (post := fun v Hs' O1 => Hs' = Hs ∧ O1 = .row e s v len cs' :: O ∧ IsSl v len) hij hi hj hc hrd hrd2 (HV.buildSlice hx hs hl hl2 hf) (fun b o ho w hm a ha next Q hn => ?_) hg hd hdj hnj ?_ ?_
  · refine (HV.buildSlice (E := E) (Hs := Hs) (O := O ++ [.blk b T cs]) (t := t) (z1 := z1) (j := jz) (opvs_app hx) hs hl hl2 hf) o ho w hm a ha next Q ?_
    rintro v w' Hs' O' ⟨rfl, rfl, h1⟩ hm'
    exact hn v w' Hs' _ ⟨_, rfl, rfl, rfl, h1⟩ hm'
  · rintro v Hs' O' ⟨rfl, rfl, _⟩ hsub w hm
    exact hsub w (hm.sub (fun x hx => List.mem_cons_of_mem _ hx) (List.sublist_cons_self _ _))
  · rintro v Hs' O' ⟨rfl, rfl, h1⟩
    exact h v h1
theorem DWf.appendR {Ts e : TypeId} {x y : Operand} {v vy z : Value} {sz bytes a m : Nat} {xs ds : List Value} (hi : opAt L i = some ⟨some d, .call ⟨.builtin .append, #[x, y], #[Ts, Ts]⟩, ty, pos, aft, g⟩) (hg : guardIs L l g = some true) (hd : Nat.blt d n = true) [t : TDesc P Ts (.slice e)] [ji : TInfo P e z sz bytes] (hx : opv l x = some v) (hy : opv l y = some vy) [q1 : GetRow O v e sz a xs] [q2 : GetRow O vy e sz m ds] (hs : IsSl vy m) (hd' : Nat.beq ds.length (m * sz) = true)
    (h1 : allOne ds = true) (hz : Nat.beq (cellsL z).length sz = true) (h0 : sz ≠ 0) (hb : (a + m) * bytes ≤ 140737488355328) (hb2 : a + m ≤ 140737488355328)
    {O1 : Value → List Own} (q : ∀ v', PutRow O v e sz a xs v' (a + m) (xs ++ ds) (O1 v')) (hsub : ∀ v', SubO O0 (O1 v')) (hsubH : SubH Hs0 Hs)
    (h : ∀ v', IsSl v' (a + m) → DWf P f n E R L Hs0 O0 lt j dj T cs fuel (listed.setIfInBounds i true) k Hs (O1 v') ((d, v') :: l)) : DWf P f n E R L Hs0 O0 lt j dj T cs (fuel + 1) listed k Hs O l := by
  refine DWf.step i (post := fun v' Hs' O2 => Hs' = Hs ∧ O2 = O1 v' ∧ IsSl v' (a + m)) hij hi hj hc hrd hrd2 (HV.append hx hy hs (Nat.eq_of_beq_eq_true hd') (fun w hm k u hu => hm.cellR hu) (allOne_eq h1) hz h0 hb hb2 q) (fun b o ho w hm a' ha next Q hn => ?_) hg hd hdj hnj ?_ ?_
  · refine (HV.append (E := E) (Hs := Hs) (O := O ++ [.blk b T cs]) (O1 := fun v' => O1 v' ++ [.blk b T cs]) (opv_app hx) (opv_app hy) hs (Nat.eq_of_beq_eq_true hd') (fun w hm k u hu => hm.cellR hu) (allOne_eq h1) hz h0 hb hb2 (fun v' => (q v').app)) o ho w hm a' ha next Q ?_
    rintro v' w' Hs' O' ⟨rfl, rfl, h1⟩ hm'
    exact hn v' w' Hs' _ ⟨_, rfl, rfl, rfl, h1⟩ hm'
  · rintro v' Hs' O' ⟨rfl, rfl, _⟩ _ w hm
    exact hm.sub (fun x hx => List.mem_cons_of_mem _ (hsubH.h x hx)) (hsub v').h
  · rintro v' Hs' O' ⟨rfl, rfl, h1⟩
    exact h v' h1
theorem DWf.appendH {α : Type} {A : Lay α} {H : Snap} {ys : List α} {Ts e : TypeId} {x y : Operand} {v vy z : Value} {sz bytes a : Nat} {xs : List Value} (hi : opAt L i = some ⟨some d, .call ⟨.builtin .append, #[x, y], #[Ts, Ts]⟩, ty, pos, aft, g⟩) (hg : guardIs L l g = some true) (hd : Nat.blt d n = true) [t : TDesc P Ts (.slice e)] [ji : TInfo P e z sz bytes] (hx : opv l x = some v) (hy : opv l y = some vy) [q1 : GetRow O v e sz a xs] (hr : SliceRep H A vy ys) [iH : InH Hs H] (hsz : A.sz = sz)
    (hz : Nat.beq (cellsL z).length sz = true) (h0 : sz ≠ 0) (hb : (a + ys.length) * bytes ≤ 140737488355328) (hb2 : a + ys.length ≤ 140737488355328)
    {O1 : List Value → Value → List Own} (q : ∀ ds v', PutRow O v e sz a xs v' (a + ys.length) (xs ++ ds) (O1 ds v')) (hsub : ∀ ds v', SubO O0 (O1 ds v')) (hsubH : SubH Hs0 Hs)
    (h : ∀ ds v', CellsRep H A ys ds → IsSl v' (a + ys.length) → DWf P f n E R L Hs0 O0 lt j dj T cs fuel (listed.setIfInBounds i true) k Hs (O1 ds v') ((d, v') :: l)) : DWf P f n E R L Hs0 O0 lt j dj T cs (fuel + 1) listed k Hs O l := by
  obtain ⟨hs, ds, hcr, hcell⟩ := hr
  refine DWf.step i (post := fun v' Hs' O2 => Hs' = Hs ∧ O2 = O1 ds v' ∧ IsSl v' (a + ys.length)) hij hi hj hc hrd hrd2 (HV.append hx hy hs (by rw [hcr.length, hsz]) (fun w hm k u hu => hm.cellH (hcell k u hu)) hcr.one1 hz h0 hb hb2 (q ds)) (fun b o ho w hm a' ha next Q hn => ?_) hg hd hdj hnj ?_ ?_
  · refine (HV.append (E := E) (Hs := Hs) (O := O ++ [.blk b T cs]) (O1 := fun v' => O1 ds v' ++ [.blk b T cs]) (opv_app hx) (opv_app hy) hs (by rw [hcr.length, hsz]) (fun w hm k u hu => hm.cellH (hcell k u hu)) hcr.one1 hz h0 hb hb2 (fun v' => (q ds v').app)) o ho w hm a' ha next Q ?_
    rintro v' w' Hs' O' ⟨rfl, rfl, h1⟩ hm'
    exact hn v' w' Hs' _ ⟨_, rfl, rfl, rfl, h1⟩ hm'
  · rintro v' Hs' O' ⟨rfl, rfl, _⟩ _ w hm
    exact hm.sub (fun x hx => List.mem_cons_of_mem _ (hsubH.h x hx)) (hsub ds v').h
  · rintro v' Hs' O' ⟨rfl, rfl, h1⟩
    exact h ds v' hcr h1
theorem DWf.call {La : List Operand} {ts : Array TypeId} {fid : FuncId} {vals : List Value} {H : Snap} {post : Snap → Value → Prop} (hi : opAt L i = some ⟨some d, .call ⟨.value (.func fid), La.toArray, ts⟩, ty, pos, aft, g⟩) (hg : guardIs L l g = some true) (hd : Nat.blt d n = true) (ha : opvL l La = some vals) [c : TCall P fid] (hcp : Pure P fid vals.toArray H post) [hH : InH Hs H]
    (h : ∀ v H', post H' v → H.le H' → DWf P f n E R L Hs0 O0 lt j dj T cs fuel (listed.setIfInBounds i true) k (H' :: Hs) O ((d, v) :: l)) : DWf P f n E R L Hs0 O0 lt j dj T cs (fuel + 1) listed k Hs O l := by
  refine DWf.step i (post := fun v Hs' O1 => ∃ H', post H' v ∧ H.le H' ∧ Hs' = H' :: Hs ∧ O1 = O) hij hi hj hc hrd hrd2 (fun o ho w hm a hρ next Q hn => ?_) (fun b o ho w hm a hρ next Q hn => ?_) hg hd hdj hnj ?_ ?_
  · refine (HV.call (E := E) (Hs := Hs) (O := O) ha hcp) o ho w hm a hρ next Q ?_
    rintro v w' Hs' O' ⟨H', O2, ⟨rfl, h1⟩, h2, rfl, rfl⟩ hm'
    exact hn v w' _ _ ⟨H', h1, h2, rfl, rfl⟩ hm'
  · refine (HV.call (E := E) (Hs := Hs) (O := O ++ [.blk b T cs]) (opvL_app ha) hcp) o ho w hm a hρ next Q ?_
    rintro v w' Hs' O' ⟨H', O2, ⟨rfl, h1⟩, h2, rfl, rfl⟩ hm'
    exact hn v w' _ _ ⟨O, rfl, H', h1, h2, rfl, rfl⟩ hm'
  · rintro v Hs' O' ⟨H', _, _, rfl, rfl⟩ hsub w hm
    exact hsub w (hm.sub (fun x hx => List.mem_cons_of_mem _ (List.mem_cons_of_mem _ hx)) (List.Sublist.refl _))
  · rintro v Hs' O' ⟨H', h1, h2, rfl, rfl⟩
    exact h v H' h1 h2
end
theorem DWf.freeze {O' : List Own} {H : Snap} (v : Value) {Tv : TypeId} {sz m : Nat} {xs : List Value} [q : DelRow O v Tv sz m xs O'] [i : InH Hs H] (hM : E.M = []) (hO : SubO O0 O') (hH : SubH Hs0 Hs)
    (h : ∀ H', H.le H' → IsSl v m → (∀ j u, xs[j]? = some u → H'.cell (vat v j) = some u) → DWf P f n E R L Hs0 O0 lt j dj T cs fuel listed k (H' :: Hs) O' l) : DWf P f n E R L Hs0 O0 lt j dj T cs fuel listed k Hs O l := by
  have hs : ∀ H', ∀ w, Mem E w (H' :: Hs) O' → Mem E w Hs0 O0 := fun H' w hm => hm.sub (fun x hx => List.mem_cons_of_mem _ (List.mem_cons_of_mem _ (hH.h x hx))) hO.h
  intro _
  refine ⟨fun _ w hm => ?_, fun b _ w hm => ?_⟩
  · obtain ⟨H', h1, h2, h3, h4⟩ := hm.freezeRow (q := q) (i := i) hM
    exact (h H' h1 h2 h3 (hs H')).1 (fun _ => hs H') w h4
  · have q2 : DelRow (O ++ [.blk b T cs]) v Tv sz m xs (O' ++ [.blk b T cs]) := ⟨q.h.append_right _⟩
    obtain ⟨H', h1, h2, h3, h4⟩ := hm.freezeRow (q := q2) (i := i) hM
    exact (h H' h1 h2 h3 (hs H')).2 b (fun _ w hm => hs H' w hm.subApp) w h4
/-- An operation that looks at slots alone. -/
theorem DWf.qF (i : Nat) {op : Op} {v : Value} (hij : Nat.beq i j = false) (hi : opAt L i = some ⟨some d, op, ty, pos, aft, g⟩) (hc : (takeOk L listed i && takeOk L (listed.setIfInBounds j true) i) = true) (hq : QF P l op v) (hq2 : ∀ m, QF P (l ++ m) op v) (hg : guardIs L l g = some true) (hd : Nat.blt d n = true)
    (h : DWf P f n E R L Hs0 O0 lt j dj T cs fuel (listed.setIfInBounds i true) k Hs O ((d, v) :: l)) : DWf P f n E R L Hs0 O0 lt j dj T cs (fuel + 1) listed k Hs O l := by
  have hne : i ≠ j := fun e => by rw [e] at hij; simp at hij
  rw [Bool.and_eq_true] at hc
  intro hsub
  refine ⟨DW.qF i hi hc.1 hq hg hd (h hsub).1, fun b => DW.qF i hi hc.2 (hq2 _) (guardIs_app hg) hd ?_⟩
  have := (h hsub).2 b
  rw [Array.setIfInBounds_comm _ _ hne] at this
  exact this
/-- Nothing else is left that may come up: now the allocation is made. -/
theorem DWf.take {z : Value} [t : TZero P T z] (hj : opAt L j = some ⟨some dj, .alloc T, ty, pos, aft, none⟩) (hrd : (Region.ready .any L.toArray listed == [j]) = true) (hc : cellsO z = some cs) (hdj : Nat.blt dj n = true) (hnj : (efind l dj).isNone = true)
    (h : ∀ b, DW P f n E R L Hs0 O0 lt true fuel (listed.setIfInBounds j true) k Hs (O ++ [.blk b T cs]) (l ++ [(dj, .pointer (some ⟨b, 0, none⟩))])) : DWf P f n E R L Hs0 O0 lt j dj T cs fuel listed k Hs O l := by
  intro hsub
  refine ⟨fun hsub' w hm a ha => ?_, h⟩
  refine DW.all hrd rfl (fun x hx w hs hm a ha => ?_) hsub' w hm a ha
  rw [List.mem_singleton] at hx
  subst hx
  rw [opAt_eq] at hj
  unfold wpOp
  simp only [hj]
  rw [guardIs_spec (o := ⟨some dj, .alloc T, ty, pos, aft, none⟩) ha (by rfl), if_pos rfl]
  refine .inl ((HV.alloc (P := P) (E := E) (Hs := Hs) (O := O) (l := l) (T := T) (z := z)) ⟨some dj, .alloc T, ty, pos, aft, none⟩ rfl w hm a (fun x u hx => ha.eval hx) _ _ ?_)
  rintro v w' Hs' O' ⟨rfl, b, rfl, rfl⟩ hm'
  rw [cellsO_eq hc] at hm'
  have hm2 : Mem E w' Hs' (O ++ [.blk b T cs]) := hm'.perm (perm_last _ O)
  exact ⟨fun _ _ => hsub w' hm2.subApp, fun _ => hm2.agr _ (List.mem_cons_self ..), h b (fun _ w hm => hsub w hm.subApp) w' hm2 _ (ha.put_app dj _ hdj hnj)⟩
end
end Go.Proofs.Ytbiohkncdlhigaa

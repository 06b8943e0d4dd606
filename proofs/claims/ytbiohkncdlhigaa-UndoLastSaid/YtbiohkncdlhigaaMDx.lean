/-
  More steps: append onto a full slice of what is handed in, and calls that write what is ours. Conditions: none.
  General facts on lists, rows and snapshots, and more steps of the walks. Conditions: none. Over any program.
  More steps of the walks: allocations in drawn regions, tests of truth values, joins behind a region. Conditions: none.
-/
import Derived.Test.YtbiohkncdlhigaaRun
import Derived.ArgAppend
namespace Go.Proofs.Ytbiohkncdlhigaa
open Go Go.RowKit
section
variable {P : Program} {f : FuncId} {n : Nat} {E : Ent} {R : Value → World → Prop} {k : List Item} {Hs : List Snap} {O : List Own} {l : Env} {L : List Oper} {os : List Oper} {d : Nat} {ty : TypeId} {pos : String} {aft : Array Edge} {g : Option (Nat × Bool)}

class DelOwn (O : List Own) (x : Own) (O' : outParam (List Own)) : Prop where
  h : O.Perm (x :: O')
instance (priority := high) {O : List Own} {x : Own} : DelOwn (x :: O) x O := ⟨List.Perm.refl _⟩
instance {O O' : List Own} {x y : Own} [i : DelOwn O x O'] : DelOwn (y :: O) x (y :: O') := ⟨(List.Perm.cons y i.h).trans (List.Perm.swap ..)⟩
class SplitO (O O1 : List Own) (F : outParam (List Own)) : Prop where
  h : O.Perm (O1 ++ F)
instance {O : List Own} : SplitO O [] O := ⟨List.Perm.refl _⟩
instance {O O' O1 F : List Own} {x : Own} [i : DelOwn O x O'] [j : SplitO O' O1 F] : SplitO O (x :: O1) F := ⟨i.h.trans (List.Perm.cons x j.h)⟩

theorem RW.callO {fx : Operand} {La : List Operand} {ts : Array TypeId} {fid : FuncId} {vals : List Value} {H : Snap} {O1 F : List Own} {post : Snap → List Own → Value → Prop} (hf : opv l fx = some (.func (.func fid) #[] #[])) (ha : opvL l La = some vals) [c : TCall P fid] (hc : Ctr P fid vals.toArray H O1 post) [hH : InH Hs H] [hO : SplitO O O1 F] (hg : guardIs L l g = some true) (hd : Nat.blt d n = true)
    (h : ∀ v H' O2, post H' O2 v → H.le H' → RW P f n E R L.toArray os k (H' :: Hs) (O2 ++ F) ((d, v) :: l)) : RW P f n E R L.toArray (⟨some d, .call ⟨.value fx, La.toArray, ts⟩, ty, pos, aft, g⟩ :: os) k Hs O l :=
  RW.h (HV.callF (cap := []) hf ha (by simpa using hc) hO.h) hg hd (by rintro v Hs' O' ⟨H', O2, h1, h2, rfl, rfl⟩; exact h v H' O2 h1 h2)
section
variable {Hs0 : List Snap} {O0 : List Own} {lt : List Nat} {st : Bool} {fuel : Nat} {listed : Array Bool}
/-- A call through a function value that writes nothing of ours. -/
theorem DW.callP (i : Nat) {fx : Operand} {La : List Operand} {ts : Array TypeId} {fid : FuncId} {vals : List Value} {H : Snap} {post : Snap → Value → Prop} (hi : opAt L i = some ⟨some d, .call ⟨.value fx, La.toArray, ts⟩, ty, pos, aft, g⟩)
    (hrd : (Region.ready .any L.toArray listed == [i]) = true) (hf : opv l fx = some (.func (.func fid) #[] #[])) (ha : opvL l La = some vals) [c : TCall P fid] (hc : Pure P fid vals.toArray H post) [hH : InH Hs H] (hg : guardIs L l g = some true) (hd : Nat.blt d n = true)
    (h : ∀ v H', post H' v → DW P f n E R L Hs0 O0 lt true fuel (listed.setIfInBounds i true) k Hs O ((d, v) :: l)) : DW P f n E R L Hs0 O0 lt true (fuel + 1) listed k Hs O l := by
  intro hsub
  have hc' : Ctr P fid (vals ++ []).toArray H [] (fun H' O' v => O' = [] ∧ post H' v) := by rw [List.append_nil]; exact hc
  refine DW.h i true hi hrd (HV.callF (cap := []) (O1 := []) (F := O) hf ha hc' (List.Perm.refl _)) hg hd (by simp) ?_ hsub
  rintro v Hs' O' ⟨H', O2, ⟨e1, h1⟩, h2, e2, e3⟩
  rw [e1, List.nil_append] at e3
  rw [e2, e3]
  have hs2 : ∀ w, Mem E w (H' :: Hs) O → Mem E w Hs O := fun w hm => hm.sub (fun x hx => List.mem_cons_of_mem _ (List.mem_cons_of_mem _ hx)) (List.Sublist.refl _)
  exact ⟨fun _ w hm => hsub rfl w (hs2 w hm), fun _ w hm => h v H' h1 hsub w (hs2 w hm)⟩
/-- An operation that only looks, among the late ones. -/
theorem DW.qL (i : Nat) {op : Op} {v : Value} (hi : opAt L i = some ⟨some d, op, ty, pos, aft, g⟩) (hrd : (Region.ready .any L.toArray listed == [i]) = true) (hlt : lt.contains i = true) (hq : QV P E Hs O l op v) (hg : guardIs L l g = some true) (hd : Nat.blt d n = true)
    (h : DW P f n E R L Hs0 O0 lt false fuel (listed.setIfInBounds i true) k Hs O ((d, v) :: l)) : DW P f n E R L Hs0 O0 lt st (fuel + 1) listed k Hs O l := by
  refine DW.h i false hi hrd (HV.of_QV hq) hg hd (by rw [hlt]; rfl) ?_
  rintro u Hs' O' ⟨rfl, rfl, rfl⟩
  exact ⟨fun e => (by cases e), h⟩
/-- A call that writes what is ours, behind which nothing looks at it. -/
theorem DW.callO (i : Nat) {fx : Operand} {La : List Operand} {ts : Array TypeId} {fid : FuncId} {vals : List Value} {H : Snap} {O1 F : List Own} {post : Snap → List Own → Value → Prop} (hi : opAt L i = some ⟨some d, .call ⟨.value fx, La.toArray, ts⟩, ty, pos, aft, g⟩)
    (hrd : (Region.ready .any L.toArray listed == [i]) = true) (hlt : lt.contains i = true) (hf : opv l fx = some (.func (.func fid) #[] #[])) (ha : opvL l La = some vals) [c : TCall P fid] (hc : Ctr P fid vals.toArray H O1 post) [hH : InH Hs H] [hO : SplitO O O1 F] (hg : guardIs L l g = some true) (hd : Nat.blt d n = true)
    (h : ∀ v H' O2, post H' O2 v → H.le H' → DW P f n E R L Hs0 O0 lt false fuel (listed.setIfInBounds i true) k (H' :: Hs) (O2 ++ F) ((d, v) :: l)) : DW P f n E R L Hs0 O0 lt st (fuel + 1) listed k Hs O l := by
  have hc' : Ctr P fid (vals ++ []).toArray H O1 post := by rw [List.append_nil]; exact hc
  refine DW.h i false hi hrd (HV.callF (cap := []) hf ha hc' hO.h) hg hd (by rw [hlt]; rfl) ?_
  rintro v Hs' O' ⟨H', O2, h1, h2, rfl, rfl⟩
  exact ⟨fun e => (by cases e), h v H' O2 h1 h2⟩
end

theorem HV.appendF {T e : TypeId} {x y : Operand} {v vy z : Value} {sz bytes a m : Nat} {xs ds : List Value} [t : TDesc P T (.slice e)] [j : TInfo P e z sz bytes] (hx : opv l x = some v) (hy : opv l y = some vy) (hv : IsSl v a) (hcap : capOf v = a) (hxl : xs.length = a * sz) (hxc : ∀ w, Mem E w Hs O → ∀ k u, xs[k]? = some u → w.cell? (vat v k) = some u)
    (hs : IsSl vy m) (hm0 : 0 < m) (hd : ds.length = m * sz)
    (hc : ∀ w, Mem E w Hs O → ∀ k u, ds[k]? = some u → w.cell? (vat vy k) = some u) (h1 : ∀ u ∈ ds, one1 u = true) (hz : Nat.beq (cellsL z).length sz = true) (h0 : sz ≠ 0) (hb : (a + m) * bytes ≤ 140737488355328) (hb2 : a + m ≤ 140737488355328) :
    HV P E Hs O l (.call ⟨.builtin .append, #[x, y], #[T, T]⟩) (fun v' Hs' O2 => Hs' = Hs ∧ O2 = .row e sz v' (a + m) (xs ++ ds) :: O ∧ IsSl v' (a + m)) := by
  refine HV.of_exec fun o' ho w hm ρ hρ => ?_
  obtain ⟨ti, g1, g2, g3, g4⟩ := j.h
  obtain ⟨A, cap, rfl, hlc, hcm, hA⟩ := hs
  obtain ⟨b, off, rfl⟩ := hA hm0
  obtain ⟨B, capB, rfl, hlB, hcB, hB⟩ := hv
  simp only [capOf] at hcap
  subst hcap
  have hcells : ∀ k u, ds[k]? = some u → w.cell? ((⟨b, off, none⟩ : Addr).add k) = some u := fun k u hu => by
    rw [Addr.add_lit]; exact hc w hm k u hu
  have hzz : z.cells.size = sz := by rw [cellsL_eq]; simpa using Nat.eq_of_beq_eq_true hz
  have key : ∃ v' w', (Builtin.append_ #[T, T] o'.type #[.slice B capB capB, .slice (some ⟨b, off, none⟩) m cap]).run P w = .ok v' w' ∧ w'.ownsRow 0 e sz v' (capB + m) (xs ++ ds) ∧ w.grownBy w' none ∧ (∀ q, v'.ownBlock = some q → w.heap.size ≤ q) := by
    cases B with
    | none =>
      have ha0 : capB = 0 := by
        rcases Nat.eq_zero_or_pos capB with h | h
        · exact h
        · obtain ⟨b, off, h2⟩ := hB h; cases h2
      subst ha0
      have hx0 : xs = [] := List.eq_nil_of_length_eq_zero (by simpa using hxl)
      subst hx0
      obtain ⟨v', w', hr, h2, h3, _, h4⟩ := run_append_own_at (P := P) w 0 T o'.type e ti z sz bytes t.h g1 g2 g3 g4 hzz (by omega) (.slice none 0 0) 0 [] (World.ownsRow_nil w 0 e sz) ⟨b, off, none⟩ m cap ds hd hcells (fun u hu => one1_eq (h1 u hu)) (by simp only [maxLen]; omega) hb (Nat.zero_le _)
      refine ⟨v', w', hr, h2, by simpa [Value.ownBlock] using h3, fun q hq => ?_⟩
      rcases h4 with h4 | h4
      · rw [h4] at hq; simp [Value.ownBlock] at hq
      · rw [h4] at hq; injection hq with hq; omega
    | some ad =>
      have hsp : capB ≠ 0 → ad.spot = none := fun hm0 => by
        obtain ⟨b, off, h2⟩ := hB (by omega)
        injection h2 with h2; subst h2; rfl
      have hxcells : ∀ k u, xs[k]? = some u → w.cell? (ad.add k) = some u := by
        intro k u hu
        by_cases hm0 : capB = 0
        · subst hm0
          have hds : xs = [] := List.eq_nil_of_length_eq_zero (by simpa using hxl)
          subst hds; simp at hu
        · have h2 := hxc w hm k u hu
          have h3 := hsp hm0
          obtain ⟨b, off, sp⟩ := ad
          simp only at h3
          subst h3
          rw [Addr.add_lit]
          exact h2
      obtain ⟨v', w', hr, h2, h3⟩ := run_append_arg_grows (P := P) w T o'.type e ti z sz bytes t.h g1 g2 g3 g4 hzz (by omega) ad capB capB xs hxl hxcells ⟨b, off, none⟩ m cap ds hd hcells (by omega) (by simp only [maxLen]; omega) hb
      refine ⟨v', w', hr, ⟨h2.1, ?_⟩, h3, fun q hq => ?_⟩
      · rcases h2.2 with h | ⟨b, cap, cur, e1, _, e2⟩
        · exact .inl h
        · exact .inr ⟨b, cap, cur, e1, Nat.zero_le _, e2⟩
      · rcases h2.2 with ⟨h, _⟩ | ⟨b, cap, cur, e1, e3, e2⟩
        · rw [h] at hq; simp [Value.ownBlock] at hq
        · rw [e1] at hq; simp [Value.ownBlock] at hq; omega
  obtain ⟨v', w', hr, h2, h3, h4⟩ := key
  have hm2 := hm.addNil e sz
  refine ⟨v', w', Hs, _, ⟨rfl, rfl, row_isSl h2⟩, hm2.change (y := .row e sz v' (capB + m) (xs ++ ds)) h3.os h3.tape h3.output h3.size (fun k hk hne => h3.block k hk (by simp)) h2 (fun b hb => .inr (h4 b hb)), .inl ?_⟩
  simp [execOp, ho, resolve, invoke, builtin, hρ _ _ hx, hρ _ _ hy, hr]
/-- Append of what a row of ours holds onto a full slice of a snapshot. -/
theorem DW.appendF {Hs0 : List Snap} {O0 : List Own} {lt : List Nat} {fuel : Nat} {listed : Array Bool} (i : Nat) {α : Type} {A : Lay α} {H : Snap} {ys : List α} {T e : TypeId} {x y : Operand} {v vy z : Value} {sz bytes m : Nat} {ds : List Value} (hi : opAt L i = some ⟨some d, .call ⟨.builtin .append, #[x, y], #[T, T]⟩, ty, pos, aft, g⟩) (hrd : (Region.ready .any L.toArray listed == [i]) = true) [t : TDesc P T (.slice e)] [j : TInfo P e z sz bytes]
    (hx : opv l x = some v) (hy : opv l y = some vy) (hr : SliceRep H A v ys) [iH : InH Hs H] (hcap : capOf v = ys.length) [q2 : GetRow O vy e sz m ds] (hs : IsSl vy m) (hm0 : 0 < m) (hsz : A.sz = sz) (hd' : Nat.beq ds.length (m * sz) = true)
    (h1 : allOne ds = true) (hz : Nat.beq (cellsL z).length sz = true) (h0 : sz ≠ 0) (hb : (ys.length + m) * bytes ≤ 140737488355328) (hb2 : ys.length + m ≤ 140737488355328) (hg : guardIs L l g = some true) (hd : Nat.blt d n = true)
    (h : ∀ xs v', CellsRep H A ys xs → IsSl v' (ys.length + m) → DW P f n E R L Hs0 O0 lt true fuel (listed.setIfInBounds i true) k Hs (.row e sz v' (ys.length + m) (xs ++ ds) :: O) ((d, v') :: l)) : DW P f n E R L Hs0 O0 lt true (fuel + 1) listed k Hs O l := by
  intro hsub
  obtain ⟨hvs, xs, hcr, hcell⟩ := hr
  refine DW.h i true hi hrd (HV.appendF hx hy hvs hcap (by rw [hcr.length, hsz]) (fun w hm k u hu => hm.cellH (hcell k u hu)) hs hm0 (Nat.eq_of_beq_eq_true hd') (fun w hm k u hu => hm.cellR hu) (allOne_eq h1) hz h0 hb hb2) hg hd (by simp) ?_ hsub
  rintro v' Hs' O' ⟨rfl, rfl, h2⟩
  have hs2 : ∀ w, Mem E w Hs' (.row e sz v' (ys.length + m) (xs ++ ds) :: O) → Mem E w Hs' O := fun w hm => hm.sub (fun x hx => List.mem_cons_of_mem _ hx) (List.sublist_cons_self _ _)
  exact ⟨fun _ w hm => hsub rfl w (hs2 w hm), fun _ w hm => h xs v' hcr h2 (fun _ w hm => hsub rfl w (hs2 w hm)) w hm⟩
end
end Go.Proofs.Ytbiohkncdlhigaa
namespace Go.Proofs.Ytbiohkncdlhigaa
open Go Go.RowKit

theorem drop_cons_of {α : Type} {xs : List α} {k : Nat} {x : α} (h : xs[k]? = some x) : xs.drop k = x :: xs.drop (k + 1) := by
  obtain ⟨h1, h2⟩ := List.getElem?_eq_some_iff.1 h
  rw [List.drop_eq_getElem_cons h1, h2]
theorem flat_rep {α : Type} {H : Snap} {sz : Nat} {enc : α → List Value} {h0 : ∀ x, (enc x).length = sz} {h1 : ∀ x, ∀ u ∈ enc x, one1 u = true} : ∀ xs : List α, CellsRep H (Lay.flat sz enc h0 h1) xs (xs.flatMap enc)
  | [] => rfl
  | x :: xs => ⟨enc x, xs.flatMap enc, by simp, rfl, flat_rep xs⟩
theorem take_snoc_of {α : Type} {xs : List α} {k : Nat} {x : α} (h : xs[k]? = some x) : xs.take (k + 1) = xs.take k ++ [x] := by
  obtain ⟨h1, h2⟩ := List.getElem?_eq_some_iff.1 h
  rw [List.take_succ_eq_append_getElem h1, h2]
def isByte (x : Int) : Prop := 0 ≤ x ∧ x ≤ 255
/-- Lists of slices. -/
def SlL {α : Type} (L : Lay α) : Lay (List α) where
  sz := 1
  rep H xs c := ∃ v, c = [v] ∧ SliceRep H L v xs
  mono := by rintro H H' x c hle ⟨v, h1, h2⟩; exact ⟨v, h1, h2.mono hle⟩
  len := by rintro H x c ⟨v, rfl, _⟩; rfl
  one := by
    rintro H x c ⟨v, rfl, h⟩ u hu
    simp at hu; subst hu
    exact h.isSl.one1
theorem SliceRep.sl {α : Type} {L : Lay α} {H : Snap} {v : Value} {xs : List (List α)} (h : SliceRep H (SlL L) v xs) {k : Nat} {x : List α} (hx : xs[k]? = some x) : ∃ vl, SliceRep H L vl x ∧ H.cell (vat v (k * 1)) = some vl := by
  obtain ⟨c, ⟨vl, rfl, h1⟩, h2⟩ := h.at hx
  exact ⟨vl, h1, h2 0 vl rfl⟩
theorem split_at {α : Type} {xs : List α} {k : Nat} {x : α} (h : xs[k]? = some x) : xs = xs.take k ++ x :: xs.drop (k + 1) := by
  obtain ⟨h1, h2⟩ := List.getElem?_eq_some_iff.1 h
  rw [← h2]; simp
theorem ints_rep (H : Snap) (xs : List Int) : CellsRep H I64 xs (xs.map fun i => .int .i64 i) := by
  induction xs with
  | nil => rfl
  | cons x xs ih => exact ⟨[.int .i64 x], _, rfl, rfl, ih⟩
theorem setAt_set {α : Type} : ∀ (cs : List α) (i : Nat) (v : α), i < cs.length → setAt cs i v = some (cs.set i v)
  | [], i, v, h => by simp at h
  | c :: r, 0, v, h => by simp [setAt]
  | c :: r, i + 1, v, h => by simp only [setAt]; rw [setAt_set r i v (by simpa using h)]; rfl
/-- The entry of a table. -/
def tv (t : List Int) (j : Int) : Int := t[j.toNat]?.getD 0
theorem tv_at {t : List Int} {j : Nat} (h : j < t.length) : t[j]? = some (tv t (j : Int)) := by simp [tv, h]
theorem tv_set {t : List Int} {j : Nat} {v : Int} {i : Int} (hi : 0 ≤ i) (hj : j < t.length) : tv (t.set j v) i = if i = (j : Int) then v else tv t i := by
  unfold tv
  rw [List.getElem?_set]
  by_cases h : i = (j : Int)
  · rw [if_pos h, if_pos (by omega), if_pos hj]; rfl
  · rw [if_neg h, if_neg (by omega)]
def encI (t : List Int) : List Value := t.map fun i => .int .i64 i
theorem encI_at {t : List Int} {j : Nat} (h : j < t.length) : (encI t)[j]? = some (.int .i64 (tv t (j : Int))) := by simp [encI, tv, h]
theorem encI_at1 {t : List Int} {j : Nat} (h : j < t.length) : (encI t)[j * 1]? = some (.int .i64 (tv t (j : Int))) := by rw [Nat.mul_one]; exact encI_at h
theorem encI_set {t : List Int} {j : Nat} {v : Int} (h : j < t.length) : setAt (encI t) (j * 1) (.int .i64 v) = some (encI (t.set j v)) := by
  rw [Nat.mul_one, setAt_set _ _ _ (by simpa [encI] using h)]; simp [encI, List.map_set]
theorem encI_zero : ∀ N, repL N (cellsL (.int .i64 0)) = encI (List.replicate N 0)
  | 0 => rfl
  | N + 1 => by simp only [repL, encI_zero N, List.replicate_succ]; rfl
theorem tv_zero (N : Nat) (j : Int) : tv (List.replicate N 0) j = 0 := by
  unfold tv; rw [List.getElem?_replicate]; split <;> rfl
theorem foldl_congr {α β : Type} {f g : α → β → α} : ∀ (l : List β) (a : α), (∀ a x, x ∈ l → f a x = g a x) → l.foldl f a = l.foldl g a
  | [], a, _ => rfl
  | x :: r, a, h => by
    rw [List.foldl_cons, List.foldl_cons, h a x (List.mem_cons_self ..), foldl_congr r _ fun a y hy => h a y (List.mem_cons_of_mem _ hy)]
theorem foldl_take_succ {α β : Type} {f : α → β → α} {a : α} {l : List β} {k : Nat} {x : β} (h : l[k]? = some x) : (l.take (k + 1)).foldl f a = f ((l.take k).foldl f a) x := by
  rw [take_snoc_of h, List.foldl_append]; rfl
theorem i64_cells {H : Snap} : ∀ {xs : List Int} {ds : List Value}, CellsRep H I64 xs ds → ds = encI xs
  | [], ds, h => h
  | x :: xs, ds, h => by
    obtain ⟨c, r, rfl, h1, h2⟩ := h
    have h1 : c = [.int .i64 x] := h1
    rw [h1, i64_cells h2]; rfl
theorem putAll_mid {α : Type} : ∀ (c mid pre post : List α), mid.length = c.length → putAll (pre ++ mid ++ post) pre.length c = some (pre ++ c ++ post)
  | [], [], pre, post, _ => rfl
  | [], _ :: _, _, _, h => by simp at h
  | _ :: _, [], _, _, h => by simp at h
  | u :: c, m :: mid, pre, post, h => by
    have h1 : setAt (pre ++ m :: mid ++ post) pre.length u = some (pre ++ u :: mid ++ post) := by
      rw [setAt_set _ _ _ (by simp)]; simp
    have h2 := putAll_mid c mid (pre ++ [u]) post (by simpa using h)
    simp only [List.length_append, List.length_cons, List.length_nil, Nat.zero_add, List.append_assoc, List.cons_append, List.nil_append] at h1 h2 ⊢
    simp only [putAll, h1]
    exact h2
theorem CellsRep.split {α : Type} {H : Snap} {L : Lay α} : ∀ {a b : List α} {cs : List Value}, CellsRep H L (a ++ b) cs → ∃ ca cb, cs = ca ++ cb ∧ CellsRep H L a ca ∧ CellsRep H L b cb
  | [], b, cs, h => ⟨[], cs, rfl, rfl, h⟩
  | x :: a, b, cs, h => by
    obtain ⟨c, r, rfl, h1, h2⟩ := h
    obtain ⟨ca, cb, rfl, h3, h4⟩ := CellsRep.split (a := a) h2
    exact ⟨c ++ ca, cb, by simp, ⟨c, ca, rfl, h1, h3⟩, h4⟩
theorem CellsRep.put {α : Type} {H : Snap} {L : Lay α} {xs : List α} {cs c : List Value} {k s : Nat} {y : α} (h : CellsRep H L xs cs) (hk : k < xs.length) (hs : L.sz = s) (hy : L.rep H y c) : ∃ cs', putAll cs (k * s) c = some cs' ∧ CellsRep H L (xs.set k y) cs' := by
  subst hs
  obtain ⟨x, hx⟩ : ∃ x, xs[k]? = some x := ⟨_, List.getElem?_eq_getElem hk⟩
  have e := split_at hx
  rw [e] at h
  obtain ⟨ca, cb, rfl, h1, ⟨cx, cr, rfl, h2, h3⟩⟩ := h.split
  have hl : ca.length = k * L.sz := by rw [h1.length]; simp; rw [Nat.min_eq_left (by omega)]
  refine ⟨ca ++ c ++ cr, ?_, ?_⟩
  · rw [← hl, ← List.append_assoc]
    exact putAll_mid c cx ca cr (by rw [L.len h2, L.len hy])
  · have e2 : xs.set k y = xs.take k ++ y :: xs.drop (k + 1) := by
      rw [List.set_eq_take_append_cons_drop, if_pos hk]
    rw [e2, List.append_assoc]
    exact h1.append ⟨c, cr, rfl, hy, h3⟩
theorem own_shrink {w : World} {T sz n m : Nat} {v : Value} {xs : List Value} (h : w.ownsRow 0 T sz v n xs) (hm : m ≤ n) (h0 : 0 < n) : w.ownsRow 0 T sz (slv v sz 0 m (capOf v)) m (xs.take (m * sz)) ∧ (slv v sz 0 m (capOf v)).ownBlock = v.ownBlock := by
  obtain ⟨h1, h2⟩ := h
  rcases h2 with ⟨_, h2⟩ | ⟨g, cap, cur, rfl, _, hh, hnc, hcap, hcs, htake⟩
  · omega
  · have hc : ¬ cap = 0 := by omega
    refine ⟨⟨by rw [List.length_take, h1]; exact Nat.min_eq_left (Nat.mul_le_mul_right _ hm), .inr ⟨g, cap, cur, ?_, Nat.zero_le _, hh, by omega, hcap, hcs, ?_⟩⟩, ?_⟩
    · simp [slv, capOf, hc, Addr.add_lit]
    · rw [← htake, List.take_take, Nat.min_eq_left (Nat.mul_le_mul_right _ hm)]
    · simp [slv, capOf, hc, Value.ownBlock, Addr.add_lit]
theorem Runs.shrink {P : Program} {f : FuncId} {n : Nat} {E : Ent} {R : Value → World → Prop} {k : List Item} {Hs : List Snap} {O O' : List Own} {l : Env} (v : Value) {T : TypeId} {sz a : Nat} {xs : List Value} (m : Nat) [g : GetRow O v T sz a xs] (hm : m ≤ a) (h0 : 0 < a) [q : PutRow O v T sz a xs (slv v sz 0 m (capOf v)) m (xs.take (m * sz)) O']
    (h : Runs P f n E R k Hs O' l) : Runs P f n E R k Hs O l := by
  intro w hw
  obtain ⟨pre, post, rfl, rfl⟩ := q.h
  have h1 := own_shrink (hw.own _ g.h) hm h0
  refine h w (hw.changeAt (y := .row T sz (slv v sz 0 m (capOf v)) m (xs.take (m * sz))) rfl rfl rfl (Nat.le_refl _) (fun _ _ _ => rfl) h1.1 (fun b hb => .inl ?_))
  simp only [Own.foot] at hb ⊢
  rw [← h1.2]; exact hb
theorem CellsRep.takeN {α : Type} {H : Snap} {L : Lay α} {xs : List α} {cs : List Value} {m s : Nat} (h : CellsRep H L xs cs) (hs : L.sz = s) : CellsRep H L (xs.take m) (cs.take (m * s)) := by
  subst hs
  have := h.take_drop 0 m
  simpa using this
abbrev U8 : Lay Int := Lay.flat 1 (fun x => [.int .u8 x]) (fun _ => rfl) (by simp [one1])
theorem sum_le_mul {α : Type} (f : α → Nat) (B : Nat) : ∀ l : List α, (∀ x ∈ l, f x ≤ B) → (l.map f).sum ≤ l.length * B
  | [], _ => by simp
  | x :: l, h => by
    have h1 := h x (List.mem_cons_self ..)
    have h2 := sum_le_mul f B l fun y hy => h y (List.mem_cons_of_mem _ hy)
    simp only [List.map_cons, List.sum_cons, List.length_cons, Nat.succ_mul]
    omega
theorem min_ite (a b : Nat) : (if (b : Int) < (a : Int) then (b : Int) else (a : Int)) = ((min a b : Nat) : Int) := by split <;> omega
theorem flat_cells {α : Type} {H : Snap} {sz : Nat} {enc : α → List Value} {h0 : ∀ x, (enc x).length = sz} {h1 : ∀ x, ∀ u ∈ enc x, one1 u = true} : ∀ {xs : List α} {cs : List Value}, CellsRep H (Lay.flat sz enc h0 h1) xs cs → cs = xs.flatMap enc
  | [], cs, h => h
  | x :: xs, cs, ⟨c, r, e, h2, h3⟩ => by
    have h2 : c = enc x := h2
    rw [e, h2, flat_cells h3, List.flatMap_cons]
section
variable {P : Program} {f : FuncId} {n : Nat} {E : Ent} {R : Value → World → Prop} {k : List Item} {Hs : List Snap} {O : List Own} {l : Env} {L : List Oper}
/-- Two branches that come together. -/
theorem Runs.condJ {α : Type} {t : Nat} {c1 c2 : Code} {p : Prop} [Decidable p] (I : α → Prop) (sH : α → List Snap) (sO : α → List Own) (sl : α → Env) (hv : opv l (.tmp t) = some (.bool (decide p)))
    (h1 : p → (∀ s, I s → Runs P f n E R k (sH s) (sO s) (sl s)) → Runs P f n E R (.code c1 :: k) Hs O l) (h2 : ¬ p → (∀ s, I s → Runs P f n E R k (sH s) (sO s) (sl s)) → Runs P f n E R (.code c2 :: k) Hs O l)
    (hj : ∀ s, I s → Runs P f n E R k (sH s) (sO s) (sl s)) : Runs P f n E R (.code (.cond (.tmp t) c1 c2) :: k) Hs O l :=
  Runs.cond_d hv (fun h => h1 h hj) (fun h => h2 h hj)
/-- A call that writes what is ours and what no other operation of the region looks at. -/
theorem DW.callS {Hs0 : List Snap} {O0 : List Own} {lt : List Nat} {fuel : Nat} {listed : Array Bool} {d : Nat} {ty : TypeId} {pos : String} {aft : Array Edge} {g : Option (Nat × Bool)} (i : Nat) {fx : Operand} {La : List Operand} {ts : Array TypeId} {fid : FuncId} {vals : List Value} {H : Snap} {O1 F : List Own} {post : Snap → List Own → Value → Prop} (hi : opAt L i = some ⟨some d, .call ⟨.value fx, La.toArray, ts⟩, ty, pos, aft, g⟩)
    (hrd : (Region.ready .any L.toArray listed == [i]) = true) (hf : opv l fx = some (.func (.func fid) #[] #[])) (ha : opvL l La = some vals) [c : TCall P fid] (hc : Ctr P fid vals.toArray H O1 post) [hH : InH Hs H] [hO : SplitO O O1 F] (hg : guardIs L l g = some true) (hd : Nat.blt d n = true) (hsub : SubO O0 F) (hsubH : SubH Hs0 Hs)
    (h : ∀ v H' O2, post H' O2 v → H.le H' → DW P f n E R L Hs0 O0 lt true fuel (listed.setIfInBounds i true) k (H' :: Hs) (O2 ++ F) ((d, v) :: l)) : DW P f n E R L Hs0 O0 lt true (fuel + 1) listed k Hs O l := by
  have hc' : Ctr P fid (vals ++ []).toArray H O1 post := by rw [List.append_nil]; exact hc
  refine DW.h i true hi hrd (HV.callF (cap := []) hf ha hc' hO.h) hg hd (by simp) ?_
  rintro v Hs' O' ⟨H', O2, h1, h2, rfl, rfl⟩
  exact ⟨fun _ w hm => hm.sub (fun x hx => List.mem_cons_of_mem _ (List.mem_cons_of_mem _ (hsubH.h x hx))) (hsub.h.trans (List.sublist_append_right ..)), h v H' O2 h1 h2⟩
theorem DW.freeze {Hs0 : List Snap} {O0 : List Own} {lt : List Nat} {fuel : Nat} {listed : Array Bool} {O' : List Own} {H : Snap} (v : Value) {T : TypeId} {sz m : Nat} {xs : List Value} [q : DelRow O v T sz m xs O'] [i : InH Hs H] (hM : E.M = []) (hO : SubO O0 O') (hH : SubH Hs0 Hs)
    (h : ∀ H', H.le H' → IsSl v m → (∀ j u, xs[j]? = some u → H'.cell (vat v j) = some u) → DW P f n E R L Hs0 O0 lt true fuel listed k (H' :: Hs) O' l) : DW P f n E R L Hs0 O0 lt true fuel listed k Hs O l := by
  intro _ w hm
  obtain ⟨H', h1, h2, h3, h4⟩ := hm.freezeRow (q := q) (i := i) hM
  exact h H' h1 h2 h3 (fun _ w hm => hm.sub (fun x hx => List.mem_cons_of_mem _ (List.mem_cons_of_mem _ (hH.h x hx))) hO.h) w h4
end
end Go.Proofs.Ytbiohkncdlhigaa
namespace Go.Proofs.Ytbiohkncdlhigaa
open Go Go.RowKit

section
variable {P : Program} {f : FuncId} {n : Nat} {E : Ent} {R : Value → World → Prop} {k : List Item} {Hs : List Snap} {O : List Own} {l : Env} {L : List Oper} {os : List Oper} {d : Nat} {ty : TypeId} {pos : String} {aft : Array Edge} {g : Option (Nat × Bool)}
  {Hs0 : List Snap} {O0 : List Own} {lt : List Nat} {st : Bool} {fuel : Nat} {listed : Array Bool}
theorem DW.alloc (i : Nat) {T : TypeId} {z : Value} {cs : List Value} [t : TZero P T z] (hi : opAt L i = some ⟨some d, .alloc T, ty, pos, aft, g⟩) (hrd : (Region.ready .any L.toArray listed == [i]) = true) (hc : cellsO z = some cs) (hg : guardIs L l g = some true) (hd : Nat.blt d n = true)
    (h : ∀ b, DW P f n E R L Hs0 O0 lt true fuel (listed.setIfInBounds i true) k Hs (.blk b T cs :: O) ((d, .pointer (some ⟨b, 0, none⟩)) :: l)) : DW P f n E R L Hs0 O0 lt true (fuel + 1) listed k Hs O l := by
  intro hsub
  refine DW.h i true hi hrd HV.alloc hg hd (by simp) ?_ hsub
  rintro v Hs' O' ⟨rfl, b, rfl, rfl⟩
  rw [cellsO_eq hc]
  have hs2 : ∀ w, Mem E w Hs' (.blk b T cs :: O) → Mem E w Hs' O := fun w hm => hm.sub (fun x hx => List.mem_cons_of_mem _ hx) (List.sublist_cons_self _ _)
  exact ⟨fun _ w hm => hsub rfl w (hs2 w hm), fun _ w hm => h b (fun _ w hm => hsub rfl w (hs2 w hm)) w hm⟩
theorem DW.box (i : Nat) {T : TypeId} {x : Operand} {u : Value} {cs : List Value} (hi : opAt L i = some ⟨some d, .box T x, ty, pos, aft, g⟩) (hrd : (Region.ready .any L.toArray listed == [i]) = true) (hx : opv l x = some u) (hc : cellsO u = some cs) (hg : guardIs L l g = some true) (hd : Nat.blt d n = true)
    (h : ∀ b, DW P f n E R L Hs0 O0 lt true fuel (listed.setIfInBounds i true) k Hs (.blk b T cs :: O) ((d, .pointer (some ⟨b, 0, none⟩)) :: l)) : DW P f n E R L Hs0 O0 lt true (fuel + 1) listed k Hs O l := by
  intro hsub
  refine DW.h i true hi hrd (HV.box hx) hg hd (by simp) ?_ hsub
  rintro v Hs' O' ⟨rfl, b, rfl, rfl⟩
  rw [cellsO_eq hc]
  have hs2 : ∀ w, Mem E w Hs' (.blk b T cs :: O) → Mem E w Hs' O := fun w hm => hm.sub (fun x hx => List.mem_cons_of_mem _ hx) (List.sublist_cons_self _ _)
  exact ⟨fun _ w hm => hsub rfl w (hs2 w hm), fun _ w hm => h b (fun _ w hm => hsub rfl w (hs2 w hm)) w hm⟩
theorem RW.join {ops : Array Oper} {Hs' : List Snap} {O' : List Own} {l' : Env} (h1 : Runs P f n E R k Hs' O' l' → RW P f n E R ops os k Hs O l) (h2 : Runs P f n E R k Hs' O' l') : RW P f n E R ops os k Hs O l := h1 h2
theorem DW.join {Hs' : List Snap} {O' : List Own} {l' : Env} (h1 : Runs P f n E R k Hs' O' l' → DW P f n E R L Hs0 O0 lt st fuel listed k Hs O l) (h2 : Runs P f n E R k Hs' O' l') : DW P f n E R L Hs0 O0 lt st fuel listed k Hs O l := h1 h2
end
theorem QF.eqlB {P : Program} {l : Env} {T T' : TypeId} {x y : Operand} {a b : Bool} [t : TDesc P T .bool] (hx : opv l x = some (.bool a)) (hy : opv l y = some (.bool b)) : QF P l (.binOp .eql T x y T') (.bool (a == b)) := by
  intro o ho ρ hρ w
  simp [execOp, ho, hρ _ _ hx, hρ _ _ hy, eqGuard_at_bool, run_eql_bool w T a b t.h]
theorem QF.neqB {P : Program} {l : Env} {T T' : TypeId} {x y : Operand} {a b : Bool} [t : TDesc P T .bool] (hx : opv l x = some (.bool a)) (hy : opv l y = some (.bool b)) : QF P l (.binOp .neq T x y T') (.bool (a != b)) := by
  intro o ho ρ hρ w
  simp [execOp, ho, hρ _ _ hx, hρ _ _ hy, eqGuard_at_bool, run_neq_bool w T a b t.h]
  cases a <;> cases b <;> rfl
theorem QF.eqlP {P : Program} {l : Env} {T T' e : TypeId} {x y : Operand} {p : Option Addr} [t : TDesc P T (.pointer e)] (hx : opv l x = some (.pointer p)) (hy : opv l y = some (.pointer none)) : QF P l (.binOp .eql T x y T') (.bool p.isNone) := by
  intro o ho ρ hρ w
  have h : ∀ d : Nat, (Op.equalIn (d + 1) T (.pointer p) (.pointer none)).run P w = .ok p.isNone w := fun d => by
    cases p <;> simp [Op.equalIn, run_underlying t.h]
  have h2 : (binOp .eql T (.pointer p) (.pointer none)).run P w = .ok (.bool p.isNone) w := by
    simp only [binOp]
    simp [Op.equal, Op.maxDepth, h 9999]
  simp [execOp, ho, hρ _ _ hx, hρ _ _ hy, eqGuard_at_pointer, h2]
theorem QF.neqP {P : Program} {l : Env} {T T' e : TypeId} {x y : Operand} {p : Option Addr} [t : TDesc P T (.pointer e)] (hx : opv l x = some (.pointer p)) (hy : opv l y = some (.pointer none)) : QF P l (.binOp .neq T x y T') (.bool p.isSome) := by
  intro o ho ρ hρ w
  have h : ∀ d : Nat, (Op.equalIn (d + 1) T (.pointer p) (.pointer none)).run P w = .ok p.isNone w := fun d => by
    cases p <;> simp [Op.equalIn, run_underlying t.h]
  have h2 : (binOp .neq T (.pointer p) (.pointer none)).run P w = .ok (.bool p.isSome) w := by
    simp only [binOp]
    simp [Op.equal, Op.maxDepth, h 9999]
  simp [execOp, ho, hρ _ _ hx, hρ _ _ hy, eqGuard_at_pointer, h2]
abbrev I8 : Lay Int := Lay.flat 1 (fun x => [.int .i8 x]) (fun _ => rfl) (by simp [one1])
def isI8 (x : Int) : Prop := -128 ≤ x ∧ x ≤ 127
theorem QF.indexArrB {P : Program} {l : Env} {T e : TypeId} {x ix : Operand} {kd : IntKind} {b o len s : Nat} {i : Int} (hx : opv l x = some (.pointer (some ⟨b, o, none⟩))) (hi : opv l ix = some (.int kd i)) (hj : 0 ≤ i ∧ i.toNat < len) [t : TDesc P T (.array len e)] [z : TSz P e s] :
    QF P l (.indexAddr T x ix) (.pointer (some ⟨b, o + i.toNat * s, none⟩)) := by
  intro o' ho ρ hρ w
  obtain ⟨j, rfl⟩ : ∃ j : Nat, i = (j : Int) := ⟨i.toNat, by omega⟩
  simp only [Int.toNat_natCast] at hj ⊢
  have h6 : ¬ len ≤ j := by omega
  simp [execOp, ho, hρ _ _ hx, hρ _ _ hi, Instr.indexAt, asIntOf, run_underlying t.h, z.h, Instr.sureAddr, h6, Addr.add_lit]
end Go.Proofs.Ytbiohkncdlhigaa

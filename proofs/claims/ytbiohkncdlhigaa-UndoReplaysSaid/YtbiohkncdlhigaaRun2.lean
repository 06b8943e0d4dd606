/-
  More steps: append onto a full slice of what is handed in, and calls that write what is ours. Conditions: none.
-/
import Derived.Test.YtbiohkncdlhigaaRun
import Derived.ArgAppend
namespace Go.Proofs.Ytbiohkncdlhigaa
open Go Go.RowKit
section
variable {P : Program} {f : FuncId} {n : Nat} {E : Ent} {R : Value → World → Prop} {k : List Item} {Hs : List Snap} {O : List Own} {l : Env} {L : List Oper} {os : List Oper} {d : Nat} {ty : TypeId} {pos : String} {aft : Array Edge} {g : Option (Nat × Bool)}

class DelOwn (O : List Own) (x : Own) (O' : outParam (List Own)) : Prop where
  h : O.Perm (x :: O')
instance (priority := high) {O : List Own} {x : Own} : DelOwn (x :: O) x O := ⟨List.Perm.refl _⟩
instance {O O' : List Own} {x y : Own} [i : DelOwn O x O'] : DelOwn (y :: O) x (y :: O') := ⟨(List.Perm.cons y i.h).trans (List.Perm.swap ..)⟩
class SplitO (O O1 : List Own) (F : outParam (List Own)) : Prop where
  h : O.Perm (O1 ++ F)
instance {O : List Own} : SplitO O [] O := ⟨List.Perm.refl _⟩
instance {O O' O1 F : List Own} {x : Own} [i : DelOwn O x O'] [j : SplitO O' O1 F] : SplitO O (x :: O1) F := ⟨i.h.trans (List.Perm.cons x j.h)⟩

theorem RW.callO {fx : Operand} {La : List Operand} {ts : Array TypeId} {fid : FuncId} {vals : List Value} {H : Snap} {O1 F : List Own} {post : Snap → List Own → Value → Prop} (hf : opv l fx = some (.func (.func fid) #[] #[])) (ha : opvL l La = some vals) [c : TCall P fid] (hc : Ctr P fid vals.toArray H O1 post) [hH : InH Hs H] [hO : SplitO O O1 F] (hg : guardIs L l g = some true) (hd : Nat.blt d n = true)
    (h : ∀ v H' O2, post H' O2 v → H.le H' → RW P f n E R L.toArray os k (H' :: Hs) (O2 ++ F) ((d, v) :: l)) : RW P f n E R L.toArray (⟨some d, .call ⟨.value fx, La.toArray, ts⟩, ty, pos, aft, g⟩ :: os) k Hs O l :=
  RW.h (HV.callF (cap := []) hf ha (by simpa using hc) hO.h) hg hd (by rintro v Hs' O' ⟨H', O2, h1, h2, rfl, rfl⟩; exact h v H' O2 h1 h2)
section
variable {Hs0 : List Snap} {O0 : List Own} {lt : List Nat} {st : Bool} {fuel : Nat} {listed : Array Bool}
/-- A call through a function value that writes nothing of ours. -/
theorem DW.callP (i : Nat) {fx : Operand} {La : List Operand} {ts : Array TypeId} {fid : FuncId} {vals : List Value} {H : Snap} {post : Snap → Value → Prop} (hi : opAt L i = some ⟨some d, .call ⟨.value fx, La.toArray, ts⟩, ty, pos, aft, g⟩)
    (hrd : (Region.ready .any L.toArray listed == [i]) = true) (hf : opv l fx = some (.func (.func fid) #[] #[])) (ha : opvL l La = some vals) [c : TCall P fid] (hc : Pure P fid vals.toArray H post) [hH : InH Hs H] (hg : guardIs L l g = some true) (hd : Nat.blt d n = true)
    (h : ∀ v H', post H' v → DW P f n E R L Hs0 O0 lt true fuel (listed.setIfInBounds i true) k Hs O ((d, v) :: l)) : DW P f n E R L Hs0 O0 lt true (fuel + 1) listed k Hs O l := by
  intro hsub
  have hc' : Ctr P fid (vals ++ []).toArray H [] (fun H' O' v => O' = [] ∧ post H' v) := by rw [List.append_nil]; exact hc
  refine DW.h i true hi hrd (HV.callF (cap := []) (O1 := []) (F := O) hf ha hc' (List.Perm.refl _)) hg hd (by simp) ?_ hsub
  rintro v Hs' O' ⟨H', O2, ⟨e1, h1⟩, h2, e2, e3⟩
  rw [e1, List.nil_append] at e3
  rw [e2, e3]
  have hs2 : ∀ w, Mem E w (H' :: Hs) O → Mem E w Hs O := fun w hm => hm.sub (fun x hx => List.mem_cons_of_mem _ (List.mem_cons_of_mem _ hx)) (List.Sublist.refl _)
  exact ⟨fun _ w hm => hsub rfl w (hs2 w hm), fun _ w hm => h v H' h1 hsub w (hs2 w hm)⟩
/-- An operation that only looks, among the late ones. -/
theorem DW.qL (i : Nat) {op : Op} {v : Value} (hi : opAt L i = some ⟨some d, op, ty, pos, aft, g⟩) (hrd : (Region.ready .any L.toArray listed == [i]) = true) (hlt : lt.contains i = true) (hq : QV P E Hs O l op v) (hg : guardIs L l g = some true) (hd : Nat.blt d n = true)
    (h : DW P f n E R L Hs0 O0 lt false fuel (listed.setIfInBounds i true) k Hs O ((d, v) :: l)) : DW P f n E R L Hs0 O0 lt st (fuel + 1) listed k Hs O l := by
  refine DW.h i false hi hrd (HV.of_QV hq) hg hd (by rw [hlt]; rfl) ?_
  rintro u Hs' O' ⟨rfl, rfl, rfl⟩
  exact ⟨fun e => (by cases e), h⟩
/-- A call that writes what is ours, behind which nothing looks at it. -/
theorem DW.callO (i : Nat) {fx : Operand} {La : List Operand} {ts : Array TypeId} {fid : FuncId} {vals : List Value} {H : Snap} {O1 F : List Own} {post : Snap → List Own → Value → Prop} (hi : opAt L i = some ⟨some d, .call ⟨.value fx, La.toArray, ts⟩, ty, pos, aft, g⟩)
    (hrd : (Region.ready .any L.toArray listed == [i]) = true) (hlt : lt.contains i = true) (hf : opv l fx = some (.func (.func fid) #[] #[])) (ha : opvL l La = some vals) [c : TCall P fid] (hc : Ctr P fid vals.toArray H O1 post) [hH : InH Hs H] [hO : SplitO O O1 F] (hg : guardIs L l g = some true) (hd : Nat.blt d n = true)
    (h : ∀ v H' O2, post H' O2 v → H.le H' → DW P f n E R L Hs0 O0 lt false fuel (listed.setIfInBounds i true) k (H' :: Hs) (O2 ++ F) ((d, v) :: l)) : DW P f n E R L Hs0 O0 lt st (fuel + 1) listed k Hs O l := by
  have hc' : Ctr P fid (vals ++ []).toArray H O1 post := by rw [List.append_nil]; exact hc
  refine DW.h i false hi hrd (HV.callF (cap := []) hf ha hc' hO.h) hg hd (by rw [hlt]; rfl) ?_
  rintro v Hs' O' ⟨H', O2, h1, h2, rfl, rfl⟩
  exact ⟨fun e => (by cases e), h v H' O2 h1 h2⟩
end

theorem HV.appendF {T e : TypeId} {x y : Operand} {v vy z : Value} {sz bytes a m : Nat} {xs ds : List Value} [t : TDesc P T (.slice e)] [j : TInfo P e z sz bytes] (hx : opv l x = some v) (hy : opv l y = some vy) (hv : IsSl v a) (hcap : capOf v = a) (hxl : xs.length = a * sz) (hxc : ∀ w, Mem E w Hs O → ∀ k u, xs[k]? = some u → w.cell? (vat v k) = some u)
    (hs : IsSl vy m) (hm0 : 0 < m) (hd : ds.length = m * sz)
    (hc : ∀ w, Mem E w Hs O → ∀ k u, ds[k]? = some u → w.cell? (vat vy k) = some u) (h1 : ∀ u ∈ ds, one1 u = true) (hz : Nat.beq (cellsL z).length sz = true) (h0 : sz ≠ 0) (hb : (a + m) * bytes ≤ 140737488355328) (hb2 : a + m ≤ 140737488355328) :
    HV P E Hs O l (.call ⟨.builtin .append, #[x, y], #[T, T]⟩) (fun v' Hs' O2 => Hs' = Hs ∧ O2 = .row e sz v' (a + m) (xs ++ ds) :: O ∧ IsSl v' (a + m)) := by
  refine HV.of_exec fun o' ho w hm ρ hρ => ?_
  obtain ⟨ti, g1, g2, g3, g4⟩ := j.h
  obtain ⟨A, cap, rfl, hlc, hcm, hA⟩ := hs
  obtain ⟨b, off, rfl⟩ := hA hm0
  obtain ⟨B, capB, rfl, hlB, hcB, hB⟩ := hv
  simp only [capOf] at hcap
  subst hcap
  have hcells : ∀ k u, ds[k]? = some u → w.cell? ((⟨b, off, none⟩ : Addr).add k) = some u := fun k u hu => by
    rw [Addr.add_lit]; exact hc w hm k u hu
  have hzz : z.cells.size = sz := by rw [cellsL_eq]; simpa using Nat.eq_of_beq_eq_true hz
  have key : ∃ v' w', (Builtin.append_ #[T, T] o'.type #[.slice B capB capB, .slice (some ⟨b, off, none⟩) m cap]).run P w = .ok v' w' ∧ w'.ownsRow 0 e sz v' (capB + m) (xs ++ ds) ∧ w.grownBy w' none ∧ (∀ q, v'.ownBlock = some q → w.heap.size ≤ q) := by
    cases B with
    | none =>
      have ha0 : capB = 0 := by
        rcases Nat.eq_zero_or_pos capB with h | h
        · exact h
        · obtain ⟨b, off, h2⟩ := hB h; cases h2
      subst ha0
      have hx0 : xs = [] := List.eq_nil_of_length_eq_zero (by simpa using hxl)
      subst hx0
      obtain ⟨v', w', hr, h2, h3, _, h4⟩ := run_append_own_at (P := P) w 0 T o'.type e ti z sz bytes t.h g1 g2 g3 g4 hzz (by omega) (.slice none 0 0) 0 [] (World.ownsRow_nil w 0 e sz) ⟨b, off, none⟩ m cap ds hd hcells (fun u hu => one1_eq (h1 u hu)) (by simp only [maxLen]; omega) hb (Nat.zero_le _)
      refine ⟨v', w', hr, h2, by simpa [Value.ownBlock] using h3, fun q hq => ?_⟩
      rcases h4 with h4 | h4
      · rw [h4] at hq; simp [Value.ownBlock] at hq
      · rw [h4] at hq; injection hq with hq; omega
    | some ad =>
      have hsp : capB ≠ 0 → ad.spot = none := fun hm0 => by
        obtain ⟨b, off, h2⟩ := hB (by omega)
        injection h2 with h2; subst h2; rfl
      have hxcells : ∀ k u, xs[k]? = some u → w.cell? (ad.add k) = some u := by
        intro k u hu
        by_cases hm0 : capB = 0
        · subst hm0
          have hds : xs = [] := List.eq_nil_of_length_eq_zero (by simpa using hxl)
          subst hds; simp at hu
        · have h2 := hxc w hm k u hu
          have h3 := hsp hm0
          obtain ⟨b, off, sp⟩ := ad
          simp only at h3
          subst h3
          rw [Addr.add_lit]
          exact h2
      obtain ⟨v', w', hr, h2, h3⟩ := run_append_arg_grows (P := P) w T o'.type e ti z sz bytes t.h g1 g2 g3 g4 hzz (by omega) ad capB capB xs hxl hxcells ⟨b, off, none⟩ m cap ds hd hcells (by omega) (by simp only [maxLen]; omega) hb
      refine ⟨v', w', hr, ⟨h2.1, ?_⟩, h3, fun q hq => ?_⟩
      · rcases h2.2 with h | ⟨b, cap, cur, e1, _, e2⟩
        · exact .inl h
        · exact .inr ⟨b, cap, cur, e1, Nat.zero_le _, e2⟩
      · rcases h2.2 with ⟨h, _⟩ | ⟨b, cap, cur, e1, e3, e2⟩
        · rw [h] at hq; simp [Value.ownBlock] at hq
        · rw [e1] at hq; simp [Value.ownBlock] at hq; omega
  obtain ⟨v', w', hr, h2, h3, h4⟩ := key
  have hm2 := hm.addNil e sz
  refine ⟨v', w', Hs, _, ⟨rfl, rfl, row_isSl h2⟩, hm2.change (y := .row e sz v' (capB + m) (xs ++ ds)) h3.os h3.tape h3.output h3.size (fun k hk hne => h3.block k hk (by simp)) h2 (fun b hb => .inr (h4 b hb)), .inl ?_⟩
  simp [execOp, ho, resolve, invoke, builtin, hρ _ _ hx, hρ _ _ hy, hr]
/-- Append of what a row of ours holds onto a full slice of a snapshot. -/
theorem DW.appendF {Hs0 : List Snap} {O0 : List Own} {lt : List Nat} {fuel : Nat} {listed : Array Bool} (i : Nat) {α : Type} {A : Lay α} {H : Snap} {ys : List α} {T e : TypeId} {x y : Operand} {v vy z : Value} {sz bytes m : Nat} {ds : List Value} (hi : opAt L i = some ⟨some d, .call ⟨.builtin .append, #[x, y], #[T, T]⟩, ty, pos, aft, g⟩) (hrd : (Region.ready .any L.toArray listed == [i]) = true) [t : TDesc P T (.slice e)] [j : TInfo P e z sz bytes]
    (hx : opv l x = some v) (hy : opv l y = some vy) (hr : SliceRep H A v ys) [iH : InH Hs H] (hcap : capOf v = ys.length) [q2 : GetRow O vy e sz m ds] (hs : IsSl vy m) (hm0 : 0 < m) (hsz : A.sz = sz) (hd' : Nat.beq ds.length (m * sz) = true)
    (h1 : allOne ds = true) (hz : Nat.beq (cellsL z).length sz = true) (h0 : sz ≠ 0) (hb : (ys.length + m) * bytes ≤ 140737488355328) (hb2 : ys.length + m ≤ 140737488355328) (hg : guardIs L l g = some true) (hd : Nat.blt d n = true)
    (h : ∀ xs v', CellsRep H A ys xs → IsSl v' (ys.length + m) → DW P f n E R L Hs0 O0 lt true fuel (listed.setIfInBounds i true) k Hs (.row e sz v' (ys.length + m) (xs ++ ds) :: O) ((d, v') :: l)) : DW P f n E R L Hs0 O0 lt true (fuel + 1) listed k Hs O l := by
  intro hsub
  obtain ⟨hvs, xs, hcr, hcell⟩ := hr
  refine DW.h i true hi hrd (HV.appendF hx hy hvs hcap (by rw [hcr.length, hsz]) (fun w hm k u hu => hm.cellH (hcell k u hu)) hs hm0 (Nat.eq_of_beq_eq_true hd') (fun w hm k u hu => hm.cellR hu) (allOne_eq h1) hz h0 hb hb2) hg hd (by simp) ?_ hsub
  rintro v' Hs' O' ⟨rfl, rfl, h2⟩
  have hs2 : ∀ w, Mem E w Hs' (.row e sz v' (ys.length + m) (xs ++ ds) :: O) → Mem E w Hs' O := fun w hm => hm.sub (fun x hx => List.mem_cons_of_mem _ hx) (List.sublist_cons_self _ _)
  exact ⟨fun _ w hm => hsub rfl w (hs2 w hm), fun _ w hm => h xs v' hcr h2 (fun _ w hm => hsub rfl w (hs2 w hm)) w hm⟩
end
end Go.Proofs.Ytbiohkncdlhigaa

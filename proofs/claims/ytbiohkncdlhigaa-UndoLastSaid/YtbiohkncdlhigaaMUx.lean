/-
  Contract: the fixed examples of the law. Conditions: none.
  Contract: the fixed examples of the law are as they should be. Conditions: none.
-/
import Derived.Test.YtbiohkncdlhigaaUv
namespace Go.Proofs.Ytbiohkncdlhigaa
open Go Go.RowKit

section
variable {P : Program} {f : FuncId} {n : Nat} {E : Ent} {R : Value → World → Prop} {k : List Item} {Hs : List Snap} {O : List Own} {l : Env} {L : List Oper} {d : Nat} {ty : TypeId} {pos : String} {aft : Array Edge} {g : Option (Nat × Bool)}
  {Hs0 : List Snap} {O0 : List Own} {lt : List Nat} {fuel : Nat} {listed : Array Bool} {j dj : Nat} {T : TypeId} {cs : List Value}
/-- A second allocation beside the floating one. -/
theorem DWf.alloc (i : Nat) {zj : Value} [tj : TZero P T zj] {tyj : TypeId} {posj : String} {aftj : Array Edge} (hij : Nat.beq i j = false) (hj : opAt L j = some ⟨some dj, .alloc T, tyj, posj, aftj, none⟩) (hc : cellsO zj = some cs)
    (hrd : (Region.ready .any L.toArray listed == [i, j] || Region.ready .any L.toArray listed == [j, i]) = true) (hrd2 : (Region.ready .any L.toArray (listed.setIfInBounds j true) == [i]) = true)
    (hdj : Nat.blt dj n = true) (hnj : (efind l dj).isNone = true) {T2 : TypeId} {z2 : Value} {cs2 : List Value} [t2 : TZero P T2 z2] (hi : opAt L i = some ⟨some d, .alloc T2, ty, pos, aft, g⟩) (hg : guardIs L l g = some true) (hd : Nat.blt d n = true) (hc2 : cellsO z2 = some cs2)
    (h : ∀ b', DWf P f n E R L Hs0 O0 lt j dj T cs fuel (listed.setIfInBounds i true) k Hs (.blk b' T2 cs2 :: O) ((d, .pointer (some ⟨b', 0, none⟩)) :: l)) : DWf P f n E R L Hs0 O0 lt j dj T cs (fuel + 1) listed k Hs O l := by
  refine DWf.step i (post := fun v Hs' O1 => Hs' = Hs ∧ ∃ b, v = .pointer (some ⟨b, 0, none⟩) ∧ O1 = .blk b T2 (cellsL z2) :: O) hij hi hj hc hrd hrd2 HV.alloc (fun b o ho w hm a ha next Q hn => ?_) hg hd hdj hnj ?_ ?_
  · refine (HV.alloc (E := E) (Hs := Hs) (O := O ++ [.blk b T cs]) (i := t2)) o ho w hm a ha next Q ?_
    rintro v w' Hs' O' ⟨rfl, b', rfl, rfl⟩ hm'
    exact hn _ w' Hs' _ ⟨_, rfl, rfl, b', rfl, rfl⟩ hm'
  · rintro v Hs' O' ⟨rfl, b', rfl, rfl⟩ hsub w hm
    exact hsub w (hm.sub (fun x hx => List.mem_cons_of_mem _ hx) (List.sublist_cons_self _ _))
  · rintro v Hs' O' ⟨rfl, b', rfl, rfl⟩
    rw [cellsO_eq hc2]
    exact h b'
theorem HVf.alloc {T2 : TypeId} {z2 : Value} [t2 : TZero P T2 z2] : HVf P E Hs O l dj T cs (.alloc T2) (fun v Hs' O1 => Hs' = Hs ∧ ∃ b, v = .pointer (some ⟨b, 0, none⟩) ∧ O1 = .blk b T2 (cellsL z2) :: O) := by
  refine ⟨HV.alloc, fun b o ho w hm a ha next Q hn => ?_⟩
  refine (HV.alloc (E := E) (Hs := Hs) (O := O ++ [.blk b T cs]) (i := t2)) o ho w hm a ha next Q ?_
  rintro v w' Hs' O' ⟨rfl, b', rfl, rfl⟩ hm'
  exact hn _ w' Hs' _ ⟨_, rfl, rfl, b', rfl, rfl⟩ hm'
theorem HVf.callP {La : List Operand} {ts : Array TypeId} {fid : FuncId} {vals : List Value} {H : Snap} {post : Snap → Value → Prop} (ha : opvL l La = some vals) [c : TCall P fid] (hcp : Pure P fid vals.toArray H post) [hH : InH Hs H] :
    HVf P E Hs O l dj T cs (.call ⟨.value (.func fid), La.toArray, ts⟩) (fun v Hs' O1 => ∃ H', post H' v ∧ H.le H' ∧ Hs' = H' :: Hs ∧ O1 = O) := by
  refine ⟨fun o ho w hm a hρ next Q hn => ?_, fun b o ho w hm a hρ next Q hn => ?_⟩
  · refine (HV.call (E := E) (Hs := Hs) (O := O) ha hcp) o ho w hm a hρ next Q ?_
    rintro v w' Hs' O' ⟨H', O2, ⟨rfl, h1⟩, h2, rfl, rfl⟩ hm'
    exact hn v w' _ _ ⟨H', h1, h2, rfl, rfl⟩ hm'
  · refine (HV.call (E := E) (Hs := Hs) (O := O ++ [.blk b T cs]) (opvL_app ha) hcp) o ho w hm a hρ next Q ?_
    rintro v w' Hs' O' ⟨H', O2, ⟨rfl, h1⟩, h2, rfl, rfl⟩ hm'
    exact hn v w' _ _ ⟨O, rfl, H', h1, h2, rfl, rfl⟩ hm'
end
theorem QF.fieldU {l : Env} {x : Operand} {vd vs vl : Value} {e : Int} (hx : opv l x = some (.agg #[vd, vs, vl, .int .i64 e])) : QF Try.prog l (.field 40 x 2) (.int .i64 e) := by
  intro o ho ρ hρ w
  simp [execOp, ho, hρ _ _ hx, Instr.field, run_underlying Try.underlying40, asAgg, part, Try.isAgg38]
theorem QF.buildUnd1 {l : Env} {x : Operand} {vd vs : Value} (hx : opv l x = some (.agg #[vd, vs])) : QF Try.prog l (.build 40 #[(0, x)]) (.agg #[vd, vs, .slice none 0 0, .int .i64 0]) :=
  QF.build (L := [(0, x)]) (vs := [(0, .agg #[vd, vs])]) (cs := [vd, vs, .slice none 0 0, .int .i64 0]) (by simp only [opvs, hx]) (by
    have e2 : cellsL (.agg #[vd, vs]) = [vd, vs] := rfl
    simp only [fillL, e2]
    rfl)
theorem QF.buildDoc {l : Env} {x y : Operand} {s : List UInt8} {vm : Value} (hx : opv l x = some (str s)) (hy : opv l y = some vm) (h1 : one1 vm = true) : QF Try.prog l (.build 36 #[(0, x), (1, y)]) (.agg #[str s, vm]) :=
  QF.build (L := [(0, x), (1, y)]) (vs := [(0, str s), (1, vm)]) (cs := [str s, vm]) (by simp only [opvs, hx, hy]) (by
    have e1 := cellsL_one h1
    have e2 : cellsL (str s) = [str s] := rfl
    simp only [fillL, e1, e2]
    rfl)

/-! ### The examples -/
def c0 : Stp := ⟨0, 0, ⟨1, 0, 0, 0, [97, 98]⟩, false⟩
def c1 : Stp := ⟨0, 1, ⟨1, 1, 0, 0, [88, 89]⟩, false⟩
def c2 : Stp := ⟨0, 2, ⟨1, 4, 0, 0, [99]⟩, false⟩
def p1 : Pst := ⟨[⟨[97, 98], [⟨0, 0, 2, true⟩]⟩], [c0]⟩
def p2 : Pst := ⟨[⟨[97, 88, 89, 98], [⟨0, 0, 4, false⟩, ⟨1, 1, 3, true⟩]⟩], [c0, c1]⟩
def p3 : Pst := ⟨[⟨[97, 88, 89, 98, 99], [⟨0, 0, 4, false⟩, ⟨1, 1, 3, true⟩, ⟨2, 4, 5, true⟩]⟩], [c0, c1, c2]⟩
def w3 : Pst := ⟨[⟨[97, 98, 99], [⟨0, 0, 2, true⟩, ⟨2, 2, 3, true⟩]⟩], [c0, ⟨0, 1, ⟨1, 1, 0, 0, [88, 89]⟩, true⟩, ⟨0, 2, ⟨1, 2, 0, 0, [99]⟩, false⟩]⟩
theorem ex1 : doP (newP 1) c0 = (p1, 0) := by decide
theorem ex2 : doP p1 c1 = (p2, 0) := by decide
theorem ex3 : doP p2 c2 = (p3, 0) := by decide
theorem ex4 : doP p3 ⟨0, 1, ⟨1, 0, 0, 0, [113]⟩, false⟩ = (nilP, 290) := by decide
theorem ex5 : doP p3 ⟨1, -1, ⟨0, 0, 0, 0, []⟩, false⟩ = (nilP, 1) := by decide
theorem ex6 : depP p3.ss 0 = ([1], 0) := by decide
theorem ex7 : depP p3.ss 1 = ([], 0) := by decide
theorem ex8 : depP p3.ss 3 = ([], 1) := by decide
theorem ex9 : undoP p3 0 = (nilP, [1], 320) := by decide
theorem ex10 : undoP p3 1 = (w3, [], 0) := by decide
theorem ex11 : (undoP w3 0).2.2 = 0 ∧ (undoP w3 0).1.ds.length = 1 ∧ ((undoP w3 0).1.ds[0]?).map (·.tx) = some [99] := by decide
def x3 : Pst := ⟨[⟨[99], [⟨2, 0, 1, true⟩]⟩], [⟨0, 0, ⟨1, 0, 0, 0, [97, 98]⟩, true⟩, ⟨0, 1, ⟨1, 1, 0, 0, [88, 89]⟩, true⟩, ⟨0, 2, ⟨1, 0, 0, 0, [99]⟩, false⟩]⟩
theorem ex13 : undoP w3 0 = (x3, [], 0) := by decide
theorem ex12 : undoP w3 1 = (nilP, [], 1) := by decide
theorem good0 : GoodP (newP 1) := ⟨by decide, by simp [newP], by simp [newP], by simp [newP], by simp [newP], fun a ha => ⟨nilD, by
  rcases a with _ | a
  · rfl
  · simp [newP] at ha, rfl⟩⟩
theorem good1 : GoodP p1 := by have := doP_good (s := c0) good0 (by rw [ex1]) (by decide) (by decide) (by decide); rwa [ex1] at this
theorem good2 : GoodP p2 := by have := doP_good (s := c1) good1 (by rw [ex2]) (by decide) (by decide) (by decide); rwa [ex2] at this
theorem good3 : GoodP p3 := by have := doP_good (s := c2) good2 (by rw [ex3]) (by decide) (by decide) (by decide); rwa [ex3] at this
theorem goodW : GoodP w3 := by have := (undoP_good (i := 1) good3 (by rw [ex10])).1; rwa [ex10] at this
theorem doE {H : Snap} {vd vs : Value} {p q : Pst} {s : Stp} {k : Int} (hd : SliceRep H DocL vd p.ds) (hs : SliceRep H StepL vs p.ss) (hg : GoodP p) (ht : s.e.tx.length ≤ 100000) (he : doP p s = (q, k)) :
    Pure Try.prog 21 #[.agg #[vd, vs], stpV s] H (fun H' r => ∃ vd' vs', r = .tuple #[.agg #[vd', vs'], .int .i64 k] ∧ SliceRep H' DocL vd' q.ds ∧ SliceRep H' StepL vs' q.ss) := by
  have h := udo_c (s := s) hd hs (good_valid hg) (by have := hg.len; omega) (by have := hg.sz; omega) ht
  change Pure Try.prog 21 _ H (fun H' r => ∃ v, r = .tuple #[v, .int .i64 (doP p s).2] ∧ PastR H' v (doP p s).1) at h
  rw [he] at h
  refine h.mono ?_
  rintro H' r _ ⟨v, rfl, vd', vs', rfl, h1, h2⟩
  exact ⟨vd', vs', rfl, h1, h2⟩
theorem depE {H : Snap} {vd vs : Value} {p : Pst} {i : Int} {l : List Int} {k : Int} (hd : SliceRep H DocL vd p.ds) (hs : SliceRep H StepL vs p.ss) (hg : GoodP p) (he : depP p.ss i = (l, k)) :
    Pure Try.prog 18 #[.agg #[vd, vs], .int .i64 i] H (fun H' r => ∃ v, r = .tuple #[v, .int .i64 k] ∧ SliceRep H' I64 v l) := by
  have h := depends_c (i := i) hd hs (by have := hg.sz; omega) (good_ch hg) (fun s hs => Nat.le_trans (hg.tx s hs) (by omega))
  rwa [he] at h
theorem undE {H : Snap} {vd vs : Value} {p : Pst} {i : Int} (hd : SliceRep H DocL vd p.ds) (hs : SliceRep H StepL vs p.ss) (hg : GoodP p) :
    Pure Try.prog 13 #[.agg #[vd, vs], .int .i64 i] H (fun H' r => UndR H' r (undoP p i)) := undone_c hd hs hg
end Go.Proofs.Ytbiohkncdlhigaa
namespace Go.Proofs.Ytbiohkncdlhigaa
open Go Go.RowKit

set_option maxHeartbeats 16000000 in
theorem usanity_c {H : Snap} : Pure Try.prog 10 #[] H (fun _ r => r = .bool true) := by
  refine Pure.intro Try.func10 rfl Try.ntmps10 rfl (fun E R hM hR => ?_)
  repeat (first | refine a1 ?_ | refine a4 ?_ | refine a5 ?_ | refine a6 ?_)
  refine RW.call rfl (new_c (H := H) (n := 1) (by decide)) rfl rfl ?_
  rintro _ H1 ⟨vd1, vs1, rfl, hd1, hs1⟩ hle1
  have o1 := hd1.isSl.one1
  have o2 := hs1.isSl.one1
  refine RW.alloc rfl rfl rfl (fun b1 => ?_)
  repeat (first | refine a4 ?_ | refine a5 ?_ | refine a9 ?_)
  refine Runs.regionD _ _ [] (fun x hx => List.mem_cons_of_mem _ hx) (List.Sublist.refl _) (by kernel_rfl) ?_
  refine t_loadBs 0 ?_
  refine DW.call 1 rfl (by kernel_rfl) rfl (rnew_c (H := H1) (n := 1) (by decide)) rfl rfl ?_
  rintro _ H2 ⟨vd2, vs2, rfl, hd2, hs2⟩ hle2
  refine DW.callV 2 rfl (by kernel_rfl) rfl (sameP_c (H := H2) (hd1.mono hle2) (hs1.mono hle2) hd2 hs2) rfl rfl ?_
  rintro _ _ rfl
  rw [decide_eq_true (show ((⟨(newP 1).ds, (newP 1).ss⟩ : Pst) = ⟨(newP 1).ds, (newP 1).ss⟩) from rfl)]
  refine d2 3 ?_
  refine DW.done (by kernel_rfl) ?_
  repeat (first | refine a4 ?_ | refine a8 ?_)
  refine Runs.regionD _ _ [7] (fun x hx => List.mem_cons_of_mem _ hx) (List.Sublist.refl _) (by kernel_rfl) ?_
  refine t_loadBs 0 ?_
  refine DW.float 6 rfl rfl ?_
  refine DWf.call 1 rfl rfl rfl (by kernel_rfl) (by kernel_rfl) rfl rfl rfl rfl rfl rfl (commit_c (H := H1) (i := 0) (a := 0) (t := [97, 98])) ?_
  rintro _ _ rfl _
  refine DWf.call 2 rfl rfl rfl (by kernel_rfl) (by kernel_rfl) rfl rfl rfl rfl rfl rfl (doE (H := H1) (p := newP 1) (s := c0) hd1 hs1 good0 (by decide) ex1) ?_
  rintro _ H3 ⟨vd3, vs3, rfl, hd3, hs3⟩ hle3
  have o3 := hd3.isSl.one1
  have o4 := hs3.isSl.one1
  refine DWf.qF 3 rfl rfl (by kernel_rfl) (qev_eq rfl) (fun _ => qev_eq rfl) rfl rfl ?_
  refine DWf.qF 4 rfl rfl (by kernel_rfl) (qev_eq rfl) (fun _ => qev_eq rfl) rfl rfl ?_
  refine DWf.qF 5 rfl rfl (by kernel_rfl) (qev_eq rfl) (fun _ => qev_eq rfl) rfl rfl ?_
  refine DWf.take rfl (by kernel_rfl) rfl rfl rfl (fun b2 => ?_)
  simp only [List.cons_append, List.nil_append]
  refine DW.storeB 7 rfl (by kernel_rfl) rfl rfl rfl rfl (by first | rfl | (simp [allOne, cellsL, one1]; done) | (simp [allOne, cellsL, one1]; first | assumption | (refine ⟨?_, ?_⟩ <;> assumption) | (refine ⟨?_, ?_, ?_⟩ <;> assumption))) rfl ?_
  refine d2 8 ?_
  refine DW.done (by kernel_rfl) ?_
  repeat (refine a4 ?_)
  refine Runs.regionD _ _ [7] (fun x hx => List.mem_cons_of_mem _ hx) (List.Sublist.refl _) (by kernel_rfl) ?_
  refine t_loadBs 0 ?_
  refine DW.float 6 rfl rfl ?_
  refine DWf.call 1 rfl rfl rfl (by kernel_rfl) (by kernel_rfl) rfl rfl rfl rfl rfl rfl (commit_c (H := H3) (i := 1) (a := 1) (t := [88, 89])) ?_
  rintro _ _ rfl _
  refine DWf.call 2 rfl rfl rfl (by kernel_rfl) (by kernel_rfl) rfl rfl rfl rfl rfl rfl (doE (H := H3) (p := p1) (s := c1) hd3 hs3 good1 (by decide) ex2) ?_
  rintro _ H4 ⟨vd4, vs4, rfl, hd4, hs4⟩ hle4
  have o5 := hd4.isSl.one1
  have o6 := hs4.isSl.one1
  refine DWf.qF 3 rfl rfl (by kernel_rfl) (qev_eq rfl) (fun _ => qev_eq rfl) rfl rfl ?_
  refine DWf.qF 4 rfl rfl (by kernel_rfl) (qev_eq rfl) (fun _ => qev_eq rfl) rfl rfl ?_
  refine DWf.qF 5 rfl rfl (by kernel_rfl) (qev_eq rfl) (fun _ => qev_eq rfl) rfl rfl ?_
  refine DWf.take rfl (by kernel_rfl) rfl rfl rfl (fun b4 => ?_)
  simp only [List.cons_append, List.nil_append]
  refine DW.storeB 7 rfl (by kernel_rfl) rfl rfl rfl rfl (by first | rfl | (simp [allOne, cellsL, one1]; done) | (simp [allOne, cellsL, one1]; first | assumption | (refine ⟨?_, ?_⟩ <;> assumption) | (refine ⟨?_, ?_, ?_⟩ <;> assumption))) rfl ?_
  refine d2 8 ?_
  refine DW.done (by kernel_rfl) ?_
  repeat (refine a4 ?_)
  refine Runs.regionD _ _ [7] (fun x hx => List.mem_cons_of_mem _ hx) (List.Sublist.refl _) (by kernel_rfl) ?_
  refine t_loadBs 0 ?_
  refine DW.float 6 rfl rfl ?_
  refine DWf.call 1 rfl rfl rfl (by kernel_rfl) (by kernel_rfl) rfl rfl rfl rfl rfl rfl (commit_c (H := H4) (i := 2) (a := 4) (t := [99])) ?_
  rintro _ _ rfl _
  refine DWf.call 2 rfl rfl rfl (by kernel_rfl) (by kernel_rfl) rfl rfl rfl rfl rfl rfl (doE (H := H4) (p := p2) (s := c2) hd4 hs4 good2 (by decide) ex3) ?_
  rintro _ H5 ⟨vd, vs, rfl, hd, hs⟩ hle5
  have o7 := hd.isSl.one1
  have o8 := hs.isSl.one1
  refine DWf.qF 3 rfl rfl (by kernel_rfl) (qev_eq rfl) (fun _ => qev_eq rfl) rfl rfl ?_
  refine DWf.qF 4 rfl rfl (by kernel_rfl) (qev_eq rfl) (fun _ => qev_eq rfl) rfl rfl ?_
  refine DWf.qF 5 rfl rfl (by kernel_rfl) (qev_eq rfl) (fun _ => qev_eq rfl) rfl rfl ?_
  refine DWf.take rfl (by kernel_rfl) rfl rfl rfl (fun b6 => ?_)
  simp only [List.cons_append, List.nil_append]
  refine DW.storeB 7 rfl (by kernel_rfl) rfl rfl rfl rfl (by first | rfl | (simp [allOne, cellsL, one1]; done) | (simp [allOne, cellsL, one1]; first | assumption | (refine ⟨?_, ?_⟩ <;> assumption) | (refine ⟨?_, ?_, ?_⟩ <;> assumption))) rfl ?_
  refine d2 8 ?_
  refine DW.done (by kernel_rfl) ?_
  repeat (refine a4 ?_)
  refine Runs.regionD _ _ [7] (fun x hx => List.mem_cons_of_mem _ hx) (List.Sublist.refl _) (by kernel_rfl) ?_
  refine t_loadBs 0 ?_
  refine DW.float 6 rfl rfl ?_
  refine DWf.call 1 rfl rfl rfl (by kernel_rfl) (by kernel_rfl) rfl rfl rfl rfl rfl rfl (commit_c (H := H5) (i := 1) (a := 0) (t := [113])) ?_
  rintro _ _ rfl _
  refine DWf.call 2 rfl rfl rfl (by kernel_rfl) (by kernel_rfl) rfl rfl rfl rfl rfl rfl (doE (H := H5) (p := p3) (s := ⟨0, 1, ⟨1, 0, 0, 0, [113]⟩, false⟩) hd hs good3 (by decide) ex4) ?_
  rintro _ H6 ⟨vd6, vs6, rfl, hd6, hs6⟩ hle6
  have o9 := hd6.isSl.one1
  have o10 := hs6.isSl.one1
  refine DWf.qF 3 rfl rfl (by kernel_rfl) (qev_eq rfl) (fun _ => qev_eq rfl) rfl rfl ?_
  refine DWf.qF 4 rfl rfl (by kernel_rfl) (qev_eq rfl) (fun _ => qev_eq rfl) rfl rfl ?_
  refine DWf.qF 5 rfl rfl (by kernel_rfl) (qev_eq rfl) (fun _ => qev_eq rfl) rfl rfl ?_
  refine DWf.take rfl (by kernel_rfl) rfl rfl rfl (fun b8 => ?_)
  simp only [List.cons_append, List.nil_append]
  refine DW.storeB 7 rfl (by kernel_rfl) rfl rfl rfl rfl (by first | rfl | (simp [allOne, cellsL, one1]; done) | (simp [allOne, cellsL, one1]; first | assumption | (refine ⟨?_, ?_⟩ <;> assumption) | (refine ⟨?_, ?_, ?_⟩ <;> assumption))) rfl ?_
  refine d2 8 ?_
  refine DW.done (by kernel_rfl) ?_
  repeat (first | refine a4 ?_ | refine a6 ?_ | refine s_loadBs ?_ | refine s_build ?_)
  refine RW.call rfl (doE (H := H5) (p := p3) (s := ⟨1, -1, ⟨0, 0, 0, 0, []⟩, false⟩) hd hs good3 (by decide) ex5) rfl rfl ?_
  rintro _ H7 ⟨vd7, vs7, rfl, hd7, hs7⟩ hle7
  have o11 := hd7.isSl.one1
  have o12 := hs7.isSl.one1
  repeat (refine a1 ?_)
  refine RW.alloc rfl rfl rfl (fun b10 => ?_)
  have i1 := hd.isSl
  have i2 := hs.isSl
  obtain ⟨vm, hvm, hcm⟩ := hd.dc (k := 0) (x := ⟨[97, 88, 89, 98, 99], [⟨0, 0, 4, false⟩, ⟨1, 1, 3, true⟩, ⟨2, 4, 5, true⟩]⟩) rfl
  have hTx : H5.cell (vat vd (0 * 2 + 0)) = some (str [97, 88, 89, 98, 99]) := hcm 0 _ rfl
  repeat (first | refine a1 ?_ | refine a4 ?_ | refine a5 ?_ | refine a6 ?_ | refine s_fieldB ?_ | refine s_loadB ?_ | refine s_len ?_ | refine a9 ?_)
  refine RW.q (QF.index (j := 0) rfl rfl i1 rfl (by decide)).qv rfl rfl ?_
  repeat (first | refine a1 ?_ | refine a4 ?_ | refine a5 ?_ | refine a6 ?_ | refine s_loadBs ?_ | refine s_fieldB ?_ | refine s_fieldV ?_ | refine s_loadB ?_ | refine s_loadH ?_ | refine s_len ?_ | refine s_neqS ?_ | refine a8 ?_)
  refine RW.call rfl (depE (H := H5) (p := p3) (i := 0) hd hs good3 ex6) rfl rfl ?_
  rintro _ H8 ⟨v12, rfl, hl12⟩ hle8
  have hd8 := hd.mono hle8
  have hs8 := hs.mono hle8
  repeat (first | refine a1 ?_ | refine a4 ?_ | refine a5 ?_ | refine a6 ?_ | refine s_loadBs ?_)
  refine RW.call rfl (depE (H := H8) (p := p3) (i := 1) hd8 hs8 good3 ex7) rfl rfl ?_
  rintro _ H9 ⟨v14, rfl, hl14⟩ hle9
  have hd9 := hd8.mono hle9
  have hs9 := hs8.mono hle9
  repeat (first | refine a1 ?_ | refine a4 ?_ | refine a5 ?_ | refine a6 ?_ | refine s_loadBs ?_)
  refine RW.call rfl (depE (H := H9) (p := p3) (i := 3) hd9 hs9 good3 ex8) rfl rfl ?_
  rintro _ H10 ⟨v16, rfl, hl16⟩ hle10
  repeat (first | refine a1 ?_ | refine a4 ?_ | refine a5 ?_)
  have hcA := undE (H := H9) (p := p3) (i := 0) hd9 hs9 good3
  rw [ex9] at hcA
  have hcB : ∀ HA, H9.le HA → Pure Try.prog 13 #[.agg #[vd, vs], .int .i64 1] HA (fun H' r => UndR H' r (w3, [], 0)) := fun HA hle => by
    have h := undE (H := HA) (p := p3) (i := 1) (hd9.mono hle) (hs9.mono hle) good3
    rwa [ex10] at h
  refine Runs.weak (Hs' := [H9, H8]) (O' := [.blk b6 27 [vd, vs]]) (l' := [(6, .pointer (some ⟨b6, 0, none⟩)), (12, v12), (13, .int .i64 0), (14, v14), (15, .int .i64 0), (17, .int .i64 1)]) ?_ (by repeat (first | exact trivial | refine And.intro rfl ?_)) (fun x hx => List.mem_cons_of_mem _ (SubH.h x hx)) (by repeat (first | exact List.nil_sublist _ | exact List.Sublist.refl _ | refine List.Sublist.cons_cons _ ?_ | refine List.Sublist.cons _ ?_))
  refine Runs.joinF (α := Snap × Snap × (Value × Value × Value) × (Value × Value × Value) × Nat × Nat) (fun s => H9.le s.1 ∧ s.1.le s.2.1 ∧ UndR s.1 (.agg #[s.2.2.1.1, s.2.2.1.2.1, s.2.2.1.2.2, .int .i64 320]) (nilP, [1], 320) ∧ UndR s.2.1 (.agg #[s.2.2.2.1.1, s.2.2.2.1.2.1, s.2.2.2.1.2.2, .int .i64 0]) (w3, [], 0)) (fun s => [s.2.1, s.1, H9, H8]) (fun s => [.blk s.2.2.2.2.1 40 [s.2.2.1.1, s.2.2.1.2.1, s.2.2.1.2.2, .int .i64 320], .blk s.2.2.2.2.2 40 [s.2.2.2.1.1, s.2.2.2.1.2.1, s.2.2.2.1.2.2, .int .i64 0]]) (fun s => [(12, v12), (13, .int .i64 0), (14, v14), (15, .int .i64 0), (17, .int .i64 1), (18, .pointer (some ⟨s.2.2.2.2.1, 0, none⟩)), (19, .pointer (some ⟨s.2.2.2.2.2, 0, none⟩))]) (fun hj => ?_) ?_
  · skip
    refine Runs.regionD _ _ [] (fun x hx => List.mem_cons_of_mem _ hx) (List.Sublist.refl _) (by kernel_rfl) ?_
    refine t_loadBs 0 ?_
    refine t_loadBs 2 ?_
    refine DW.float 5 rfl rfl ?_
    refine DWf.h2 1 4 rfl rfl rfl rfl rfl rfl (by kernel_rfl) (by kernel_rfl) rfl rfl (HVf.callP rfl hcA) HVf.alloc rfl rfl rfl rfl (by rintro v Hs' O' ⟨H', _, _, rfl, rfl⟩ hsub w hm; exact hsub w (hm.sub (fun x hx => List.mem_cons_of_mem _ (List.mem_cons_of_mem _ hx)) (List.Sublist.refl _))) (by rintro v Hs' O' ⟨rfl, b', rfl, rfl⟩ hsub w hm; exact hsub w (hm.sub (fun x hx => List.mem_cons_of_mem _ hx) (List.sublist_cons_self _ _))) ?_ ?_
    · skip
      rintro _ _ _ ⟨HA, ⟨vdA, vsA, vlA, rfl, hdA, hsA, hlA⟩, hleA, rfl, rfl⟩
      have oA1 := hdA.isSl.one1
      have oA2 := hsA.isSl.one1
      have oA3 := hlA.isSl.one1
      refine DWf.h2 3 4 rfl rfl rfl rfl rfl rfl (by kernel_rfl) (by kernel_rfl) rfl rfl (HVf.callP rfl (hcB HA hleA)) HVf.alloc rfl rfl rfl rfl (by rintro v Hs' O' ⟨H', _, _, rfl, rfl⟩ hsub w hm; exact hsub w (hm.sub (fun x hx => List.mem_cons_of_mem _ (List.mem_cons_of_mem _ hx)) (List.Sublist.refl _))) (by rintro v Hs' O' ⟨rfl, b', rfl, rfl⟩ hsub w hm; exact hsub w (hm.sub (fun x hx => List.mem_cons_of_mem _ hx) (List.sublist_cons_self _ _))) ?_ ?_
      · skip
        rintro _ _ _ ⟨HB, ⟨vdB, vsB, vlB, rfl, hdB, hsB, hlB⟩, hleB, rfl, rfl⟩
        have oB1 := hdB.isSl.one1
        have oB2 := hsB.isSl.one1
        have oB3 := hlB.isSl.one1
        refine DWf.one 4 rfl rfl rfl rfl (by kernel_rfl) (by kernel_rfl) HVf.alloc rfl rfl rfl rfl (by rintro v Hs' O' ⟨rfl, b', rfl, rfl⟩ hsub w hm; exact hsub w (hm.sub (fun x hx => List.mem_cons_of_mem _ hx) (List.sublist_cons_self _ _))) ?_
        rintro _ _ _ ⟨rfl, bA, rfl, rfl⟩
        refine DWf.take rfl (by kernel_rfl) rfl rfl rfl (fun bB => ?_)
        simp only [List.cons_append, List.nil_append]
        refine DW.storeBS 6 rfl (by kernel_rfl) rfl rfl rfl (by simp [allOne, cellsL, one1]; exact ⟨oA1, oA2, oA3⟩) rfl inferInstance inferInstance ?_
        refine DW.storeBS 7 rfl (by kernel_rfl) rfl rfl rfl (by simp [allOne, cellsL, one1]; exact ⟨oB1, oB2, oB3⟩) rfl inferInstance inferInstance ?_
        refine DW.done (by kernel_rfl) ?_
        refine Runs.weak (hj (HA, HB, (vdA, vsA, vlA), (vdB, vsB, vlB), bA, bB) ⟨hleA, hleB, ⟨_, _, _, rfl, hdA, hsA, hlA⟩, ⟨_, _, _, rfl, hdB, hsB, hlB⟩⟩) (by repeat (first | exact trivial | refine And.intro rfl ?_)) (fun x hx => List.mem_cons_of_mem _ (SubH.h x hx)) (by repeat (first | exact List.nil_sublist _ | exact List.Sublist.refl _ | refine List.Sublist.cons_cons _ ?_ | refine List.Sublist.cons _ ?_))
      · skip
        rintro _ _ _ ⟨rfl, bA, rfl, rfl⟩
        refine DWf.one 3 rfl rfl rfl rfl (by kernel_rfl) (by kernel_rfl) (HVf.callP rfl (hcB HA hleA)) rfl rfl rfl rfl (by rintro v Hs' O' ⟨H', _, _, rfl, rfl⟩ hsub w hm; exact hsub w (hm.sub (fun x hx => List.mem_cons_of_mem _ (List.mem_cons_of_mem _ hx)) (List.Sublist.refl _))) ?_
        rintro _ _ _ ⟨HB, ⟨vdB, vsB, vlB, rfl, hdB, hsB, hlB⟩, hleB, rfl, rfl⟩
        have oB1 := hdB.isSl.one1
        have oB2 := hsB.isSl.one1
        have oB3 := hlB.isSl.one1
        refine DWf.take rfl (by kernel_rfl) rfl rfl rfl (fun bB => ?_)
        simp only [List.cons_append, List.nil_append]
        refine DW.storeBS 6 rfl (by kernel_rfl) rfl rfl rfl (by simp [allOne, cellsL, one1]; exact ⟨oA1, oA2, oA3⟩) rfl inferInstance inferInstance ?_
        refine DW.storeBS 7 rfl (by kernel_rfl) rfl rfl rfl (by simp [allOne, cellsL, one1]; exact ⟨oB1, oB2, oB3⟩) rfl inferInstance inferInstance ?_
        refine DW.done (by kernel_rfl) ?_
        refine Runs.weak (hj (HA, HB, (vdA, vsA, vlA), (vdB, vsB, vlB), bA, bB) ⟨hleA, hleB, ⟨_, _, _, rfl, hdA, hsA, hlA⟩, ⟨_, _, _, rfl, hdB, hsB, hlB⟩⟩) (by repeat (first | exact trivial | refine And.intro rfl ?_)) (fun x hx => List.mem_cons_of_mem _ (SubH.h x hx)) (by repeat (first | exact List.nil_sublist _ | exact List.Sublist.refl _ | refine List.Sublist.cons_cons _ ?_ | refine List.Sublist.cons _ ?_))
    · skip
      rintro _ _ _ ⟨rfl, bA, rfl, rfl⟩
      refine DWf.one 1 rfl rfl rfl rfl (by kernel_rfl) (by kernel_rfl) (HVf.callP rfl hcA) rfl rfl rfl rfl (by rintro v Hs' O' ⟨H', _, _, rfl, rfl⟩ hsub w hm; exact hsub w (hm.sub (fun x hx => List.mem_cons_of_mem _ (List.mem_cons_of_mem _ hx)) (List.Sublist.refl _))) ?_
      rintro _ _ _ ⟨HA, ⟨vdA, vsA, vlA, rfl, hdA, hsA, hlA⟩, hleA, rfl, rfl⟩
      have oA1 := hdA.isSl.one1
      have oA2 := hsA.isSl.one1
      have oA3 := hlA.isSl.one1
      refine DWf.one 3 rfl rfl rfl rfl (by kernel_rfl) (by kernel_rfl) (HVf.callP rfl (hcB HA hleA)) rfl rfl rfl rfl (by rintro v Hs' O' ⟨H', _, _, rfl, rfl⟩ hsub w hm; exact hsub w (hm.sub (fun x hx => List.mem_cons_of_mem _ (List.mem_cons_of_mem _ hx)) (List.Sublist.refl _))) ?_
      rintro _ _ _ ⟨HB, ⟨vdB, vsB, vlB, rfl, hdB, hsB, hlB⟩, hleB, rfl, rfl⟩
      have oB1 := hdB.isSl.one1
      have oB2 := hsB.isSl.one1
      have oB3 := hlB.isSl.one1
      refine DWf.take rfl (by kernel_rfl) rfl rfl rfl (fun bB => ?_)
      simp only [List.cons_append, List.nil_append]
      refine DW.storeBS 6 rfl (by kernel_rfl) rfl rfl rfl (by simp [allOne, cellsL, one1]; exact ⟨oA1, oA2, oA3⟩) rfl inferInstance inferInstance ?_
      refine DW.storeBS 7 rfl (by kernel_rfl) rfl rfl rfl (by simp [allOne, cellsL, one1]; exact ⟨oB1, oB2, oB3⟩) rfl inferInstance inferInstance ?_
      refine DW.done (by kernel_rfl) ?_
      refine Runs.weak (hj (HA, HB, (vdA, vsA, vlA), (vdB, vsB, vlB), bA, bB) ⟨hleA, hleB, ⟨_, _, _, rfl, hdA, hsA, hlA⟩, ⟨_, _, _, rfl, hdB, hsB, hlB⟩⟩) (by repeat (first | exact trivial | refine And.intro rfl ?_)) (fun x hx => List.mem_cons_of_mem _ (SubH.h x hx)) (by repeat (first | exact List.nil_sublist _ | exact List.Sublist.refl _ | refine List.Sublist.cons_cons _ ?_ | refine List.Sublist.cons _ ?_))
  rintro ⟨HA, HB, ⟨vdA, vsA, vlA⟩, ⟨vdB, vsB, vlB⟩, bA, bB⟩ ⟨hleA, hleB, hA, hB⟩
  dsimp only at hleA hleB hA hB ⊢
  repeat (first | refine a4 ?_ | refine a6 ?_ | refine s_build ?_)
  refine RW.buildSlice rfl rfl rfl rfl rfl rfl rfl (fun v117 h117 => ?_)
  have o117 := h117.one1
  refine RW.q (QF.buildDoc rfl rfl o117).qv rfl rfl ?_
  refine RW.buildSlice rfl rfl rfl rfl rfl rfl rfl (fun v119 h119 => ?_)
  have o119 := h119.one1
  refine RW.callV rfl (commit_c (H := H9) (i := 0) (a := 0) (t := [97, 98])) rfl rfl ?_
  rintro _ _ rfl
  refine RW.callV rfl (commit_c (H := H9) (i := 1) (a := 1) (t := [88, 89])) rfl rfl ?_
  rintro _ _ rfl
  refine RW.callV rfl (commit_c (H := H9) (i := 2) (a := 2) (t := [99])) rfl rfl ?_
  rintro _ _ rfl
  refine RW.buildSlice rfl rfl rfl rfl rfl rfl rfl (fun v123 h123 => ?_)
  have o123 := h123.one1
  refine RW.q (QF.buildPast rfl rfl o119 o123).qv rfl rfl ?_
  refine RW.alloc rfl rfl rfl (fun b20 => ?_)
  repeat (first | refine a1 ?_ | refine a4 ?_ | refine a5 ?_ | refine a6 ?_ | refine s_fieldB ?_ | refine s_fieldV ?_ | refine s_loadB ?_ | refine s_indexT ?_ | refine a9 ?_ | refine RW.storeR rfl rfl rfl rfl (by first | rfl | (simp [allOne, cellsL, one1]; done) | (simp [allOne, cellsL, one1]; first | assumption | (refine ⟨?_, ?_⟩ <;> assumption) | (refine ⟨?_, ?_, ?_⟩ <;> assumption))) rfl ?_)
  refine RW.freeze (H := HB) v117 hM (fun HC hleC hsC hcC => ?_)
  refine RW.freeze (H := HC) v119 hM (fun HD hleD hsD hcD => ?_)
  refine RW.freeze (H := HD) v123 hM (fun HE hleE hsE hcE => ?_)
  have hr117 : SliceRep HC MarkL v117 [⟨0, 0, 2, true⟩, ⟨2, 2, 3, true⟩] := SliceRep.of_row (H := HC) hsC rfl (mkCs_rep HC [⟨0, 0, 2, true⟩, ⟨2, 2, 3, true⟩]) (Snap.le.refl _) hcC
  have hr119 : SliceRep HE DocL v119 w3.ds := SliceRep.of_row (H := HE) hsD rfl ⟨[str [97, 98, 99], v117], [], rfl, ⟨v117, rfl, hr117.mono (hleD.trans hleE)⟩, rfl⟩ (Snap.le.refl _) (fun j u hu => hleE.cell (hcD j u hu))
  have hr123 : SliceRep HE StepL v123 w3.ss := SliceRep.of_row (H := HE) hsE rfl (stCs_rep HE w3.ss) (Snap.le.refl _) hcE
  have hUw : UndR HE (.agg #[v119, v123, .slice none 0 0, .int .i64 0]) (w3, [], 0) := ⟨v119, v123, _, rfl, hr119, hr123, SliceRep.nil⟩
  obtain ⟨_, _, _, hveA, hdA, hsA, hlA⟩ := hA
  obtain ⟨_, _, _, hveB, hdB, hsB, hlB⟩ := hB
  cases hveA
  cases hveB
  have oB1 := hdB.isSl.one1
  have oB2 := hsB.isSl.one1
  have oB3 := hlB.isSl.one1
  have i14 := hl14.isSl
  have hle8E : H8.le HE := (((hle9.trans hleA).trans hleB).trans hleC).trans (hleD.trans hleE)
  have hleBE : HB.le HE := hleC.trans (hleD.trans hleE)
  refine RW.buildSlice rfl rfl rfl rfl rfl rfl rfl (fun v133 h133 => ?_)
  refine RW.freeze (H := HE) v133 hM (fun HF hleF hsF hcF => ?_)
  have hr133 : SliceRep HF I64 v133 [1] := SliceRep.of_row (H := HF) hsF rfl (encI_rep HF [1]) (Snap.le.refl _) hcF
  refine RW.callV rfl (ints_c (H := HF) (hl12.mono (hle8E.trans hleF)) hr133) rfl rfl ?_
  rintro _ _ rfl
  rw [decide_eq_true (show ([1] : List Int) = [1] from rfl)]
  repeat (first | refine a1 ?_ | refine s_fieldB ?_ | refine s_loadB ?_ | refine s_len ?_)
  refine RW.buildSlice rfl rfl rfl rfl rfl rfl rfl (fun v157 h157 => ?_)
  refine RW.freeze (H := HF) v157 hM (fun HG hleG hsG hcG => ?_)
  have hr157 : SliceRep HG I64 v157 [1] := SliceRep.of_row (H := HG) hsG rfl (encI_rep HG [1]) (Snap.le.refl _) hcG
  refine RW.callV rfl (ints_c (H := HG) (hlA.mono (((hleB.trans hleBE).trans hleF).trans hleG)) hr157) rfl rfl ?_
  rintro _ _ rfl
  rw [decide_eq_true (show ([1] : List Int) = [1] from rfl)]
  repeat (first | refine a1 ?_ | refine a4 ?_ | refine a5 ?_ | refine a6 ?_ | refine s_loadBs ?_ | refine s_build ?_)
  refine RW.callV rfl (usame_c (H := HE) (b := (w3, [], 0)) (a := (w3, [], 0)) ⟨_, _, _, rfl, hdB.mono hleBE, hsB.mono hleBE, hlB.mono hleBE⟩ hUw) rfl rfl ?_
  rintro _ _ rfl
  rw [decide_eq_true (show ((w3, [], 0) : Pst × List Int × Int) = (w3, [], 0) from rfl)]
  repeat (first | refine a1 ?_ | refine a4 ?_ | refine a5 ?_ | refine a6 ?_ | refine s_fieldB ?_ | refine a8 ?_)
  refine RW.q (QV.loadBp (c := [vdB, vsB]) rfl past4) rfl rfl ?_
  have hu0 := undE (H := HB) (p := w3) (i := 0) hdB hsB goodW
  rw [ex13] at hu0
  refine RW.call rfl (hu0) rfl rfl ?_
  rintro _ HI ⟨vdC, vsC, vlC, rfl, hdC, hsC', hlC⟩ hleI
  have oC1 := hdC.isSl.one1
  have oC2 := hsC'.isSl.one1
  have oC3 := hlC.isSl.one1
  have iC1 := hdC.isSl
  refine RW.alloc rfl rfl rfl (fun b22 => ?_)
  refine RW.storeB rfl rfl rfl (by simp [allOne, cellsL, one1]; exact ⟨oC1, oC2, oC3⟩) rfl ?_
  obtain ⟨vmC, hvmC, hcmC⟩ := hdC.dc (k := 0) (x := ⟨[99], [⟨2, 0, 1, true⟩]⟩) rfl
  have hTxC : HI.cell (vat vdC (0 * 2 + 0)) = some (str [99]) := hcmC 0 _ rfl
  repeat (first | refine a1 ?_ | refine a4 ?_ | refine a5 ?_ | refine a6 ?_ | refine s_fieldB ?_ | refine s_loadB ?_ | refine s_len ?_)
  refine RW.q (QF.index (j := 0) rfl rfl iC1 rfl (by decide)).qv rfl rfl ?_
  repeat (first | refine a1 ?_ | refine s_fieldB ?_ | refine s_fieldV ?_ | refine s_loadH ?_ | refine s_eqlS ?_)
  refine RW.q (QV.loadBp (c := [vdB, vsB]) rfl past4) rfl rfl ?_
  have hu1 := undE (H := HB) (p := w3) (i := 1) hdB hsB goodW
  rw [ex12] at hu1
  refine RW.call rfl (hu1) rfl rfl ?_
  rintro _ HJ ⟨vdD, vsD, vlD, rfl, hdD, hsD', hlD⟩ hleJ
  refine RW.q (QF.fieldU rfl).qv rfl rfl ?_
  repeat (first | refine a1 ?_ | refine a5 ?_)
  refine Runs.ret1 Try.func10 Try.results10 rfl (fun w hm => hR _ w _ H _ (List.mem_cons_self ..) (Snap.le.refl _) ?_ hm)
  rfl
end Go.Proofs.Ytbiohkncdlhigaa

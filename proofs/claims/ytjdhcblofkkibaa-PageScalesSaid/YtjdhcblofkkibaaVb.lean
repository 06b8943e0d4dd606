/-
  Functions with bound arguments; the contracts of the layer of pages. Conditions: as each names them.
-/
import Derived.Test.YtjdhcblofkkibaaMPu
namespace Go.Proofs.Ytjdhcblofkkibaa
open Go Go.RowKit

section
variable {P : Program} {f : FuncId} {n : Nat} {E : Ent} {R : Value → World → Prop} {k : List Item} {Hs : List Snap} {O : List Own} {l : Env}
variable {L : List Oper} {d : Nat} {ty : TypeId} {pos : String} {aft : Array Edge} {os : List Oper} {g : Option (Nat × Bool)}
theorem QF.makeFuncB {fid : FuncId} {La : List Operand} {vs : List Value} (hx : opvL l La = some vs) : QF P l (.makeFunc (.func fid) La.toArray #[]) (.func (.func fid) vs.toArray #[]) := by
  intro o ho ρ hρ w
  have h5 := opvL_eq hρ La vs hx
  simp [execOp, ho, Instr.makeFunc, h5]
theorem HV.callB {fx : Operand} {L : List Operand} {ts : Array TypeId} {g : FuncId} {bnd : List Value} {vals : List Value} {H : Snap} {post : Snap → List Own → Value → Prop} (hf : opv l fx = some (.func (.func g) bnd.toArray #[])) (ha : opvL l L = some vals) [c : TCall P g]
    (hc : Ctr P g (bnd ++ vals).toArray H [] post) [hH : InH Hs H] :
    HV P E Hs O l (.call ⟨.value fx, L.toArray, ts⟩) (fun v Hs' O' => ∃ H' O2, post H' O2 v ∧ H.le H' ∧ Hs' = H' :: Hs ∧ O' = O2 ++ O) := by
  intro o ho w hm a hρ next Q hn
  have hst : Mem ⟨w, feet [], H⟩ w [H] [] := Mem.start rfl (hm.agr H (List.mem_cons_of_mem _ hH.h)) (by simp) List.Pairwise.nil (by simp)
  have hcall := hc w hst
  unfold Oper.wp
  have h5 := opvL_eq hρ L vals ha
  have hex : (execOp a.eval o).run P w = .ok (.enter g (bnd ++ vals).toArray) w := by
    simp [execOp, ho, resolve, hρ _ _ hf, Deferred.ofValue, invoke, h5, c.h]
  rw [hex]
  refine hcall.mono ?_
  rintro e w' ⟨v, H', O2, rfl, hp, hle, hm'⟩
  have hm2 : Mem E w Hs ([] ++ O) := hm
  exact hn v w' _ _ ⟨H', O2, hp, hle, rfl, rfl⟩ (hm2.call (List.mem_cons_of_mem _ hH.h) hm')
end
section
variable {P : Program} {f : FuncId} {n : Nat} {E : Ent} {R : Value → World → Prop} {k : List Item} {Hs : List Snap} {O : List Own} {l : Env}
variable {L : List Oper} {d : Nat} {ty : TypeId} {pos : String} {aft : Array Edge} {g : Option (Nat × Bool)}
variable {Hs0 : List Snap} {O0 : List Own} {lt : List Nat} {fuel : Nat} {listed : Array Bool} {j dj : Nat} {T : TypeId} {cs : List Value}
variable (i : Nat) {zj : Value} [tj : TZero P T zj] {tyj : TypeId} {posj : String} {aftj : Array Edge} (hij : Nat.beq i j = false) (hj : opAt L j = some ⟨some dj, .alloc T, tyj, posj, aftj, none⟩) (hc : cellsO zj = some cs)
  (hrd : (Region.ready .any L.toArray listed == [i, j] || Region.ready .any L.toArray listed == [j, i]) = true) (hrd2 : (Region.ready .any L.toArray (listed.setIfInBounds j true) == [i]) = true)
  (hdj : Nat.blt dj n = true) (hnj : (efind l dj).isNone = true)
include tj hij hj hc hrd hrd2 hdj hnj
theorem DWf.callB {fx : Operand} {La : List Operand} {ts : Array TypeId} {fid : FuncId} {bnd vals : List Value} {H : Snap} {post : Snap → Value → Prop} (hi : opAt L i = some ⟨some d, .call ⟨.value fx, La.toArray, ts⟩, ty, pos, aft, g⟩) (hg : guardIs L l g = some true) (hd : Nat.blt d n = true) (hf : opv l fx = some (.func (.func fid) bnd.toArray #[])) (ha : opvL l La = some vals) [c : TCall P fid] (hcp : Pure P fid (bnd ++ vals).toArray H post) [hH : InH Hs H]
    (h : ∀ v H', post H' v → H.le H' → DWf P f n E R L Hs0 O0 lt j dj T cs fuel (listed.setIfInBounds i true) k (H' :: Hs) O ((d, v) :: l)) : DWf P f n E R L Hs0 O0 lt j dj T cs (fuel + 1) listed k Hs O l := by
  refine DWf.step i (post := fun v Hs' O1 => ∃ H', post H' v ∧ H.le H' ∧ Hs' = H' :: Hs ∧ O1 = O) hij hi hj hc hrd hrd2 (fun o ho w hm a hρ next Q hn => ?_) (fun b o ho w hm a hρ next Q hn => ?_) hg hd hdj hnj ?_ ?_
  · refine (HV.callB (E := E) (Hs := Hs) (O := O) hf ha hcp) o ho w hm a hρ next Q ?_
    rintro v w' Hs' O' ⟨H', O2, ⟨rfl, h1⟩, h2, rfl, rfl⟩ hm'
    exact hn v w' _ _ ⟨H', h1, h2, rfl, rfl⟩ hm'
  · refine (HV.callB (E := E) (Hs := Hs) (O := O ++ [.blk b T cs]) (opv_app hf) (opvL_app ha) hcp) o ho w hm a hρ next Q ?_
    rintro v w' Hs' O' ⟨H', O2, ⟨rfl, h1⟩, h2, rfl, rfl⟩ hm'
    exact hn v w' _ _ ⟨O, rfl, H', h1, h2, rfl, rfl⟩ hm'
  · rintro v Hs' O' ⟨H', _, _, rfl, rfl⟩ hsub w hm
    exact hsub w (hm.sub (fun x hx => List.mem_cons_of_mem _ (List.mem_cons_of_mem _ hx)) (List.Sublist.refl _))
  · rintro v Hs' O' ⟨H', h1, h2, rfl, rfl⟩
    exact h v H' h1 h2
end
section
variable {P : Program} {f : FuncId} {n : Nat} {E : Ent} {R : Value → World → Prop} {k : List Item} {Hs : List Snap} {O : List Own} {l : Env}
/-- The first result lies in a block, the others in slots. -/
theorem Runs.retCTT {fn : Func} {t t2 t3 b : Nat} {T T' : TypeId} {cs : List Value} {v2 v3 : Value} [i : TAgg P T true] (hf : P.funcs[f]? = some fn) (hr : fn.results = #[.cell t T, .tmp t2, .tmp t3]) (hv : efind l t = some (.pointer (some ⟨b, 0, none⟩))) (hv2 : efind l t2 = some v2) (hv3 : efind l t3 = some v3) [q : GetBlk O b T' cs] [s : TSz P T cs.length] (hR : ∀ w, Mem E w Hs O → R (.tuple #[.agg cs.toArray, v2, v3]) w) :
    Runs P f n E R (.code .ret :: k) Hs O l :=
  Runs.ret hf (v := .tuple #[.agg cs.toArray, v2, v3]) (fun w a hm ha => by
    have h1 : (loadVar T ⟨b, 0, none⟩).run P w = .ok (.agg cs.toArray) w := run_loadVar_agg (fun j u hj => by
      have h2 := hm.cellB (i := q) hj
      by_cases h0 : j = 0
      · subst h0; simpa [Addr.add] using h2
      · simpa [Addr.add, h0] using h2)
    simp [results, hr, ha.get t _ hv, ha.get t2 _ hv2, ha.get t3 _ hv3, asAddr, h1]) hR
end
/-! ### The layer of pages -/
theorem enough_c {H : Snap} {s : Int} {N : Nat} {vl : Value} (hs : 0 ≤ s ∧ s ≤ 1000000000) (hN : 1 ≤ N ∧ N ≤ 2000) :
    Pure Try.prog 30 #[.int .i64 s, .agg #[.int .i64 (N : Int), vl]] H (fun _ r => r = .int .i64 (s / N)) := by
  refine Pure.intro Try.func30 rfl Try.ntmps30 rfl (fun E R hM hR => ?_)
  repeat (first | refine a1 ?_ | refine a3 ?_ | refine a4 ?_ | refine a5 ?_ | refine a6 ?_ | refine s_fieldB ?_ | refine s_fieldV ?_ | refine s_loadB ?_ | refine s_loadH ?_ | refine s_loadR ?_ | refine s_quo ?_ | refine a7 ?_ | refine a8 ?_)
  refine RW.box rfl rfl rfl rfl (fun b3 => ?_)
  repeat (first | refine a1 ?_ | refine a3 ?_ | refine a4 ?_ | refine a5 ?_ | refine a6 ?_ | refine s_fieldB ?_ | refine s_fieldV ?_ | refine s_loadB ?_ | refine s_loadH ?_ | refine s_loadR ?_ | refine s_quo ?_ | refine a7 ?_ | refine a8 ?_)
  refine Runs.ret1 Try.func30 Try.results30 rfl (fun w hm => hR _ w _ H _ (List.mem_cons_self ..) (Snap.le.refl _) ?_ hm)
  rfl
/-- The error of the arguments. -/
def argE (N : Int) (gl : List Lnk) (xs : List Int) : Int := if ¬ validG N gl then 150 else if xs.any (fun x => decide (x < 0)) then 1 else 0
theorem pcheck_c {H : Snap} {vl vx : Value} {N : Int} {gl : List Lnk} {xs : List Int} (hl : SliceRep H LinkL vl gl) (hx : SliceRep H I64 vx xs) :
    Pure Try.prog 28 #[.agg #[.int .i64 N, vl], vx] H (fun _ r => r = .int .i64 (argE N gl xs)) := by
  have hbx := hx.isSl.bound
  refine Pure.intro Try.func28 rfl Try.ntmps28 rfl (fun E R hM hR => ?_)
  repeat (first | refine a1 ?_ | refine a3 ?_ | refine a4 ?_ | refine a5 ?_ | refine a6 ?_ | refine s_loadBs ?_ | refine s_loadHs ?_ | refine s_len ?_ | refine s_lenR ?_ | refine s_index ?_ | refine s_indexR ?_ | refine s_loadB ?_ | refine s_loadH ?_ | refine s_loadR ?_ | refine s_addI ?_ | refine a7 ?_ | refine a8 ?_)
  refine RW.box rfl rfl rfl rfl (fun b2 => ?_)
  repeat (first | refine a1 ?_ | refine a3 ?_ | refine a4 ?_ | refine a5 ?_ | refine a6 ?_ | refine s_loadBs ?_ | refine s_loadHs ?_ | refine s_len ?_ | refine s_lenR ?_ | refine s_index ?_ | refine s_indexR ?_ | refine s_loadB ?_ | refine s_loadH ?_ | refine s_loadR ?_ | refine s_addI ?_ | refine a7 ?_ | refine a8 ?_)
  refine RW.callV rfl (bvalid_c hl) rfl rfl ?_
  rintro _ _ rfl
  repeat (first | refine a1 ?_ | refine a3 ?_ | refine a4 ?_ | refine a5 ?_ | refine a6 ?_ | refine s_loadBs ?_ | refine s_loadHs ?_ | refine s_len ?_ | refine s_lenR ?_ | refine s_index ?_ | refine s_indexR ?_ | refine s_loadB ?_ | refine s_loadH ?_ | refine s_loadR ?_ | refine s_addI ?_ | refine a7 ?_ | refine a8 ?_)
  rw [show (!decide (validG N gl)) = decide (¬ validG N gl) from by simp]
  refine Runs.cond_d rfl (fun hv => ?_) (fun hv => ?_)
  · repeat (first | refine a1 ?_ | refine a3 ?_ | refine a4 ?_ | refine a5 ?_ | refine a6 ?_ | refine s_loadBs ?_ | refine s_loadHs ?_ | refine s_len ?_ | refine s_lenR ?_ | refine s_index ?_ | refine s_indexR ?_ | refine s_loadB ?_ | refine s_loadH ?_ | refine s_loadR ?_ | refine s_addI ?_ | refine a7 ?_ | refine a8 ?_)
    refine Runs.ret1 Try.func28 Try.results28 rfl (fun w hm => hR _ w _ H _ (List.mem_cons_self ..) (Snap.le.refl _) ?_ hm)
    unfold argE
    rw [if_pos hv]
  · have hv' := hv
    repeat (first | refine a1 ?_ | refine a3 ?_ | refine a4 ?_ | refine a5 ?_ | refine a6 ?_ | refine s_loadBs ?_ | refine s_loadHs ?_ | refine s_len ?_ | refine s_lenR ?_ | refine s_index ?_ | refine s_indexR ?_ | refine s_loadB ?_ | refine s_loadH ?_ | refine s_loadR ?_ | refine s_addI ?_ | refine a7 ?_ | refine a8 ?_)
    refine Runs.loop (fun k : Nat => k ≤ xs.length ∧ ∀ j x, j < k → xs[j]? = some x → ¬ x < 0) (fun k => xs.length - k) (fun _ => [H]) (fun _ => []) (fun k => [(10, vx), (11, .int .i64 (xs.length : Int)), (12, .int .i64 (k : Int))]) 0 ⟨Nat.zero_le _, by simp⟩
      (fun h => by
        refine Runs.weak (h) (by repeat (first | exact trivial | refine And.intro rfl ?_)) (fun x hx => List.mem_cons_of_mem _ (SubH.h x hx)) (by repeat (first | exact List.nil_sublist _ | exact List.Sublist.refl _ | refine List.Sublist.cons_cons _ ?_ | refine List.Sublist.cons _ ?_))) ?_
    rintro k ⟨hk, hI⟩ ih

    repeat (first | refine a1 ?_ | refine a3 ?_ | refine a4 ?_ | refine a5 ?_ | refine a6 ?_ | refine s_loadBs ?_ | refine s_loadHs ?_ | refine s_len ?_ | refine s_lenR ?_ | refine s_index ?_ | refine s_indexR ?_ | refine s_loadB ?_ | refine s_loadH ?_ | refine s_loadR ?_ | refine s_addI ?_ | refine a7 ?_ | refine a8 ?_)
    refine Runs.cond_d rfl (fun hlt => ?_) (fun hlt => ?_)
    · obtain ⟨x, hxk⟩ : ∃ x, xs[k]? = some x := ⟨_, List.getElem?_eq_getElem (by omega)⟩
      repeat (first | refine a1 ?_ | refine a3 ?_ | refine a4 ?_ | refine a5 ?_ | refine a6 ?_ | refine s_loadBs ?_ | refine s_loadHs ?_ | refine s_len ?_ | refine s_lenR ?_ | refine s_index ?_ | refine s_indexR ?_ | refine s_loadB ?_ | refine s_loadH ?_ | refine s_loadR ?_ | refine s_addI ?_ | refine a7 ?_ | refine a8 ?_)
      refine Runs.cond_d rfl (fun hn => ?_) (fun hn => ?_)
      · repeat (first | refine a1 ?_ | refine a3 ?_ | refine a4 ?_ | refine a5 ?_ | refine a6 ?_ | refine s_loadBs ?_ | refine s_loadHs ?_ | refine s_len ?_ | refine s_lenR ?_ | refine s_index ?_ | refine s_indexR ?_ | refine s_loadB ?_ | refine s_loadH ?_ | refine s_loadR ?_ | refine s_addI ?_ | refine a7 ?_ | refine a8 ?_)
        refine Runs.ret1 Try.func28 Try.results28 rfl (fun w hm => hR _ w _ H _ (List.mem_cons_self ..) (Snap.le.refl _) ?_ hm)
        unfold argE
        rw [if_neg hv', if_pos]
        rw [List.any_eq_true]
        exact ⟨x, List.mem_of_getElem? hxk, by simpa using hn⟩
      · repeat (first | refine a1 ?_ | refine a3 ?_ | refine a4 ?_ | refine a5 ?_ | refine a6 ?_ | refine s_loadBs ?_ | refine s_loadHs ?_ | refine s_len ?_ | refine s_lenR ?_ | refine s_index ?_ | refine s_indexR ?_ | refine s_loadB ?_ | refine s_loadH ?_ | refine s_loadR ?_ | refine s_addI ?_ | refine a7 ?_ | refine a8 ?_)
        have hI2 : ∀ j y, j < k + 1 → xs[j]? = some y → ¬ y < 0 := fun j y hj hy => by
          by_cases e : j = k
          · subst e; rw [hxk] at hy; cases hy; exact hn
          · exact hI j y (by omega) hy
        refine Runs.weak (ih (k + 1) ⟨by omega, hI2⟩ (by omega)) (by repeat (first | exact trivial | refine And.intro rfl ?_)) (fun x hx => List.mem_cons_of_mem _ (SubH.h x hx)) (by repeat (first | exact List.nil_sublist _ | exact List.Sublist.refl _ | refine List.Sublist.cons_cons _ ?_ | refine List.Sublist.cons _ ?_))
    · repeat (first | refine a1 ?_ | refine a3 ?_ | refine a4 ?_ | refine a5 ?_ | refine a6 ?_ | refine s_loadBs ?_ | refine s_loadHs ?_ | refine s_len ?_ | refine s_lenR ?_ | refine s_index ?_ | refine s_indexR ?_ | refine s_loadB ?_ | refine s_loadH ?_ | refine s_loadR ?_ | refine s_addI ?_ | refine a7 ?_ | refine a8 ?_)
      refine Runs.ret1 Try.func28 Try.results28 rfl (fun w hm => hR _ w _ H _ (List.mem_cons_self ..) (Snap.le.refl _) ?_ hm)
      unfold argE
      rw [if_neg hv', if_neg]
      rw [List.any_eq_true]
      rintro ⟨x, hxm, h0⟩
      obtain ⟨j, hj⟩ := List.getElem?_of_mem hxm
      exact hI j x (by have := (List.getElem?_eq_some_iff.1 hj).1; omega) hj (by simpa using h0)
theorem check_false {N : Nat} {gl : List Lnk} (hg : validG N gl) (n : Nat) : (checkR N gl (pot gl N) ((allW gl N).take n) false).2 = if wholeB (allW gl N) n then 160 else 0 := by
  have h1 := check_first hg n
  have h2 := check_first_not hg n
  unfold wholeB
  cases e : decide (min n (allW gl N).length = (allW gl N).length) with
  | true => rw [e] at h2; rw [show (!true) = false from rfl] at h2; rw [h2]; rfl
  | false => rw [e] at h1; rw [h1]; rfl
set_option maxHeartbeats 4000000 in
theorem pfirst_c {H : Snap} {vl : Value} {N n : Nat} {gl : List Lnk} (hl : SliceRep H LinkL vl gl) (hg : validG N gl) (hT : treeT gl N 0 ≤ 2000000000000) (hn : n ≤ 50) :
    Pure Try.prog 29 #[.agg #[.int .i64 (N : Int), vl], .int .i64 (n : Int)] H (fun H' r => ∃ v vh, r = .tuple #[.agg #[v, .bool (wholeB (allW gl N) n)], vh] ∧ SliceRep H' CandL v ((allW gl N).take n) ∧ SliceRep H' I64 vh (pot gl N)) := by
  have hall := hg.2.2.2
  have hN2 := hg.2.1
  have hP := bpot_c (N := (N : Int)) hl
  rw [potE_valid hg, potL_valid hg] at hP
  refine Pure.intro Try.func29 rfl Try.ntmps29 rfl (fun E R hM hR => ?_)
  repeat (first | refine a1 ?_ | refine a3 ?_ | refine a4 ?_ | refine a5 ?_ | refine a6 ?_ | refine s_loadBs ?_ | refine s_loadHs ?_ | refine s_build ?_ | refine s_fieldB ?_ | refine s_fieldV ?_ | refine a7 ?_ | refine a8 ?_ | refine a9 ?_ | refine RW.storeR rfl rfl rfl rfl (by first | rfl | (simp [allOne, cellsL, one1]; done) | (simp [allOne, cellsL, one1]; first | assumption | (refine ⟨?_, ?_⟩ <;> assumption))) rfl ?_ | refine a10 ?_ | refine RW.storeR1 rfl rfl (by first | rfl | exact IsSl.one1 (by assumption) | exact IsSl.one1 (SliceRep.isSl (by assumption))) rfl rfl ?_)
  refine RW.box rfl rfl rfl rfl (fun b2 => ?_)
  refine RW.alloc rfl rfl rfl (fun b4 => ?_)
  repeat (first | refine a1 ?_ | refine a3 ?_ | refine a4 ?_ | refine a5 ?_ | refine a6 ?_ | refine s_loadBs ?_ | refine s_loadHs ?_ | refine s_build ?_ | refine s_fieldB ?_ | refine s_fieldV ?_ | refine a7 ?_ | refine a8 ?_ | refine a9 ?_ | refine RW.storeR rfl rfl rfl rfl (by first | rfl | (simp [allOne, cellsL, one1]; done) | (simp [allOne, cellsL, one1]; first | assumption | (refine ⟨?_, ?_⟩ <;> assumption))) rfl ?_ | refine a10 ?_ | refine RW.storeR1 rfl rfl (by first | rfl | exact IsSl.one1 (by assumption) | exact IsSl.one1 (SliceRep.isSl (by assumption))) rfl rfl ?_)
  refine RW.call rfl (hP) rfl rfl ?_
  rintro _ Hp ⟨vp, rfl, hvp⟩ hlep
  have hL := blist_c (N := (N : Int)) (k := (n : Int)) (hl.mono hlep) (fun _ => hT)
  rw [(listR_take hg hn).1, (listR_take hg hn).2] at hL
  repeat (first | refine a1 ?_ | refine a3 ?_ | refine a4 ?_ | refine a5 ?_ | refine a6 ?_ | refine s_loadBs ?_ | refine s_loadHs ?_ | refine s_build ?_ | refine s_fieldB ?_ | refine s_fieldV ?_ | refine a7 ?_ | refine a8 ?_ | refine a9 ?_ | refine RW.storeR rfl rfl rfl rfl (by first | rfl | (simp [allOne, cellsL, one1]; done) | (simp [allOne, cellsL, one1]; first | assumption | (refine ⟨?_, ?_⟩ <;> assumption))) rfl ?_ | refine a10 ?_ | refine RW.storeR1 rfl rfl (by first | rfl | exact IsSl.one1 (by assumption) | exact IsSl.one1 (SliceRep.isSl (by assumption))) rfl rfl ?_)
  refine RW.call rfl (hL) rfl rfl ?_
  rintro _ Hl ⟨vr, rfl, hvr⟩ hlel
  have hvr1 := hvr.isSl.one1
  have hll : ((allW gl N).take n).length ≤ 50 := by rw [List.length_take]; omega
  have hLx : ∀ x ∈ (allW gl N).take n, x.links.length ≤ 1000000 := fun x hx => by have := allW_links hall (List.mem_of_mem_take hx); omega
  have hC := bcheck_c (N := (N : Int)) (w := false) ((hl.mono hlep).mono hlel) (hvp.mono hlel) hvr (by omega) hLx
  have hcf := check_false hg n
  have hsm := hvr.isSl
  obtain ⟨Ar, cr, hre, _, _⟩ := hsm
  subst hre
  repeat (first | refine a1 ?_ | refine a3 ?_ | refine a4 ?_ | refine a5 ?_ | refine a6 ?_ | refine s_loadBs ?_ | refine s_loadHs ?_ | refine s_build ?_ | refine s_fieldB ?_ | refine s_fieldV ?_ | refine a7 ?_ | refine a8 ?_ | refine a9 ?_ | refine RW.storeR rfl rfl rfl rfl (by first | rfl | (simp [allOne, cellsL, one1]; done) | (simp [allOne, cellsL, one1]; first | assumption | (refine ⟨?_, ?_⟩ <;> assumption))) rfl ?_ | refine a10 ?_ | refine RW.storeR1 rfl rfl (by first | rfl | exact IsSl.one1 (by assumption) | exact IsSl.one1 (SliceRep.isSl (by assumption))) rfl rfl ?_)
  refine RW.alloc rfl rfl rfl (fun b10 => ?_)
  repeat (first | refine a1 ?_ | refine a3 ?_ | refine a4 ?_ | refine a5 ?_ | refine a6 ?_ | refine s_loadBs ?_ | refine s_loadHs ?_ | refine s_build ?_ | refine s_fieldB ?_ | refine s_fieldV ?_ | refine a7 ?_ | refine a8 ?_ | refine a9 ?_ | refine RW.storeR rfl rfl rfl rfl (by first | rfl | (simp [allOne, cellsL, one1]; done) | (simp [allOne, cellsL, one1]; first | assumption | (refine ⟨?_, ?_⟩ <;> assumption))) rfl ?_ | refine a10 ?_ | refine RW.storeR1 rfl rfl (by first | rfl | exact IsSl.one1 (by assumption) | exact IsSl.one1 (SliceRep.isSl (by assumption))) rfl rfl ?_)
  refine RW.callV rfl (hC) rfl rfl ?_
  rintro _ _ rfl
  generalize checkR (N : Int) gl (pot gl N) ((allW gl N).take n) false = c at hcf
  obtain ⟨c1, c2⟩ := c
  dsimp only at hcf ⊢
  have hw : decide (¬ c2 = 0) = wholeB (allW gl N) n := by
    rw [hcf]; cases wholeB (allW gl N) n <;> rfl
  repeat (first | refine a1 ?_ | refine a3 ?_ | refine a4 ?_ | refine a5 ?_ | refine a6 ?_ | refine s_loadBs ?_ | refine s_loadHs ?_ | refine s_build ?_ | refine s_fieldB ?_ | refine s_fieldV ?_ | refine a7 ?_ | refine a8 ?_ | refine a9 ?_ | refine RW.storeR rfl rfl rfl rfl (by first | rfl | (simp [allOne, cellsL, one1]; done) | (simp [allOne, cellsL, one1]; first | assumption | (refine ⟨?_, ?_⟩ <;> assumption))) rfl ?_ | refine a10 ?_ | refine RW.storeR1 rfl rfl (by first | rfl | exact IsSl.one1 (by assumption) | exact IsSl.one1 (SliceRep.isSl (by assumption))) rfl rfl ?_)
  rw [hw]
  repeat (first | refine a1 ?_ | refine a3 ?_ | refine a4 ?_ | refine a5 ?_ | refine a6 ?_ | refine s_loadBs ?_ | refine s_loadHs ?_ | refine s_build ?_ | refine s_fieldB ?_ | refine s_fieldV ?_ | refine a7 ?_ | refine a8 ?_ | refine a9 ?_ | refine RW.storeR rfl rfl rfl rfl (by first | rfl | (simp [allOne, cellsL, one1]; done) | (simp [allOne, cellsL, one1]; first | assumption | (refine ⟨?_, ?_⟩ <;> assumption))) rfl ?_ | refine a10 ?_ | refine RW.storeR1 rfl rfl (by first | rfl | exact IsSl.one1 (by assumption) | exact IsSl.one1 (SliceRep.isSl (by assumption))) rfl rfl ?_)
  refine Runs.retCT Try.func29 Try.results29 rfl rfl (fun w hm => hR _ w _ Hl _ (by simp) (hlep.trans hlel) ?_ hm)
  exact ⟨_, vp, rfl, hvr, hvp.mono hlel⟩
end Go.Proofs.Ytjdhcblofkkibaa

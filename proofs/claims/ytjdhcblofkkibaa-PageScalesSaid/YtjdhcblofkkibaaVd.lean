/-
  The contracts of Prefix, of the layer and of the reference; of Same. Conditions: none.
-/
import Derived.Test.YtjdhcblofkkibaaVc
namespace Go.Proofs.Ytjdhcblofkkibaa
open Go Go.RowKit

section
variable {P : Program} {f : FuncId} {n : Nat} {E : Ent} {R : Value → World → Prop} {k : List Item} {Hs : List Snap} {O : List Own} {l : Env}
variable {L : List Oper} {d : Nat} {ty : TypeId} {pos : String} {aft : Array Edge} {os : List Oper} {g : Option (Nat × Bool)}
theorem RW.callQ {fx : Operand} {La : List Operand} {ts : Array TypeId} {fid : FuncId} {vals : List Value} {H : Snap} {post : Snap → Value → Prop} (hf : opv l fx = some (.func (.func fid) #[] #[])) (ha : opvL l La = some vals) [c : TCall P fid] (hc : Pure P fid vals.toArray H post) [hH : InH Hs H] (hg : guardIs L l g = some true) (hd : Nat.blt d n = true)
    (h : ∀ v H', post H' v → RW P f n E R L.toArray os k Hs O ((d, v) :: l)) : RW P f n E R L.toArray (⟨some d, .call ⟨.value fx, La.toArray, ts⟩, ty, pos, aft, g⟩ :: os) k Hs O l :=
  RW.callK (O1 := []) (F := O) (cap := []) (hO := ⟨List.Perm.refl _⟩) hf ha (by rw [List.append_nil]; exact hc) hg hd h
end
theorem cand_ext (a b : Cand) : a = b ↔ a.cost = b.cost ∧ a.links = b.links := by
  cases a; cases b; simp [and_comm]
theorem pref1_c {H : Snap} {va vb : Value} {a b : Cand} (ha : SliceRep H I64 va a.links) (hb : SliceRep H I64 vb b.links) :
    Pure Try.prog 24 #[.agg #[va, .int .i64 a.cost], .agg #[vb, .int .i64 b.cost]] H (fun _ r => r = .bool (decide (a = b))) := by
  refine Pure.intro Try.func24 rfl Try.ntmps24 rfl (fun E R hM hR => ?_)
  repeat (first | refine a1 ?_ | refine a3 ?_ | refine a4 ?_ | refine a5 ?_ | refine a6 ?_ | refine s_fieldB ?_ | refine s_fieldV ?_ | refine s_loadB ?_ | refine s_loadH ?_ | refine s_loadR ?_ | refine a7 ?_ | refine a8 ?_)
  refine RW.box rfl rfl rfl rfl (fun b2 => ?_)
  refine RW.box rfl rfl rfl rfl (fun b3 => ?_)
  repeat (first | refine a1 ?_ | refine a3 ?_ | refine a4 ?_ | refine a5 ?_ | refine a6 ?_ | refine s_fieldB ?_ | refine s_fieldV ?_ | refine s_loadB ?_ | refine s_loadH ?_ | refine s_loadR ?_ | refine a7 ?_ | refine a8 ?_)
  by_cases h : a.cost = b.cost
  · rw [decide_eq_true h]
    repeat (first | refine a1 ?_ | refine a3 ?_ | refine a4 ?_ | refine a5 ?_ | refine a6 ?_ | refine s_fieldB ?_ | refine s_fieldV ?_ | refine s_loadB ?_ | refine s_loadH ?_ | refine s_loadR ?_ | refine a7 ?_ | refine a8 ?_)
    refine RW.callV rfl (equal_c ha hb) rfl rfl ?_
    rintro _ _ rfl
    repeat (first | refine a1 ?_ | refine a3 ?_ | refine a4 ?_ | refine a5 ?_ | refine a6 ?_ | refine s_fieldB ?_ | refine s_fieldV ?_ | refine s_loadB ?_ | refine s_loadH ?_ | refine s_loadR ?_ | refine a7 ?_ | refine a8 ?_)
    refine Runs.ret1 Try.func24 Try.results24 rfl (fun w hm => hR _ w _ H _ (List.mem_cons_self ..) (Snap.le.refl _) ?_ hm)
    rw [show decide (a = b) = decide (a.cost = b.cost ∧ a.links = b.links) from decide_eq_decide.2 (cand_ext a b)]; simp [h]
  · rw [decide_eq_false h]
    repeat (first | refine a1 ?_ | refine a3 ?_ | refine a4 ?_ | refine a5 ?_ | refine a6 ?_ | refine s_fieldB ?_ | refine s_fieldV ?_ | refine s_loadB ?_ | refine s_loadH ?_ | refine s_loadR ?_ | refine a7 ?_ | refine a8 ?_)
    refine Runs.ret1 Try.func24 Try.results24 rfl (fun w hm => hR _ w _ H _ (List.mem_cons_self ..) (Snap.le.refl _) ?_ hm)
    rw [show decide (a = b) = decide (a.cost = b.cost ∧ a.links = b.links) from decide_eq_decide.2 (cand_ext a b)]; simp [h]
set_option maxHeartbeats 4000000 in
theorem equalF_c {H : Snap} {va vb : Value} {xs ys : List Cand} (ha : SliceRep H CandL va xs) (hb : SliceRep H CandL vb ys) :
    Pure Try.prog 45 #[va, vb, .func (.func 24) #[] #[]] H (fun _ r => r = .bool (decide (xs = ys))) := by
  have hba := ha.isSl.bound
  have hbb := hb.isSl.bound
  refine Pure.intro Try.func45 rfl Try.ntmps45 rfl (fun E R hM hR => ?_)
  repeat (first | refine a1 ?_ | refine a3 ?_ | refine a4 ?_ | refine a5 ?_ | refine a6 ?_ | refine s_len ?_ | refine s_lenR ?_ | refine s_index ?_ | refine s_indexR ?_ | refine s_loadBs ?_ | refine s_loadHs ?_ | refine s_addI ?_ | refine a7 ?_ | refine a8 ?_ | refine a9 ?_ | refine RW.storeR rfl rfl rfl rfl (by first | rfl | (simp [allOne, cellsL, one1]; done) | (simp [allOne, cellsL, one1]; first | assumption | (refine ⟨?_, ?_⟩ <;> assumption))) rfl ?_ | refine a10 ?_ | refine RW.storeR1 rfl rfl (by first | rfl | exact IsSl.one1 (by assumption) | exact IsSl.one1 (SliceRep.isSl (by assumption))) rfl rfl ?_)
  refine Runs.cond_d rfl (fun h => ?_) (fun h => ?_)
  · repeat (first | refine a1 ?_ | refine a3 ?_ | refine a4 ?_ | refine a5 ?_ | refine a6 ?_ | refine s_len ?_ | refine s_lenR ?_ | refine s_index ?_ | refine s_indexR ?_ | refine s_loadBs ?_ | refine s_loadHs ?_ | refine s_addI ?_ | refine a7 ?_ | refine a8 ?_ | refine a9 ?_ | refine RW.storeR rfl rfl rfl rfl (by first | rfl | (simp [allOne, cellsL, one1]; done) | (simp [allOne, cellsL, one1]; first | assumption | (refine ⟨?_, ?_⟩ <;> assumption))) rfl ?_ | refine a10 ?_ | refine RW.storeR1 rfl rfl (by first | rfl | exact IsSl.one1 (by assumption) | exact IsSl.one1 (SliceRep.isSl (by assumption))) rfl rfl ?_)
    refine Runs.ret1 Try.func45 Try.results45 rfl (fun w hm => hR _ w _ H _ (List.mem_cons_self ..) (Snap.le.refl _) ?_ hm)
    have : xs ≠ ys := fun e => h (by rw [e])
    simp [this]
  · have h : xs.length = ys.length := by omega
    repeat (first | refine a1 ?_ | refine a3 ?_ | refine a4 ?_ | refine a5 ?_ | refine a6 ?_ | refine s_len ?_ | refine s_lenR ?_ | refine s_index ?_ | refine s_indexR ?_ | refine s_loadBs ?_ | refine s_loadHs ?_ | refine s_addI ?_ | refine a7 ?_ | refine a8 ?_ | refine a9 ?_ | refine RW.storeR rfl rfl rfl rfl (by first | rfl | (simp [allOne, cellsL, one1]; done) | (simp [allOne, cellsL, one1]; first | assumption | (refine ⟨?_, ?_⟩ <;> assumption))) rfl ?_ | refine a10 ?_ | refine RW.storeR1 rfl rfl (by first | rfl | exact IsSl.one1 (by assumption) | exact IsSl.one1 (SliceRep.isSl (by assumption))) rfl rfl ?_)
    refine Runs.loop (fun k : Nat => k ≤ xs.length ∧ ∀ j, j < k → xs[j]? = ys[j]?) (fun k => xs.length - k) (fun _ => [H]) (fun _ => []) (fun k => [(1, vb), (2, .func (.func 24) #[] #[]), (15, va), (16, .int .i64 (xs.length : Int)), (17, .int .i64 (k : Int))]) 0 ⟨Nat.zero_le _, by simp⟩ (fun h => by
        refine Runs.weak (h) (by repeat (first | exact trivial | refine And.intro rfl ?_)) (fun x hx => List.mem_cons_of_mem _ (SubH.h x hx)) (by repeat (first | exact List.nil_sublist _ | exact List.Sublist.refl _ | refine List.Sublist.cons_cons _ ?_ | refine List.Sublist.cons _ ?_))) ?_
    rintro k ⟨hk, hI⟩ ih
    repeat (first | refine a1 ?_ | refine a3 ?_ | refine a4 ?_ | refine a5 ?_ | refine a6 ?_ | refine s_len ?_ | refine s_lenR ?_ | refine s_index ?_ | refine s_indexR ?_ | refine s_loadBs ?_ | refine s_loadHs ?_ | refine s_addI ?_ | refine a7 ?_ | refine a8 ?_ | refine a9 ?_ | refine RW.storeR rfl rfl rfl rfl (by first | rfl | (simp [allOne, cellsL, one1]; done) | (simp [allOne, cellsL, one1]; first | assumption | (refine ⟨?_, ?_⟩ <;> assumption))) rfl ?_ | refine a10 ?_ | refine RW.storeR1 rfl rfl (by first | rfl | exact IsSl.one1 (by assumption) | exact IsSl.one1 (SliceRep.isSl (by assumption))) rfl rfl ?_)
    refine Runs.cond_d rfl (fun hlt => ?_) (fun hlt => ?_)
    · obtain ⟨x, hx⟩ : ∃ x, xs[k]? = some x := ⟨_, List.getElem?_eq_getElem (by omega)⟩
      obtain ⟨y, hy⟩ : ∃ y, ys[k]? = some y := ⟨_, List.getElem?_eq_getElem (by omega)⟩
      obtain ⟨vx, hvx, _, _, hxc⟩ := ha.cand hx
      obtain ⟨vy, hvy, _, _, hyc⟩ := hb.cand hy
      have hvx1 := hvx.isSl.one1
      have hvy1 := hvy.isSl.one1
      repeat (first | refine a1 ?_ | refine a3 ?_ | refine a4 ?_ | refine a5 ?_ | refine a6 ?_ | refine s_len ?_ | refine s_lenR ?_ | refine s_index ?_ | refine s_indexR ?_ | refine s_loadBs ?_ | refine s_loadHs ?_ | refine s_addI ?_ | refine a7 ?_ | refine a8 ?_ | refine a9 ?_ | refine RW.storeR rfl rfl rfl rfl (by first | rfl | (simp [allOne, cellsL, one1]; done) | (simp [allOne, cellsL, one1]; first | assumption | (refine ⟨?_, ?_⟩ <;> assumption))) rfl ?_ | refine a10 ?_ | refine RW.storeR1 rfl rfl (by first | rfl | exact IsSl.one1 (by assumption) | exact IsSl.one1 (SliceRep.isSl (by assumption))) rfl rfl ?_)
      try refine RW.q (QV.loadHs rfl (hxc)) rfl rfl ?_
      repeat (first | refine a1 ?_ | refine a3 ?_ | refine a4 ?_ | refine a5 ?_ | refine a6 ?_ | refine s_len ?_ | refine s_lenR ?_ | refine s_index ?_ | refine s_indexR ?_ | refine s_loadBs ?_ | refine s_loadHs ?_ | refine s_addI ?_ | refine a7 ?_ | refine a8 ?_ | refine a9 ?_ | refine RW.storeR rfl rfl rfl rfl (by first | rfl | (simp [allOne, cellsL, one1]; done) | (simp [allOne, cellsL, one1]; first | assumption | (refine ⟨?_, ?_⟩ <;> assumption))) rfl ?_ | refine a10 ?_ | refine RW.storeR1 rfl rfl (by first | rfl | exact IsSl.one1 (by assumption) | exact IsSl.one1 (SliceRep.isSl (by assumption))) rfl rfl ?_)
      refine RW.alloc rfl rfl rfl (fun b8 => ?_)
      repeat (first | refine a1 ?_ | refine a3 ?_ | refine a4 ?_ | refine a5 ?_ | refine a6 ?_ | refine s_len ?_ | refine s_lenR ?_ | refine s_index ?_ | refine s_indexR ?_ | refine s_loadBs ?_ | refine s_loadHs ?_ | refine s_addI ?_ | refine a7 ?_ | refine a8 ?_ | refine a9 ?_ | refine RW.storeR rfl rfl rfl rfl (by first | rfl | (simp [allOne, cellsL, one1]; done) | (simp [allOne, cellsL, one1]; first | assumption | (refine ⟨?_, ?_⟩ <;> assumption))) rfl ?_ | refine a10 ?_ | refine RW.storeR1 rfl rfl (by first | rfl | exact IsSl.one1 (by assumption) | exact IsSl.one1 (SliceRep.isSl (by assumption))) rfl rfl ?_)
      try refine RW.q (QV.loadHs rfl (hyc)) rfl rfl ?_
      repeat (first | refine a1 ?_ | refine a3 ?_ | refine a4 ?_ | refine a5 ?_ | refine a6 ?_ | refine s_len ?_ | refine s_lenR ?_ | refine s_index ?_ | refine s_indexR ?_ | refine s_loadBs ?_ | refine s_loadHs ?_ | refine s_addI ?_ | refine a7 ?_ | refine a8 ?_ | refine a9 ?_ | refine RW.storeR rfl rfl rfl rfl (by first | rfl | (simp [allOne, cellsL, one1]; done) | (simp [allOne, cellsL, one1]; first | assumption | (refine ⟨?_, ?_⟩ <;> assumption))) rfl ?_ | refine a10 ?_ | refine RW.storeR1 rfl rfl (by first | rfl | exact IsSl.one1 (by assumption) | exact IsSl.one1 (SliceRep.isSl (by assumption))) rfl rfl ?_)
      refine RW.alloc rfl rfl rfl (fun b9 => ?_)
      repeat (first | refine a1 ?_ | refine a3 ?_ | refine a4 ?_ | refine a5 ?_ | refine a6 ?_ | refine s_len ?_ | refine s_lenR ?_ | refine s_index ?_ | refine s_indexR ?_ | refine s_loadBs ?_ | refine s_loadHs ?_ | refine s_addI ?_ | refine a7 ?_ | refine a8 ?_ | refine a9 ?_ | refine RW.storeR rfl rfl rfl rfl (by first | rfl | (simp [allOne, cellsL, one1]; done) | (simp [allOne, cellsL, one1]; first | assumption | (refine ⟨?_, ?_⟩ <;> assumption))) rfl ?_ | refine a10 ?_ | refine RW.storeR1 rfl rfl (by first | rfl | exact IsSl.one1 (by assumption) | exact IsSl.one1 (SliceRep.isSl (by assumption))) rfl rfl ?_)
      refine RW.callQ rfl rfl (pref1_c hvx hvy) rfl rfl ?_
      rintro _ _ rfl
      repeat (first | refine a1 ?_ | refine a3 ?_ | refine a4 ?_ | refine a5 ?_ | refine a6 ?_ | refine s_len ?_ | refine s_lenR ?_ | refine s_index ?_ | refine s_indexR ?_ | refine s_loadBs ?_ | refine s_loadHs ?_ | refine s_addI ?_ | refine a7 ?_ | refine a8 ?_ | refine a9 ?_ | refine RW.storeR rfl rfl rfl rfl (by first | rfl | (simp [allOne, cellsL, one1]; done) | (simp [allOne, cellsL, one1]; first | assumption | (refine ⟨?_, ?_⟩ <;> assumption))) rfl ?_ | refine a10 ?_ | refine RW.storeR1 rfl rfl (by first | rfl | exact IsSl.one1 (by assumption) | exact IsSl.one1 (SliceRep.isSl (by assumption))) rfl rfl ?_)
      rw [show (!decide (x = y)) = decide (x ≠ y) from by simp]
      refine Runs.cond_d rfl (fun hne => ?_) (fun hne => ?_)
      · repeat (first | refine a1 ?_ | refine a3 ?_ | refine a4 ?_ | refine a5 ?_ | refine a6 ?_ | refine s_len ?_ | refine s_lenR ?_ | refine s_index ?_ | refine s_indexR ?_ | refine s_loadBs ?_ | refine s_loadHs ?_ | refine s_addI ?_ | refine a7 ?_ | refine a8 ?_ | refine a9 ?_ | refine RW.storeR rfl rfl rfl rfl (by first | rfl | (simp [allOne, cellsL, one1]; done) | (simp [allOne, cellsL, one1]; first | assumption | (refine ⟨?_, ?_⟩ <;> assumption))) rfl ?_ | refine a10 ?_ | refine RW.storeR1 rfl rfl (by first | rfl | exact IsSl.one1 (by assumption) | exact IsSl.one1 (SliceRep.isSl (by assumption))) rfl rfl ?_)
        refine Runs.ret1 Try.func45 Try.results45 rfl (fun w hm => hR _ w _ H _ (List.mem_cons_self ..) (Snap.le.refl _) ?_ hm)
        have : xs ≠ ys := fun e => by subst e; rw [hx] at hy; exact hne (Option.some.inj hy)
        simp [this]
      · have hxy : x = y := Classical.not_not.1 hne
        subst hxy
        repeat (first | refine a1 ?_ | refine a3 ?_ | refine a4 ?_ | refine a5 ?_ | refine a6 ?_ | refine s_len ?_ | refine s_lenR ?_ | refine s_index ?_ | refine s_indexR ?_ | refine s_loadBs ?_ | refine s_loadHs ?_ | refine s_addI ?_ | refine a7 ?_ | refine a8 ?_ | refine a9 ?_ | refine RW.storeR rfl rfl rfl rfl (by first | rfl | (simp [allOne, cellsL, one1]; done) | (simp [allOne, cellsL, one1]; first | assumption | (refine ⟨?_, ?_⟩ <;> assumption))) rfl ?_ | refine a10 ?_ | refine RW.storeR1 rfl rfl (by first | rfl | exact IsSl.one1 (by assumption) | exact IsSl.one1 (SliceRep.isSl (by assumption))) rfl rfl ?_)
        have hI2 : ∀ j, j < k + 1 → xs[j]? = ys[j]? := fun j hj => by
          by_cases e : j = k
          · subst e; rw [hx, hy]
          · exact hI j (by omega)
        refine Runs.weak (ih (k + 1) ⟨by omega, hI2⟩ (by omega)) (by repeat (first | exact trivial | refine And.intro rfl ?_)) (fun x hx => List.mem_cons_of_mem _ (SubH.h x hx)) (by repeat (first | exact List.nil_sublist _ | exact List.Sublist.refl _ | refine List.Sublist.cons_cons _ ?_ | refine List.Sublist.cons _ ?_))
    · repeat (first | refine a1 ?_ | refine a3 ?_ | refine a4 ?_ | refine a5 ?_ | refine a6 ?_ | refine s_len ?_ | refine s_lenR ?_ | refine s_index ?_ | refine s_indexR ?_ | refine s_loadBs ?_ | refine s_loadHs ?_ | refine s_addI ?_ | refine a7 ?_ | refine a8 ?_ | refine a9 ?_ | refine RW.storeR rfl rfl rfl rfl (by first | rfl | (simp [allOne, cellsL, one1]; done) | (simp [allOne, cellsL, one1]; first | assumption | (refine ⟨?_, ?_⟩ <;> assumption))) rfl ?_ | refine a10 ?_ | refine RW.storeR1 rfl rfl (by first | rfl | exact IsSl.one1 (by assumption) | exact IsSl.one1 (SliceRep.isSl (by assumption))) rfl rfl ?_)
      refine Runs.ret1 Try.func45 Try.results45 rfl (fun w hm => hR _ w _ H _ (List.mem_cons_self ..) (Snap.le.refl _) ?_ hm)
      have : xs = ys := List.ext_getElem? fun j => by
        by_cases hj : j < k
        · exact hI j hj
        · rw [List.getElem?_eq_none (by omega), List.getElem?_eq_none (by omega)]
      simp [this]
theorem begins_c {H : Snap} {va vb : Value} {xs ys : List Cand} (ha : SliceRep H CandL va xs) (hb : SliceRep H CandL vb ys) :
    Pure Try.prog 26 #[va, vb, .func (.func 24) #[] #[]] H (fun _ r => r = .bool (decide (xs <+: ys))) := by
  have has := ha.isSl
  have hbs := hb.isSl
  have hba := ha.isSl.bound
  have hbb := hb.isSl.bound
  refine Pure.intro Try.func26 rfl Try.ntmps26 rfl (fun E R hM hR => ?_)
  by_cases h : xs.length ≤ ys.length
  · have hi : (xs.length : Int) ≤ (ys.length : Int) := by omega
    have hsl := SliceRep.slv (lo := 0) (hi := xs.length) (mx := capOf vb) (s := 2) hb rfl (Nat.zero_le _) h (by have := hb.capOf_le; omega) (Nat.le_refl _)
    rw [List.drop_zero, Nat.sub_zero] at hsl
    repeat (first | refine a1 ?_ | refine a3 ?_ | refine a4 ?_ | refine a5 ?_ | refine a6 ?_ | refine s_len ?_ | refine s_lenR ?_ | refine s_sliceHi ?_ | refine a7 ?_ | refine a8 ?_)
    rw [decide_eq_true hi]
    repeat (first | refine a1 ?_ | refine a3 ?_ | refine a4 ?_ | refine a5 ?_ | refine a6 ?_ | refine s_len ?_ | refine s_lenR ?_ | refine s_sliceHi ?_ | refine a7 ?_ | refine a8 ?_)
    refine RW.callV rfl (equalF_c ha hsl) rfl rfl ?_
    rintro _ _ rfl
    repeat (first | refine a1 ?_ | refine a3 ?_ | refine a4 ?_ | refine a5 ?_ | refine a6 ?_ | refine s_len ?_ | refine s_lenR ?_ | refine s_sliceHi ?_ | refine a7 ?_ | refine a8 ?_)
    refine Runs.ret1 Try.func26 Try.results26 rfl (fun w hm => hR _ w _ H _ (List.mem_cons_self ..) (Snap.le.refl _) ?_ hm)
    have : (xs <+: ys) ↔ xs = ys.take xs.length := List.prefix_iff_eq_take
    rw [show decide (xs <+: ys) = decide (xs = ys.take xs.length) from decide_eq_decide.2 this]
  · have hi : ¬ (xs.length : Int) ≤ (ys.length : Int) := by omega
    repeat (first | refine a1 ?_ | refine a3 ?_ | refine a4 ?_ | refine a5 ?_ | refine a6 ?_ | refine s_len ?_ | refine s_lenR ?_ | refine s_sliceHi ?_ | refine a7 ?_ | refine a8 ?_)
    rw [decide_eq_false hi]
    repeat (first | refine a1 ?_ | refine a3 ?_ | refine a4 ?_ | refine a5 ?_ | refine a6 ?_ | refine s_len ?_ | refine s_lenR ?_ | refine s_sliceHi ?_ | refine a7 ?_ | refine a8 ?_)
    refine Runs.ret1 Try.func26 Try.results26 rfl (fun w hm => hR _ w _ H _ (List.mem_cons_self ..) (Snap.le.refl _) ?_ hm)
    rw [decide_eq_false fun hp : xs <+: ys => h hp.length_le]
theorem prefix_c {H : Snap} {va vb : Value} {xs ys : List Cand} {w v : Bool} (ha : SliceRep H CandL va xs) (hb : SliceRep H CandL vb ys) :
    Pure Try.prog 12 #[.agg #[va, .bool w], .agg #[vb, .bool v]] H (fun _ r => r = .bool (prefR xs w ys v)) := by
  have has := ha.isSl
  have hbs := hb.isSl
  have hba := ha.isSl.bound
  have hbb := hb.isSl.bound
  refine Pure.intro Try.func12 rfl Try.ntmps12 rfl (fun E R hM hR => ?_)
  repeat (first | refine a1 ?_ | refine a3 ?_ | refine a4 ?_ | refine a5 ?_ | refine a6 ?_ | refine s_fieldB ?_ | refine s_fieldV ?_ | refine s_loadB ?_ | refine s_loadH ?_ | refine s_loadR ?_ | refine s_len ?_ | refine s_lenR ?_ | refine s_eqlB ?_ | refine a7 ?_ | refine a8 ?_)
  refine RW.box rfl rfl rfl rfl (fun b2 => ?_)
  refine RW.box rfl rfl rfl rfl (fun b3 => ?_)
  repeat (first | refine a1 ?_ | refine a3 ?_ | refine a4 ?_ | refine a5 ?_ | refine a6 ?_ | refine s_fieldB ?_ | refine s_fieldV ?_ | refine s_loadB ?_ | refine s_loadH ?_ | refine s_loadR ?_ | refine s_len ?_ | refine s_lenR ?_ | refine s_eqlB ?_ | refine a7 ?_ | refine a8 ?_)
  refine RW.callV rfl (begins_c ha hb) rfl rfl ?_
  rintro _ _ rfl
  repeat (first | refine a1 ?_ | refine a3 ?_ | refine a4 ?_ | refine a5 ?_ | refine a6 ?_ | refine s_fieldB ?_ | refine s_fieldV ?_ | refine s_loadB ?_ | refine s_loadH ?_ | refine s_loadR ?_ | refine s_len ?_ | refine s_lenR ?_ | refine s_eqlB ?_ | refine a7 ?_ | refine a8 ?_)
  rw [show (!decide (xs <+: ys)) = decide (¬ xs <+: ys) from by simp]
  refine Runs.cond_d rfl (fun hp => ?_) (fun hp => ?_)
  · repeat (first | refine a1 ?_ | refine a3 ?_ | refine a4 ?_ | refine a5 ?_ | refine a6 ?_ | refine s_fieldB ?_ | refine s_fieldV ?_ | refine s_loadB ?_ | refine s_loadH ?_ | refine s_loadR ?_ | refine s_len ?_ | refine s_lenR ?_ | refine s_eqlB ?_ | refine a7 ?_ | refine a8 ?_)
    refine Runs.ret1 Try.func12 Try.results12 rfl (fun w hm => hR _ w _ H _ (List.mem_cons_self ..) (Snap.le.refl _) ?_ hm)
    unfold prefR; rw [decide_eq_false hp, Bool.false_and]
  · have hp' : xs <+: ys := Classical.not_not.1 hp
    repeat (first | refine a1 ?_ | refine a3 ?_ | refine a4 ?_ | refine a5 ?_ | refine a6 ?_ | refine s_fieldB ?_ | refine s_fieldV ?_ | refine s_loadB ?_ | refine s_loadH ?_ | refine s_loadR ?_ | refine s_len ?_ | refine s_lenR ?_ | refine s_eqlB ?_ | refine a7 ?_ | refine a8 ?_)
    refine Runs.cond_d rfl (fun he => ?_) (fun he => ?_)
    · repeat (first | refine a1 ?_ | refine a3 ?_ | refine a4 ?_ | refine a5 ?_ | refine a6 ?_ | refine s_fieldB ?_ | refine s_fieldV ?_ | refine s_loadB ?_ | refine s_loadH ?_ | refine s_loadR ?_ | refine s_len ?_ | refine s_lenR ?_ | refine s_eqlB ?_ | refine a7 ?_ | refine a8 ?_)
      refine Runs.ret1 Try.func12 Try.results12 rfl (fun w hm => hR _ w _ H _ (List.mem_cons_self ..) (Snap.le.refl _) ?_ hm)
      unfold prefR; rw [decide_eq_true hp', Bool.true_and, if_pos (by omega)]
    · repeat (first | refine a1 ?_ | refine a3 ?_ | refine a4 ?_ | refine a5 ?_ | refine a6 ?_ | refine s_fieldB ?_ | refine s_fieldV ?_ | refine s_loadB ?_ | refine s_loadH ?_ | refine s_loadR ?_ | refine s_len ?_ | refine s_lenR ?_ | refine s_eqlB ?_ | refine a7 ?_ | refine a8 ?_)
      refine Runs.ret1 Try.func12 Try.results12 rfl (fun w hm => hR _ w _ H _ (List.mem_cons_self ..) (Snap.le.refl _) ?_ hm)
      unfold prefR; rw [decide_eq_true hp', Bool.true_and, if_neg (by omega)]
theorem rprefix_c {H : Snap} {va vb : Value} {xs ys : List Cand} {w v : Bool} (ha : SliceRep H CandL va xs) (hb : SliceRep H CandL vb ys) :
    Pure Try.prog 13 #[.agg #[va, .bool w], .agg #[vb, .bool v]] H (fun _ r => r = .bool (prefR xs w ys v)) := by
  have has := ha.isSl
  have hbs := hb.isSl
  have hba := ha.isSl.bound
  have hbb := hb.isSl.bound
  refine Pure.intro Try.func13 rfl Try.ntmps13 rfl (fun E R hM hR => ?_)
  repeat (first | refine a1 ?_ | refine a3 ?_ | refine a4 ?_ | refine a5 ?_ | refine a6 ?_ | refine s_fieldB ?_ | refine s_fieldV ?_ | refine s_loadB ?_ | refine s_loadH ?_ | refine s_loadR ?_ | refine s_len ?_ | refine s_lenR ?_ | refine s_sliceHi ?_ | refine s_eqlB ?_ | refine a7 ?_ | refine a8 ?_)
  refine RW.box rfl rfl rfl rfl (fun b2 => ?_)
  refine RW.box rfl rfl rfl rfl (fun b3 => ?_)
  by_cases h : xs.length ≤ ys.length
  · have hi : ¬ ((ys.length : Int) < (xs.length : Int)) := by omega
    have hsl := SliceRep.slv (lo := 0) (hi := xs.length) (mx := capOf vb) (s := 2) hb rfl (Nat.zero_le _) h (by have := hb.capOf_le; omega) (Nat.le_refl _)
    rw [List.drop_zero, Nat.sub_zero] at hsl
    repeat (first | refine a1 ?_ | refine a3 ?_ | refine a4 ?_ | refine a5 ?_ | refine a6 ?_ | refine s_fieldB ?_ | refine s_fieldV ?_ | refine s_loadB ?_ | refine s_loadH ?_ | refine s_loadR ?_ | refine s_len ?_ | refine s_lenR ?_ | refine s_sliceHi ?_ | refine s_eqlB ?_ | refine a7 ?_ | refine a8 ?_)
    refine Runs.regionD _ _ [] (fun x hx => List.mem_cons_of_mem _ hx) (List.Sublist.refl _) (by kernel_rfl) ?_
    (first | refine t_fieldB 0 ?_ | refine t_fieldV 0 ?_)
    (first | refine t_loadB 1 ?_ | refine t_loadH 1 ?_ | refine t_loadR 1 ?_)
    (first | refine t_len 2 ?_ | refine t_lenR 2 ?_)
    (first | refine t_fieldB 3 ?_ | refine t_fieldV 3 ?_)
    (first | refine t_loadB 4 ?_ | refine t_loadH 4 ?_ | refine t_loadR 4 ?_)
    (first | refine t_len 5 ?_ | refine t_lenR 5 ?_)
    refine d1 6 2 ?_
    rw [decide_eq_false hi]
    (first | refine t_fieldB 8 ?_ | refine t_fieldV 8 ?_)
    (first | refine t_loadB 9 ?_ | refine t_loadH 9 ?_ | refine t_loadR 9 ?_)
    (first | refine t_fieldB 10 ?_ | refine t_fieldV 10 ?_)
    (first | refine t_loadB 11 ?_ | refine t_loadH 11 ?_ | refine t_loadR 11 ?_)
    (first | refine t_fieldB 12 ?_ | refine t_fieldV 12 ?_)
    (first | refine t_loadB 13 ?_ | refine t_loadH 13 ?_ | refine t_loadR 13 ?_)
    (first | refine t_len 14 ?_ | refine t_lenR 14 ?_)
    refine t_sliceHi 15 ?_
    refine DW.callV 16 rfl (by kernel_rfl) rfl (same_c ha hsl) rfl rfl ?_
    rintro _ _ rfl
    refine d1 17 2 ?_
    refine DW.done (by kernel_rfl) ?_
    rw [show (!decide (xs = ys.take xs.length)) = decide (¬ xs <+: ys) from by rw [decide_not]; congr 1; exact decide_eq_decide.2 List.prefix_iff_eq_take.symm]
    refine Runs.cond_d rfl (fun hp => ?_) (fun hp => ?_)
    · repeat (first | refine a1 ?_ | refine a3 ?_ | refine a4 ?_ | refine a5 ?_ | refine a6 ?_ | refine s_fieldB ?_ | refine s_fieldV ?_ | refine s_loadB ?_ | refine s_loadH ?_ | refine s_loadR ?_ | refine s_len ?_ | refine s_lenR ?_ | refine s_sliceHi ?_ | refine s_eqlB ?_ | refine a7 ?_ | refine a8 ?_)
      refine Runs.ret1 Try.func13 Try.results13 rfl (fun w hm => hR _ w _ H _ (List.mem_cons_self ..) (Snap.le.refl _) ?_ hm)
      unfold prefR; rw [decide_eq_false hp, Bool.false_and]
    · have hp' : xs <+: ys := Classical.not_not.1 hp
      repeat (first | refine a1 ?_ | refine a3 ?_ | refine a4 ?_ | refine a5 ?_ | refine a6 ?_ | refine s_fieldB ?_ | refine s_fieldV ?_ | refine s_loadB ?_ | refine s_loadH ?_ | refine s_loadR ?_ | refine s_len ?_ | refine s_lenR ?_ | refine s_sliceHi ?_ | refine s_eqlB ?_ | refine a7 ?_ | refine a8 ?_)
      refine Runs.cond_d rfl (fun he => ?_) (fun he => ?_)
      · repeat (first | refine a1 ?_ | refine a3 ?_ | refine a4 ?_ | refine a5 ?_ | refine a6 ?_ | refine s_fieldB ?_ | refine s_fieldV ?_ | refine s_loadB ?_ | refine s_loadH ?_ | refine s_loadR ?_ | refine s_len ?_ | refine s_lenR ?_ | refine s_sliceHi ?_ | refine s_eqlB ?_ | refine a7 ?_ | refine a8 ?_)
        refine Runs.ret1 Try.func13 Try.results13 rfl (fun w hm => hR _ w _ H _ (List.mem_cons_self ..) (Snap.le.refl _) ?_ hm)
        unfold prefR; rw [decide_eq_true hp', Bool.true_and, if_pos (by omega)]
      · repeat (first | refine a1 ?_ | refine a3 ?_ | refine a4 ?_ | refine a5 ?_ | refine a6 ?_ | refine s_fieldB ?_ | refine s_fieldV ?_ | refine s_loadB ?_ | refine s_loadH ?_ | refine s_loadR ?_ | refine s_len ?_ | refine s_lenR ?_ | refine s_sliceHi ?_ | refine s_eqlB ?_ | refine a7 ?_ | refine a8 ?_)
        refine Runs.ret1 Try.func13 Try.results13 rfl (fun w hm => hR _ w _ H _ (List.mem_cons_self ..) (Snap.le.refl _) ?_ hm)
        unfold prefR; rw [decide_eq_true hp', Bool.true_and, if_neg (by omega)]
  · have hi : (ys.length : Int) < (xs.length : Int) := by omega
    repeat (first | refine a1 ?_ | refine a3 ?_ | refine a4 ?_ | refine a5 ?_ | refine a6 ?_ | refine s_fieldB ?_ | refine s_fieldV ?_ | refine s_loadB ?_ | refine s_loadH ?_ | refine s_loadR ?_ | refine s_len ?_ | refine s_lenR ?_ | refine s_sliceHi ?_ | refine s_eqlB ?_ | refine a7 ?_ | refine a8 ?_)
    refine Runs.regionD _ _ [] (fun x hx => List.mem_cons_of_mem _ hx) (List.Sublist.refl _) (by kernel_rfl) ?_
    (first | refine t_fieldB 0 ?_ | refine t_fieldV 0 ?_)
    (first | refine t_loadB 1 ?_ | refine t_loadH 1 ?_ | refine t_loadR 1 ?_)
    (first | refine t_len 2 ?_ | refine t_lenR 2 ?_)
    (first | refine t_fieldB 3 ?_ | refine t_fieldV 3 ?_)
    (first | refine t_loadB 4 ?_ | refine t_loadH 4 ?_ | refine t_loadR 4 ?_)
    (first | refine t_len 5 ?_ | refine t_lenR 5 ?_)
    refine d1 6 2 ?_
    rw [decide_eq_true hi]
    refine d3 8 ?_
    refine d3 9 ?_
    refine d3 10 ?_
    refine d3 11 ?_
    refine d3 12 ?_
    refine d3 13 ?_
    refine d3 14 ?_
    refine d3 15 ?_
    refine d3 16 ?_
    refine d3 17 ?_
    refine d2 18 ?_
    refine DW.done (by kernel_rfl) ?_
    repeat (first | refine a1 ?_ | refine a3 ?_ | refine a4 ?_ | refine a5 ?_ | refine a6 ?_ | refine s_fieldB ?_ | refine s_fieldV ?_ | refine s_loadB ?_ | refine s_loadH ?_ | refine s_loadR ?_ | refine s_len ?_ | refine s_lenR ?_ | refine s_sliceHi ?_ | refine s_eqlB ?_ | refine a7 ?_ | refine a8 ?_)
    refine Runs.ret1 Try.func13 Try.results13 rfl (fun w hm => hR _ w _ H _ (List.mem_cons_self ..) (Snap.le.refl _) ?_ hm)
    unfold prefR; rw [decide_eq_false (fun hp : xs <+: ys => h hp.length_le), Bool.false_and]
theorem rsame_c {H : Snap} {va vb : Value} {xs ys : List Cand} {w v : Bool} (ha : SliceRep H CandL va xs) (hb : SliceRep H CandL vb ys) :
    Pure Try.prog 16 #[.agg #[va, .bool w], .agg #[vb, .bool v]] H (fun _ r => r = .bool (decide (xs = ys ∧ w = v))) := by
  refine Pure.intro Try.func16 rfl Try.ntmps16 rfl (fun E R hM hR => ?_)
  repeat (first | refine a1 ?_ | refine a3 ?_ | refine a4 ?_ | refine a5 ?_ | refine a6 ?_ | refine s_fieldB ?_ | refine s_fieldV ?_ | refine s_loadB ?_ | refine s_loadH ?_ | refine s_loadR ?_ | refine s_eqlB ?_ | refine a7 ?_ | refine a8 ?_)
  refine RW.box rfl rfl rfl rfl (fun b2 => ?_)
  refine RW.box rfl rfl rfl rfl (fun b3 => ?_)
  repeat (first | refine a1 ?_ | refine a3 ?_ | refine a4 ?_ | refine a5 ?_ | refine a6 ?_ | refine s_fieldB ?_ | refine s_fieldV ?_ | refine s_loadB ?_ | refine s_loadH ?_ | refine s_loadR ?_ | refine s_eqlB ?_ | refine a7 ?_ | refine a8 ?_)
  refine RW.callV rfl (same_c ha hb) rfl rfl ?_
  rintro _ _ rfl
  repeat (first | refine a1 ?_ | refine a3 ?_ | refine a4 ?_ | refine a5 ?_ | refine a6 ?_ | refine s_fieldB ?_ | refine s_fieldV ?_ | refine s_loadB ?_ | refine s_loadH ?_ | refine s_loadR ?_ | refine s_eqlB ?_ | refine a7 ?_ | refine a8 ?_)
  by_cases h : xs = ys
  · rw [decide_eq_true h]
    repeat (first | refine a1 ?_ | refine a3 ?_ | refine a4 ?_ | refine a5 ?_ | refine a6 ?_ | refine s_fieldB ?_ | refine s_fieldV ?_ | refine s_loadB ?_ | refine s_loadH ?_ | refine s_loadR ?_ | refine s_eqlB ?_ | refine a7 ?_ | refine a8 ?_)
    refine Runs.ret1 Try.func16 Try.results16 rfl (fun w hm => hR _ w _ H _ (List.mem_cons_self ..) (Snap.le.refl _) ?_ hm)
    cases w <;> cases v <;> simp [h]
  · rw [decide_eq_false h]
    repeat (first | refine a1 ?_ | refine a3 ?_ | refine a4 ?_ | refine a5 ?_ | refine a6 ?_ | refine s_fieldB ?_ | refine s_fieldV ?_ | refine s_loadB ?_ | refine s_loadH ?_ | refine s_loadR ?_ | refine s_eqlB ?_ | refine a7 ?_ | refine a8 ?_)
    refine Runs.ret1 Try.func16 Try.results16 rfl (fun w hm => hR _ w _ H _ (List.mem_cons_self ..) (Snap.le.refl _) ?_ hm)
    simp [h]
end Go.Proofs.Ytjdhcblofkkibaa

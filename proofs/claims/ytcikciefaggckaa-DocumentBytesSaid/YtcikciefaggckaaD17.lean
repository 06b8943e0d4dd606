/-
  The law DocumentBytes. Conditions: the raw data hold bytes.
-/
import Derived.Test.YtcikciefaggckaaD13
import Derived.Test.YtcikciefaggckaaDw
import Derived.ChangeKeysEq
namespace Go.Proofs.Ytcikciefaggckaa
open Go Go.RowKit

abbrev ctC (L : List Int) : List Value := L.map (.int .i64)
theorem tzero_of_info {P : Program} {T : TypeId} {z : Value} {s b : Nat} [i : TInfo P T z s b] : TZero P T z := ⟨fun w => by
  obtain ⟨i, h1, h2, _, _⟩ := i.h
  simp [zeroValue, typeInfo, h1, h2]⟩
instance : TInfo Try.prog 58 (.agg (ctC (List.replicate 95 0)).toArray) 95 760 := ⟨Try.t58, Try.type58, rfl, rfl, rfl⟩
instance : TZero Try.prog 58 (.agg (ctC (List.replicate 95 0)).toArray) := tzero_of_info
theorem QF.buildA0 {P : Program} {l : Env} {T e : TypeId} {n s : Nat} {cs : List Value} [t : TDesc P T (.array n e)] [z : TSz P e s] [j : TZero P T (.agg cs.toArray)] : QF P l (.build T #[]) (.agg cs.toArray) := by
  intro o ho ρ hρ w
  simp [execOp, ho, Instr.build, j.h, run_underlying t.h, z.h, Value.cells, Instr.fill]
def cntU (s : List UInt8) (j : Nat) : Int := (s.count (UInt8.ofNat (32 + j)) : Int)
def cntL (s : List UInt8) : List Int := (List.range 95).map (cntU s)
theorem cntL_get {s : List UInt8} {j : Nat} (h : j < 95) : (cntL s)[j]? = some (cntU s j) := by
  unfold cntL
  rw [List.getElem?_map, List.getElem?_range h]
  rfl
theorem cntL_length (s : List UInt8) : (cntL s).length = 95 := by simp [cntL]
theorem cntL_nil : cntL [] = List.replicate 95 0 := by decide
theorem ofNat_eq {b : UInt8} {j : Nat} (h : j < 95) : UInt8.ofNat (32 + j) = b ↔ b.toNat = 32 + j := by
  constructor
  · intro e
    have h2 : (UInt8.ofNat (32 + j)).toNat = (32 + j) % 256 := UInt8.toNat_ofNat'
    rw [← e, h2]
    omega
  · intro e
    rw [← e]; simp
theorem cntU_snoc (s : List UInt8) (b : UInt8) {j : Nat} (h : j < 95) : cntU (s ++ [b]) j = cntU s j + if b.toNat = 32 + j then 1 else 0 := by
  unfold cntU
  rw [List.count_append, List.count_singleton]
  by_cases e : b.toNat = 32 + j
  · have e2 : b = UInt8.ofNat (32 + j) := ((ofNat_eq h).2 e).symm
    rw [if_pos e, if_pos (by rw [e2]; exact beq_self_eq_true _)]; simp
  · have e2 : ¬ b = UInt8.ofNat (32 + j) := fun e2 => e ((ofNat_eq h).1 e2.symm)
    rw [if_neg e, if_neg (fun h9 => e2 (eq_of_beq h9))]; simp
theorem cntL_in {s : List UInt8} {b : UInt8} {i : Nat} (hb : b.toNat = 32 + i) : cntL (s ++ [b]) = (cntL s).set i (cntU s i + 1) := by
  apply List.ext_getElem?
  intro j
  by_cases hj : j < 95
  · rw [cntL_get hj, List.getElem?_set, cntU_snoc s b hj]
    by_cases e : i = j
    · subst e
      rw [if_pos rfl, if_pos hb, if_pos (by rw [cntL_length]; exact hj)]
    · rw [if_neg e, if_neg (by omega), cntL_get hj, Int.add_zero]
  · rw [List.getElem?_eq_none (by rw [cntL_length]; omega), List.getElem?_eq_none (by rw [List.length_set, cntL_length]; omega)]
theorem cntL_out {s : List UInt8} {b : UInt8} (hb : ¬ (32 ≤ b.toNat ∧ b.toNat ≤ 126)) : cntL (s ++ [b]) = cntL s := by
  apply List.ext_getElem?
  intro j
  by_cases hj : j < 95
  · rw [cntL_get hj, cntL_get hj, cntU_snoc s b hj, if_neg (by omega), Int.add_zero]
  · rw [List.getElem?_eq_none (by rw [cntL_length]; omega), List.getElem?_eq_none (by rw [cntL_length]; omega)]
theorem cntL_perm {s t : List UInt8} (h : s.Perm t) : cntL s = cntL t := by
  unfold cntL
  refine List.map_congr_left fun j _ => ?_
  unfold cntU
  rw [h.count_eq]
theorem setAt_ctC : ∀ {L : List Int} {i : Nat} {x : Int}, i < L.length → setAt (ctC L) i (.int .i64 x) = some (ctC (L.set i x))
  | [], i, x, h => by simp at h
  | y :: L, 0, x, _ => rfl
  | y :: L, i + 1, x, h => by
    show setAt (_ :: ctC L) (i + 1) _ = _
    simp only [setAt, setAt_ctC (L := L) (i := i) (x := x) (by simpa using h)]
    rfl
theorem one_ctC (L : List Int) : allOne (ctC L) = true := by
  induction L with
  | nil => rfl
  | cons x L ih => simp [allOne, one1] at *
set_option maxHeartbeats 1000000 in
theorem count_c {H : Snap} {s : List UInt8} (hs : s.length ≤ 100000) : Pure Try.prog 27 #[str s] H (fun _ r => r = .agg (ctC (cntL s)).toArray) := by
  refine Pure.intro Try.func27 rfl Try.ntmps27 rfl (fun E R hM hR => ?_)
  repeat (first | refine a1 ?_ | refine a3 ?_ | refine a4 ?_ | refine a5 ?_ | refine a6 ?_ | refine s_build ?_ | refine s_lenS ?_ | refine s_indexS ?_ | refine s_geq ?_ | refine s_leq ?_ | refine s_subU8 ?_ | refine s_indexArr ?_ | refine s_indexArrB ?_ | refine s_loadB ?_ | refine s_loadH ?_ | refine s_loadR ?_ | refine s_addI ?_ | refine s_loadBs ?_ | refine s_loadHs ?_ | refine a7 ?_ | refine a8 ?_ | refine a9 ?_ | refine RW.storeR rfl rfl rfl rfl (by first | rfl | (simp [allOne, cellsL, one1]; done) | (simp [allOne, cellsL, one1]; first | assumption | (refine ⟨?_, ?_⟩ <;> assumption))) rfl ?_ | refine a10 ?_ | refine RW.storeR1 rfl rfl (by first | rfl | exact IsSl.one1 (by assumption) | exact IsSl.one1 (SliceRep.isSl (by assumption))) rfl rfl ?_)
  refine RW.alloc rfl rfl rfl (fun b2 => ?_)
  repeat (first | refine a1 ?_ | refine a3 ?_ | refine a4 ?_ | refine a5 ?_ | refine a6 ?_ | refine s_build ?_ | refine s_lenS ?_ | refine s_indexS ?_ | refine s_geq ?_ | refine s_leq ?_ | refine s_subU8 ?_ | refine s_indexArr ?_ | refine s_indexArrB ?_ | refine s_loadB ?_ | refine s_loadH ?_ | refine s_loadR ?_ | refine s_addI ?_ | refine s_loadBs ?_ | refine s_loadHs ?_ | refine a7 ?_ | refine a8 ?_ | refine a9 ?_ | refine RW.storeR rfl rfl rfl rfl (by first | rfl | (simp [allOne, cellsL, one1]; done) | (simp [allOne, cellsL, one1]; first | assumption | (refine ⟨?_, ?_⟩ <;> assumption))) rfl ?_ | refine a10 ?_ | refine RW.storeR1 rfl rfl (by first | rfl | exact IsSl.one1 (by assumption) | exact IsSl.one1 (SliceRep.isSl (by assumption))) rfl rfl ?_)
  refine RW.q QF.buildA0.qv rfl rfl ?_
  repeat (first | refine a1 ?_ | refine a3 ?_ | refine a4 ?_ | refine a5 ?_ | refine a6 ?_ | refine s_build ?_ | refine s_lenS ?_ | refine s_indexS ?_ | refine s_geq ?_ | refine s_leq ?_ | refine s_subU8 ?_ | refine s_indexArr ?_ | refine s_indexArrB ?_ | refine s_loadB ?_ | refine s_loadH ?_ | refine s_loadR ?_ | refine s_addI ?_ | refine s_loadBs ?_ | refine s_loadHs ?_ | refine a7 ?_ | refine a8 ?_ | refine a9 ?_ | refine RW.storeR rfl rfl rfl rfl (by first | rfl | (simp [allOne, cellsL, one1]; done) | (simp [allOne, cellsL, one1]; first | assumption | (refine ⟨?_, ?_⟩ <;> assumption))) rfl ?_ | refine a10 ?_ | refine RW.storeR1 rfl rfl (by first | rfl | exact IsSl.one1 (by assumption) | exact IsSl.one1 (SliceRep.isSl (by assumption))) rfl rfl ?_)
  refine RW.alloc rfl rfl rfl (fun b3 => ?_)
  repeat (first | refine a1 ?_ | refine a3 ?_ | refine a4 ?_ | refine a5 ?_ | refine a6 ?_ | refine s_build ?_ | refine s_lenS ?_ | refine s_indexS ?_ | refine s_geq ?_ | refine s_leq ?_ | refine s_subU8 ?_ | refine s_indexArr ?_ | refine s_indexArrB ?_ | refine s_loadB ?_ | refine s_loadH ?_ | refine s_loadR ?_ | refine s_addI ?_ | refine s_loadBs ?_ | refine s_loadHs ?_ | refine a7 ?_ | refine a8 ?_ | refine a9 ?_ | refine RW.storeR rfl rfl rfl rfl (by first | rfl | (simp [allOne, cellsL, one1]; done) | (simp [allOne, cellsL, one1]; first | assumption | (refine ⟨?_, ?_⟩ <;> assumption))) rfl ?_ | refine a10 ?_ | refine RW.storeR1 rfl rfl (by first | rfl | exact IsSl.one1 (by assumption) | exact IsSl.one1 (SliceRep.isSl (by assumption))) rfl rfl ?_)
  refine Runs.loop (fun k : Nat => k ≤ s.length) (fun k => s.length - k) (fun _ => [H]) (fun k => [.blk b3 58 (ctC (cntL (s.take k))), .blk b2 58 (ctC (List.replicate 95 0))]) (fun k => [(0, str s), (2, .pointer (some ⟨b2, 0, none⟩)), (3, .pointer (some ⟨b3, 0, none⟩)), (4, .int .i64 (k : Int))]) 0 (Nat.zero_le _) (fun h => by
    dsimp only [List.take_zero] at h
    rw [cntL_nil] at h
    refine Runs.weak (h) (by repeat (first | exact trivial | refine And.intro rfl ?_)) (fun x hx => List.mem_cons_of_mem _ (SubH.h x hx)) (by repeat (first | exact List.nil_sublist _ | exact List.Sublist.refl _ | refine List.Sublist.cons_cons _ ?_ | refine List.Sublist.cons _ ?_))) ?_
  intro k hk ih
  repeat (first | refine a1 ?_ | refine a3 ?_ | refine a4 ?_ | refine a5 ?_ | refine a6 ?_ | refine s_build ?_ | refine s_lenS ?_ | refine s_indexS ?_ | refine s_geq ?_ | refine s_leq ?_ | refine s_subU8 ?_ | refine s_indexArr ?_ | refine s_indexArrB ?_ | refine s_loadB ?_ | refine s_loadH ?_ | refine s_loadR ?_ | refine s_addI ?_ | refine s_loadBs ?_ | refine s_loadHs ?_ | refine a7 ?_ | refine a8 ?_ | refine a9 ?_ | refine RW.storeR rfl rfl rfl rfl (by first | rfl | (simp [allOne, cellsL, one1]; done) | (simp [allOne, cellsL, one1]; first | assumption | (refine ⟨?_, ?_⟩ <;> assumption))) rfl ?_ | refine a10 ?_ | refine RW.storeR1 rfl rfl (by first | rfl | exact IsSl.one1 (by assumption) | exact IsSl.one1 (SliceRep.isSl (by assumption))) rfl rfl ?_)
  refine Runs.cond_d rfl (fun hlt => ?_) (fun hlt => ?_)
  · obtain ⟨b, hb⟩ : ∃ b, s[k]? = some b := ⟨_, List.getElem?_eq_getElem (by omega)⟩
    have hts := take_snoc_of hb
    have h9 := ih (k + 1) (by omega) (by omega)
    rw [hts] at h9
    have hlen := cntL_length (s.take k)
    repeat (first | refine a1 ?_ | refine a3 ?_ | refine a4 ?_ | refine a5 ?_ | refine a6 ?_ | refine s_build ?_ | refine s_lenS ?_ | refine s_indexS ?_ | refine s_geq ?_ | refine s_leq ?_ | refine s_subU8 ?_ | refine s_indexArr ?_ | refine s_indexArrB ?_ | refine s_loadB ?_ | refine s_loadH ?_ | refine s_loadR ?_ | refine s_addI ?_ | refine s_loadBs ?_ | refine s_loadHs ?_ | refine a7 ?_ | refine a8 ?_ | refine a9 ?_ | refine RW.storeR rfl rfl rfl rfl (by first | rfl | (simp [allOne, cellsL, one1]; done) | (simp [allOne, cellsL, one1]; first | assumption | (refine ⟨?_, ?_⟩ <;> assumption))) rfl ?_ | refine a10 ?_ | refine RW.storeR1 rfl rfl (by first | rfl | exact IsSl.one1 (by assumption) | exact IsSl.one1 (SliceRep.isSl (by assumption))) rfl rfl ?_)
    refine RW.dec 16 rfl (fun h1 => ?_) (fun h1 => ?_)
    · repeat (first | refine a1 ?_ | refine a3 ?_ | refine a4 ?_ | refine a5 ?_ | refine a6 ?_ | refine s_build ?_ | refine s_lenS ?_ | refine s_indexS ?_ | refine s_geq ?_ | refine s_leq ?_ | refine s_subU8 ?_ | refine s_indexArr ?_ | refine s_indexArrB ?_ | refine s_loadB ?_ | refine s_loadH ?_ | refine s_loadR ?_ | refine s_addI ?_ | refine s_loadBs ?_ | refine s_loadHs ?_ | refine a7 ?_ | refine a8 ?_ | refine a9 ?_ | refine RW.storeR rfl rfl rfl rfl (by first | rfl | (simp [allOne, cellsL, one1]; done) | (simp [allOne, cellsL, one1]; first | assumption | (refine ⟨?_, ?_⟩ <;> assumption))) rfl ?_ | refine a10 ?_ | refine RW.storeR1 rfl rfl (by first | rfl | exact IsSl.one1 (by assumption) | exact IsSl.one1 (SliceRep.isSl (by assumption))) rfl rfl ?_)
      refine Runs.cond_d rfl (fun h2 => ?_) (fun h2 => ?_)
      · obtain ⟨j, hj⟩ : ∃ j : Nat, b.toNat = 32 + j := ⟨b.toNat - 32, by omega⟩
        rw [cntL_in hj] at h9
        have hg : (ctC (cntL (s.take k)))[j]? = some (.int .i64 (cntU (s.take k) j)) := by
          rw [List.getElem?_map, cntL_get (by omega)]; rfl
        have hset : setAt (ctC (cntL (s.take k))) j (.int .i64 (cntU (s.take k) j + 1)) = some (ctC ((cntL (s.take k)).set j (cntU (s.take k) j + 1))) := setAt_ctC (by omega)
        repeat (first | refine a1 ?_ | refine a3 ?_ | refine a4 ?_ | refine a5 ?_ | refine a6 ?_ | refine s_build ?_ | refine s_lenS ?_ | refine s_indexS ?_ | refine s_geq ?_ | refine s_leq ?_ | refine s_subU8 ?_ | refine s_indexArr ?_ | refine s_indexArrB ?_ | refine s_loadB ?_ | refine s_loadH ?_ | refine s_loadR ?_ | refine s_addI ?_ | refine s_loadBs ?_ | refine s_loadHs ?_ | refine a7 ?_ | refine a8 ?_ | refine a9 ?_ | refine RW.storeR rfl rfl rfl rfl (by first | rfl | (simp [allOne, cellsL, one1]; done) | (simp [allOne, cellsL, one1]; first | assumption | (refine ⟨?_, ?_⟩ <;> assumption))) rfl ?_ | refine a10 ?_ | refine RW.storeR1 rfl rfl (by first | rfl | exact IsSl.one1 (by assumption) | exact IsSl.one1 (SliceRep.isSl (by assumption))) rfl rfl ?_)
        have hcu : 0 ≤ cntU (s.take k) j ∧ cntU (s.take k) j ≤ 100000 := by
          have h3 := List.count_le_length (a := UInt8.ofNat (32 + j)) (l := s.take k)
          have h4 : (s.take k).length ≤ s.length := by simp; omega
          unfold cntU
          omega
        rw [show 0 + ((b.toNat : Int) - 32).toNat * 1 = j by omega]
        refine RW.q (QV.loadB rfl hg) rfl rfl ?_
        repeat (first | refine a1 ?_ | refine a3 ?_ | refine a4 ?_ | refine a5 ?_ | refine a6 ?_ | refine s_build ?_ | refine s_lenS ?_ | refine s_indexS ?_ | refine s_geq ?_ | refine s_leq ?_ | refine s_subU8 ?_ | refine s_indexArr ?_ | refine s_indexArrB ?_ | refine s_loadB ?_ | refine s_loadH ?_ | refine s_loadR ?_ | refine s_addI ?_ | refine s_loadBs ?_ | refine s_loadHs ?_ | refine a7 ?_ | refine a8 ?_ | refine a9 ?_ | refine RW.storeR rfl rfl rfl rfl (by first | rfl | (simp [allOne, cellsL, one1]; done) | (simp [allOne, cellsL, one1]; first | assumption | (refine ⟨?_, ?_⟩ <;> assumption))) rfl ?_ | refine a10 ?_ | refine RW.storeR1 rfl rfl (by first | rfl | exact IsSl.one1 (by assumption) | exact IsSl.one1 (SliceRep.isSl (by assumption))) rfl rfl ?_)
        rw [show 0 + ((b.toNat : Int) - 32).toNat * 1 = j by omega]
        refine RW.storeB1 rfl rfl rfl hset rfl ?_
        repeat (first | refine a1 ?_ | refine a3 ?_ | refine a4 ?_ | refine a5 ?_ | refine a6 ?_ | refine s_build ?_ | refine s_lenS ?_ | refine s_indexS ?_ | refine s_geq ?_ | refine s_leq ?_ | refine s_subU8 ?_ | refine s_indexArr ?_ | refine s_indexArrB ?_ | refine s_loadB ?_ | refine s_loadH ?_ | refine s_loadR ?_ | refine s_addI ?_ | refine s_loadBs ?_ | refine s_loadHs ?_ | refine a7 ?_ | refine a8 ?_ | refine a9 ?_ | refine RW.storeR rfl rfl rfl rfl (by first | rfl | (simp [allOne, cellsL, one1]; done) | (simp [allOne, cellsL, one1]; first | assumption | (refine ⟨?_, ?_⟩ <;> assumption))) rfl ?_ | refine a10 ?_ | refine RW.storeR1 rfl rfl (by first | rfl | exact IsSl.one1 (by assumption) | exact IsSl.one1 (SliceRep.isSl (by assumption))) rfl rfl ?_)
        refine Runs.weak (h9) (by repeat (first | exact trivial | refine And.intro rfl ?_)) (fun x hx => List.mem_cons_of_mem _ (SubH.h x hx)) (by repeat (first | exact List.nil_sublist _ | exact List.Sublist.refl _ | refine List.Sublist.cons_cons _ ?_ | refine List.Sublist.cons _ ?_))
      · rw [cntL_out (by omega)] at h9
        repeat (first | refine a1 ?_ | refine a3 ?_ | refine a4 ?_ | refine a5 ?_ | refine a6 ?_ | refine s_build ?_ | refine s_lenS ?_ | refine s_indexS ?_ | refine s_geq ?_ | refine s_leq ?_ | refine s_subU8 ?_ | refine s_indexArr ?_ | refine s_indexArrB ?_ | refine s_loadB ?_ | refine s_loadH ?_ | refine s_loadR ?_ | refine s_addI ?_ | refine s_loadBs ?_ | refine s_loadHs ?_ | refine a7 ?_ | refine a8 ?_ | refine a9 ?_ | refine RW.storeR rfl rfl rfl rfl (by first | rfl | (simp [allOne, cellsL, one1]; done) | (simp [allOne, cellsL, one1]; first | assumption | (refine ⟨?_, ?_⟩ <;> assumption))) rfl ?_ | refine a10 ?_ | refine RW.storeR1 rfl rfl (by first | rfl | exact IsSl.one1 (by assumption) | exact IsSl.one1 (SliceRep.isSl (by assumption))) rfl rfl ?_)
        refine Runs.weak (h9) (by repeat (first | exact trivial | refine And.intro rfl ?_)) (fun x hx => List.mem_cons_of_mem _ (SubH.h x hx)) (by repeat (first | exact List.nil_sublist _ | exact List.Sublist.refl _ | refine List.Sublist.cons_cons _ ?_ | refine List.Sublist.cons _ ?_))
    · rw [cntL_out (by omega)] at h9
      repeat (first | refine a1 ?_ | refine a3 ?_ | refine a4 ?_ | refine a5 ?_ | refine a6 ?_ | refine s_build ?_ | refine s_lenS ?_ | refine s_indexS ?_ | refine s_geq ?_ | refine s_leq ?_ | refine s_subU8 ?_ | refine s_indexArr ?_ | refine s_indexArrB ?_ | refine s_loadB ?_ | refine s_loadH ?_ | refine s_loadR ?_ | refine s_addI ?_ | refine s_loadBs ?_ | refine s_loadHs ?_ | refine a7 ?_ | refine a8 ?_ | refine a9 ?_ | refine RW.storeR rfl rfl rfl rfl (by first | rfl | (simp [allOne, cellsL, one1]; done) | (simp [allOne, cellsL, one1]; first | assumption | (refine ⟨?_, ?_⟩ <;> assumption))) rfl ?_ | refine a10 ?_ | refine RW.storeR1 rfl rfl (by first | rfl | exact IsSl.one1 (by assumption) | exact IsSl.one1 (SliceRep.isSl (by assumption))) rfl rfl ?_)
      refine Runs.weak (h9) (by repeat (first | exact trivial | refine And.intro rfl ?_)) (fun x hx => List.mem_cons_of_mem _ (SubH.h x hx)) (by repeat (first | exact List.nil_sublist _ | exact List.Sublist.refl _ | refine List.Sublist.cons_cons _ ?_ | refine List.Sublist.cons _ ?_))
  · have hkl : k = s.length := by omega
    subst hkl
    rw [List.take_length]
    have hlen := cntL_length s
    haveI : TSz Try.prog 58 (ctC (cntL s)).length := by rw [List.length_map, hlen]; infer_instance
    repeat (first | refine a1 ?_ | refine a3 ?_ | refine a4 ?_ | refine a5 ?_ | refine a6 ?_ | refine s_build ?_ | refine s_lenS ?_ | refine s_indexS ?_ | refine s_geq ?_ | refine s_leq ?_ | refine s_subU8 ?_ | refine s_indexArr ?_ | refine s_indexArrB ?_ | refine s_loadB ?_ | refine s_loadH ?_ | refine s_loadR ?_ | refine s_addI ?_ | refine s_loadBs ?_ | refine s_loadHs ?_ | refine a7 ?_ | refine a8 ?_ | refine a9 ?_ | refine RW.storeR rfl rfl rfl rfl (by first | rfl | (simp [allOne, cellsL, one1]; done) | (simp [allOne, cellsL, one1]; first | assumption | (refine ⟨?_, ?_⟩ <;> assumption))) rfl ?_ | refine a10 ?_ | refine RW.storeR1 rfl rfl (by first | rfl | exact IsSl.one1 (by assumption) | exact IsSl.one1 (SliceRep.isSl (by assumption))) rfl rfl ?_)
    refine Runs.retC Try.func27 Try.results27 rfl (fun w hm => hR _ w _ H _ (List.mem_cons_self ..) (Snap.le.refl _) ?_ hm)
    rfl
end Go.Proofs.Ytcikciefaggckaa

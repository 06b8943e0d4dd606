/-
  The law BestRefuses. Conditions: the numbers are numbers of the program.
-/
import Derived.Test.YtonleimnjgmfeaaCh
import Derived.Test.YtonleimnjgmfeaaFa
namespace Go.Proofs.Ytonleimnjgmfeaa
open Go Go.RowKit

set_option maxHeartbeats 4000000 in
theorem refuses_c {H : Snap} {N n k : Int} {vL : Value} {gl : List Lnk} (hl : SliceRep H LinkL vL gl) (_hN : inI64 N) (hn : 0 ≤ n ∧ n ≤ 255) (hk : -128 ≤ k ∧ k ≤ 127) :
    Pure Try.prog 10 #[.agg #[.int .i64 N, vL], .int .u8 n, .int .i8 k] H (fun _ r => r = .bool true) := by
  obtain ⟨m, hm⟩ : ∃ m : Nat, 2 + n % 39 = ((m + 1 : Nat) : Int) := ⟨(1 + n % 39).toNat, by omega⟩
  have hm39 : 1 ≤ m ∧ m ≤ 39 := by omega
  have hE : listE N gl 0 = if validG N gl then 0 else 150 := by
    unfold listE
    by_cases h : validG N gl <;> simp [h]
  have hsl := hl.isSl
  have hshl : IntKind.i64.wrap (1 * 2 ^ (((m + 1 : Nat) : Int) - 1).toNat) = ((2 ^ m : Nat) : Int) := by
    have e : (((m + 1 : Nat) : Int) - 1).toNat = m := by omega
    have e2 : ((2 : Int) ^ m) = ((2 ^ m : Nat) : Int) := by simp
    have e3 : 2 ^ m ≤ 2 ^ 39 := Nat.pow_le_pow_right (by omega) (by omega)
    have e4 : (2 : Nat) ^ 39 = 549755813888 := by decide
    rw [e4] at e3
    rw [e, Int.one_mul, e2]
    clear e2
    generalize (2 ^ m : Nat) = z at e3 ⊢
    exact wrap_i64 ⟨by omega, by omega⟩
  have ecast : ((m + 1 : Nat) : Int) = (m : Int) + 1 := by omega
  have hcv : validG ((m + 1 : Nat) : Int) (chainL m) := by rw [ecast]; exact chain_valid hm39.2
  have hct := chain_tree39 hm39.2
  have hcl := chainL_length m
  refine Pure.intro Try.func10 rfl Try.ntmps10 rfl (fun E R hM hR => ?_)
  repeat (first | refine a1 ?_ | refine a3 ?_ | refine a4 ?_ | refine a5 ?_ | refine a6 ?_ | refine s_loadB ?_ | refine s_fieldB ?_ | refine s_loadH ?_ | refine s_fieldV ?_ | refine s_index ?_ | refine s_indexR ?_ | refine s_indexArr ?_ | refine s_len ?_ | refine s_lenR ?_ | refine s_addI ?_ | refine s_subI ?_ | refine s_loadBs ?_ | refine s_loadR ?_ | refine s_build ?_ | refine s_convI ?_ | refine s_conv ?_ | refine s_rem ?_ | refine s_min ?_ | refine s_lss ?_ | refine s_eql ?_ | refine s_neq ?_ | refine s_gtr ?_ | refine a7 ?_ | refine a8 ?_ | refine a9 ?_ | refine RW.storeR rfl rfl rfl rfl (by first | rfl | (simp [allOne, cellsL, one1]; done) | (simp [allOne, cellsL, one1]; first | assumption | (refine ⟨?_, ?_⟩ <;> assumption))) rfl ?_ | refine a10 ?_ | refine RW.storeR1 rfl rfl (by first | rfl | exact IsSl.one1 (by assumption) | exact IsSl.one1 (SliceRep.isSl (by assumption))) rfl rfl ?_)
  refine RW.box rfl rfl rfl rfl (fun b3 => ?_)
  repeat (first | refine a1 ?_ | refine a3 ?_ | refine a4 ?_ | refine a5 ?_ | refine a6 ?_ | refine s_loadB ?_ | refine s_fieldB ?_ | refine s_loadH ?_ | refine s_fieldV ?_ | refine s_index ?_ | refine s_indexR ?_ | refine s_indexArr ?_ | refine s_len ?_ | refine s_lenR ?_ | refine s_addI ?_ | refine s_subI ?_ | refine s_loadBs ?_ | refine s_loadR ?_ | refine s_build ?_ | refine s_convI ?_ | refine s_conv ?_ | refine s_rem ?_ | refine s_min ?_ | refine s_lss ?_ | refine s_eql ?_ | refine s_neq ?_ | refine s_gtr ?_ | refine a7 ?_ | refine a8 ?_ | refine a9 ?_ | refine RW.storeR rfl rfl rfl rfl (by first | rfl | (simp [allOne, cellsL, one1]; done) | (simp [allOne, cellsL, one1]; first | assumption | (refine ⟨?_, ?_⟩ <;> assumption))) rfl ?_ | refine a10 ?_ | refine RW.storeR1 rfl rfl (by first | rfl | exact IsSl.one1 (by assumption) | exact IsSl.one1 (SliceRep.isSl (by assumption))) rfl rfl ?_)
  refine RW.callV rfl (sanity_c (H := H)) rfl rfl ?_
  rintro _ _ rfl
  repeat (first | refine a1 ?_ | refine a3 ?_ | refine a4 ?_ | refine a5 ?_ | refine a6 ?_ | refine s_loadB ?_ | refine s_fieldB ?_ | refine s_loadH ?_ | refine s_fieldV ?_ | refine s_index ?_ | refine s_indexR ?_ | refine s_indexArr ?_ | refine s_len ?_ | refine s_lenR ?_ | refine s_addI ?_ | refine s_subI ?_ | refine s_loadBs ?_ | refine s_loadR ?_ | refine s_build ?_ | refine s_convI ?_ | refine s_conv ?_ | refine s_rem ?_ | refine s_min ?_ | refine s_lss ?_ | refine s_eql ?_ | refine s_neq ?_ | refine s_gtr ?_ | refine a7 ?_ | refine a8 ?_ | refine a9 ?_ | refine RW.storeR rfl rfl rfl rfl (by first | rfl | (simp [allOne, cellsL, one1]; done) | (simp [allOne, cellsL, one1]; first | assumption | (refine ⟨?_, ?_⟩ <;> assumption))) rfl ?_ | refine a10 ?_ | refine RW.storeR1 rfl rfl (by first | rfl | exact IsSl.one1 (by assumption) | exact IsSl.one1 (SliceRep.isSl (by assumption))) rfl rfl ?_)
  refine Runs.cond_d rfl (fun hlen => ?_) (fun hlen => ?_)
  · repeat (first | refine a1 ?_ | refine a3 ?_ | refine a4 ?_ | refine a5 ?_ | refine a6 ?_ | refine s_loadB ?_ | refine s_fieldB ?_ | refine s_loadH ?_ | refine s_fieldV ?_ | refine s_index ?_ | refine s_indexR ?_ | refine s_indexArr ?_ | refine s_len ?_ | refine s_lenR ?_ | refine s_addI ?_ | refine s_subI ?_ | refine s_loadBs ?_ | refine s_loadR ?_ | refine s_build ?_ | refine s_convI ?_ | refine s_conv ?_ | refine s_rem ?_ | refine s_min ?_ | refine s_lss ?_ | refine s_eql ?_ | refine s_neq ?_ | refine s_gtr ?_ | refine a7 ?_ | refine a8 ?_ | refine a9 ?_ | refine RW.storeR rfl rfl rfl rfl (by first | rfl | (simp [allOne, cellsL, one1]; done) | (simp [allOne, cellsL, one1]; first | assumption | (refine ⟨?_, ?_⟩ <;> assumption))) rfl ?_ | refine a10 ?_ | refine RW.storeR1 rfl rfl (by first | rfl | exact IsSl.one1 (by assumption) | exact IsSl.one1 (SliceRep.isSl (by assumption))) rfl rfl ?_)
    refine Runs.ret1 Try.func10 Try.results10 rfl (fun w hm => hR _ w _ H _ (List.mem_cons_self ..) (Snap.le.refl _) ?_ hm)
    rfl
  have hT : treeT gl N.toNat 0 ≤ 2000000000000 ∨ ¬ validG N gl := by
    by_cases h : validG N gl
    · refine .inl (Nat.le_trans (treeT_links h.2.2.2 _ _) (Nat.le_trans (Nat.pow_le_pow_right (show 0 < 2 by omega) (show _ ≤ 10 from ?_)) (by decide)))
      have := List.length_filter_le (fun x : Lnk => decide (0 ≤ x.f)) gl
      omega
    · exact .inr h
  repeat (first | refine a1 ?_ | refine a3 ?_ | refine a4 ?_ | refine a5 ?_ | refine a6 ?_ | refine s_loadB ?_ | refine s_fieldB ?_ | refine s_loadH ?_ | refine s_fieldV ?_ | refine s_index ?_ | refine s_indexR ?_ | refine s_indexArr ?_ | refine s_len ?_ | refine s_lenR ?_ | refine s_addI ?_ | refine s_subI ?_ | refine s_loadBs ?_ | refine s_loadR ?_ | refine s_build ?_ | refine s_convI ?_ | refine s_conv ?_ | refine s_rem ?_ | refine s_min ?_ | refine s_lss ?_ | refine s_eql ?_ | refine s_neq ?_ | refine s_gtr ?_ | refine a7 ?_ | refine a8 ?_ | refine a9 ?_ | refine RW.storeR rfl rfl rfl rfl (by first | rfl | (simp [allOne, cellsL, one1]; done) | (simp [allOne, cellsL, one1]; first | assumption | (refine ⟨?_, ?_⟩ <;> assumption))) rfl ?_ | refine a10 ?_ | refine RW.storeR1 rfl rfl (by first | rfl | exact IsSl.one1 (by assumption) | exact IsSl.one1 (SliceRep.isSl (by assumption))) rfl rfl ?_)
  refine RW.call rfl (blist_c (k := 0) hl (fun h => hT.resolve_right (fun h2 => h2 h))) rfl rfl ?_
  rintro _ H1 ⟨v0, rfl, _⟩ hle1
  rw [hE]
  have hbv := bvalid_c (N := N) (hl.mono hle1)
  have hrv := rvalid_c (N := N) (hl.mono hle1)
  repeat (first | refine a1 ?_ | refine a3 ?_ | refine a4 ?_ | refine a5 ?_ | refine a6 ?_ | refine s_loadB ?_ | refine s_fieldB ?_ | refine s_loadH ?_ | refine s_fieldV ?_ | refine s_index ?_ | refine s_indexR ?_ | refine s_indexArr ?_ | refine s_len ?_ | refine s_lenR ?_ | refine s_addI ?_ | refine s_subI ?_ | refine s_loadBs ?_ | refine s_loadR ?_ | refine s_build ?_ | refine s_convI ?_ | refine s_conv ?_ | refine s_rem ?_ | refine s_min ?_ | refine s_lss ?_ | refine s_eql ?_ | refine s_neq ?_ | refine s_gtr ?_ | refine a7 ?_ | refine a8 ?_ | refine a9 ?_ | refine RW.storeR rfl rfl rfl rfl (by first | rfl | (simp [allOne, cellsL, one1]; done) | (simp [allOne, cellsL, one1]; first | assumption | (refine ⟨?_, ?_⟩ <;> assumption))) rfl ?_ | refine a10 ?_ | refine RW.storeR1 rfl rfl (by first | rfl | exact IsSl.one1 (by assumption) | exact IsSl.one1 (SliceRep.isSl (by assumption))) rfl rfl ?_)
  refine Runs.join (Hs' := [H1, H]) (O' := []) (l' := [(1, .int .u8 n), (2, .int .i8 k), (7, .bool true), (48, .bool false)]) (fun hj => ?_) ?_
  · by_cases hv : validG N gl
    · rw [if_pos hv]
      rw [decide_eq_true hv] at hbv hrv
      refine Runs.regionD _ _ [] (fun x hx => List.mem_cons_of_mem _ hx) (List.Sublist.refl _) (by kernel_rfl) ?_
      (first | refine t_loadB 0 ?_ | refine t_loadH 0 ?_ | refine t_loadBs 0 ?_ | refine t_loadR 0 ?_)
      (first | refine t_loadB 2 ?_ | refine t_loadH 2 ?_ | refine t_loadBs 2 ?_ | refine t_loadR 2 ?_)
      refine DW.callV 1 rfl (by kernel_rfl) rfl (hbv) rfl rfl ?_
      rintro _ _ rfl
      refine DW.callV 3 rfl (by kernel_rfl) rfl (hrv) rfl rfl ?_
      rintro _ _ rfl
      refine DW.qF 4 rfl (by kernel_rfl) (QF.neqB rfl rfl) rfl rfl ?_
      refine d2 5 ?_
      refine d1 6 2 ?_
      (first | refine t_loadB 8 ?_ | refine t_loadH 8 ?_ | refine t_loadBs 8 ?_ | refine t_loadR 8 ?_)
      refine DW.callV 9 rfl (by kernel_rfl) rfl (hrv) rfl rfl ?_
      rintro _ _ rfl
      refine DW.qF 10 rfl (by kernel_rfl) (QF.neqB rfl rfl) rfl rfl ?_
      refine d1 11 2 ?_
      (first | refine t_loadB 13 ?_ | refine t_loadH 13 ?_ | refine t_loadBs 13 ?_ | refine t_loadR 13 ?_)
      refine DW.callV 14 rfl (by kernel_rfl) rfl (hrv) rfl rfl ?_
      rintro _ _ rfl
      refine d1 15 2 ?_
      refine d3 17 ?_
      refine d3 18 ?_
      refine d2 19 ?_
      refine d2 20 ?_
      refine DW.done (by kernel_rfl) ?_
      refine Runs.weak (hj) (by repeat (first | exact trivial | refine And.intro rfl ?_)) (fun x hx => List.mem_cons_of_mem _ (SubH.h x hx)) (by repeat (first | exact List.nil_sublist _ | exact List.Sublist.refl _ | refine List.Sublist.cons_cons _ ?_ | refine List.Sublist.cons _ ?_))
    · rw [if_neg hv]
      rw [decide_eq_false hv] at hbv hrv
      refine Runs.regionD _ _ [] (fun x hx => List.mem_cons_of_mem _ hx) (List.Sublist.refl _) (by kernel_rfl) ?_
      (first | refine t_loadB 0 ?_ | refine t_loadH 0 ?_ | refine t_loadBs 0 ?_ | refine t_loadR 0 ?_)
      (first | refine t_loadB 2 ?_ | refine t_loadH 2 ?_ | refine t_loadBs 2 ?_ | refine t_loadR 2 ?_)
      refine DW.callV 1 rfl (by kernel_rfl) rfl (hbv) rfl rfl ?_
      rintro _ _ rfl
      refine DW.callV 3 rfl (by kernel_rfl) rfl (hrv) rfl rfl ?_
      rintro _ _ rfl
      refine DW.qF 4 rfl (by kernel_rfl) (QF.neqB rfl rfl) rfl rfl ?_
      refine d2 5 ?_
      refine d1 6 2 ?_
      (first | refine t_loadB 8 ?_ | refine t_loadH 8 ?_ | refine t_loadBs 8 ?_ | refine t_loadR 8 ?_)
      refine DW.callV 9 rfl (by kernel_rfl) rfl (hrv) rfl rfl ?_
      rintro _ _ rfl
      refine DW.qF 10 rfl (by kernel_rfl) (QF.neqB rfl rfl) rfl rfl ?_
      refine d1 11 2 ?_
      (first | refine t_loadB 13 ?_ | refine t_loadH 13 ?_ | refine t_loadBs 13 ?_ | refine t_loadR 13 ?_)
      refine DW.callV 14 rfl (by kernel_rfl) rfl (hrv) rfl rfl ?_
      rintro _ _ rfl
      refine d1 15 2 ?_
      refine d1 17 2 ?_
      refine d2 19 ?_
      refine d2 20 ?_
      refine DW.done (by kernel_rfl) ?_
      refine Runs.weak (hj) (by repeat (first | exact trivial | refine And.intro rfl ?_)) (fun x hx => List.mem_cons_of_mem _ (SubH.h x hx)) (by repeat (first | exact List.nil_sublist _ | exact List.Sublist.refl _ | refine List.Sublist.cons_cons _ ?_ | refine List.Sublist.cons _ ?_))
  repeat (first | refine a1 ?_ | refine a3 ?_ | refine a4 ?_ | refine a5 ?_ | refine a6 ?_ | refine s_loadB ?_ | refine s_fieldB ?_ | refine s_loadH ?_ | refine s_fieldV ?_ | refine s_index ?_ | refine s_indexR ?_ | refine s_indexArr ?_ | refine s_len ?_ | refine s_lenR ?_ | refine s_addI ?_ | refine s_subI ?_ | refine s_loadBs ?_ | refine s_loadR ?_ | refine s_build ?_ | refine s_convI ?_ | refine s_conv ?_ | refine s_rem ?_ | refine s_min ?_ | refine s_lss ?_ | refine s_eql ?_ | refine s_neq ?_ | refine s_gtr ?_ | refine a7 ?_ | refine a8 ?_ | refine a9 ?_ | refine RW.storeR rfl rfl rfl rfl (by first | rfl | (simp [allOne, cellsL, one1]; done) | (simp [allOne, cellsL, one1]; first | assumption | (refine ⟨?_, ?_⟩ <;> assumption))) rfl ?_ | refine a10 ?_ | refine RW.storeR1 rfl rfl (by first | rfl | exact IsSl.one1 (by assumption) | exact IsSl.one1 (SliceRep.isSl (by assumption))) rfl rfl ?_)
  rw [hm]
  repeat (first | refine a1 ?_ | refine a3 ?_ | refine a4 ?_ | refine a5 ?_ | refine a6 ?_ | refine s_loadB ?_ | refine s_fieldB ?_ | refine s_loadH ?_ | refine s_fieldV ?_ | refine s_index ?_ | refine s_indexR ?_ | refine s_indexArr ?_ | refine s_len ?_ | refine s_lenR ?_ | refine s_addI ?_ | refine s_subI ?_ | refine s_loadBs ?_ | refine s_loadR ?_ | refine s_build ?_ | refine s_convI ?_ | refine s_conv ?_ | refine s_rem ?_ | refine s_min ?_ | refine s_lss ?_ | refine s_eql ?_ | refine s_neq ?_ | refine s_gtr ?_ | refine a7 ?_ | refine a8 ?_ | refine a9 ?_ | refine RW.storeR rfl rfl rfl rfl (by first | rfl | (simp [allOne, cellsL, one1]; done) | (simp [allOne, cellsL, one1]; first | assumption | (refine ⟨?_, ?_⟩ <;> assumption))) rfl ?_ | refine a10 ?_ | refine RW.storeR1 rfl rfl (by first | rfl | exact IsSl.one1 (by assumption) | exact IsSl.one1 (SliceRep.isSl (by assumption))) rfl rfl ?_)
  refine RW.alloc rfl rfl rfl (fun b10 => ?_)
  repeat (first | refine a1 ?_ | refine a3 ?_ | refine a4 ?_ | refine a5 ?_ | refine a6 ?_ | refine s_loadB ?_ | refine s_fieldB ?_ | refine s_loadH ?_ | refine s_fieldV ?_ | refine s_index ?_ | refine s_indexR ?_ | refine s_indexArr ?_ | refine s_len ?_ | refine s_lenR ?_ | refine s_addI ?_ | refine s_subI ?_ | refine s_loadBs ?_ | refine s_loadR ?_ | refine s_build ?_ | refine s_convI ?_ | refine s_conv ?_ | refine s_rem ?_ | refine s_min ?_ | refine s_lss ?_ | refine s_eql ?_ | refine s_neq ?_ | refine s_gtr ?_ | refine a7 ?_ | refine a8 ?_ | refine a9 ?_ | refine RW.storeR rfl rfl rfl rfl (by first | rfl | (simp [allOne, cellsL, one1]; done) | (simp [allOne, cellsL, one1]; first | assumption | (refine ⟨?_, ?_⟩ <;> assumption))) rfl ?_ | refine a10 ?_ | refine RW.storeR1 rfl rfl (by first | rfl | exact IsSl.one1 (by assumption) | exact IsSl.one1 (SliceRep.isSl (by assumption))) rfl rfl ?_)
  refine Runs.addNil 54 4 ?_
  refine Runs.loop (fun (s : Nat × Value) => s.1 ≤ m) (fun s => m - s.1) (fun _ => [H1, H])
    (fun s => [.row 54 4 s.2 (2 * s.1) (encL (chainL s.1)), .blk b10 30 [.int .i64 ((m + 1 : Nat) : Int), s.2]])
    (fun s => [(2, .int .i8 k), (7, .bool true), (10, .pointer (some ⟨b10, 0, none⟩)), (11, .int .i64 (s.1 : Int))]) (0, .slice none 0 0) (Nat.zero_le _) (fun h => by
      refine Runs.weak (h) (by repeat (first | exact trivial | refine And.intro rfl ?_)) (fun x hx => List.mem_cons_of_mem _ (SubH.h x hx)) (by repeat (first | exact List.nil_sublist _ | exact List.Sublist.refl _ | refine List.Sublist.cons_cons _ ?_ | refine List.Sublist.cons _ ?_))) ?_
  rintro ⟨i, v⟩ hi ih
  dsimp only at hi ⊢
  refine Runs.rowSl v (fun hv hv1 => ?_)
  repeat (first | refine a1 ?_ | refine a3 ?_ | refine a4 ?_ | refine a5 ?_ | refine a6 ?_ | refine s_loadB ?_ | refine s_fieldB ?_ | refine s_loadH ?_ | refine s_fieldV ?_ | refine s_index ?_ | refine s_indexR ?_ | refine s_indexArr ?_ | refine s_len ?_ | refine s_lenR ?_ | refine s_addI ?_ | refine s_subI ?_ | refine s_loadBs ?_ | refine s_loadR ?_ | refine s_build ?_ | refine s_convI ?_ | refine s_conv ?_ | refine s_rem ?_ | refine s_min ?_ | refine s_lss ?_ | refine s_eql ?_ | refine s_neq ?_ | refine s_gtr ?_ | refine a7 ?_ | refine a8 ?_ | refine a9 ?_ | refine RW.storeR rfl rfl rfl rfl (by first | rfl | (simp [allOne, cellsL, one1]; done) | (simp [allOne, cellsL, one1]; first | assumption | (refine ⟨?_, ?_⟩ <;> assumption))) rfl ?_ | refine a10 ?_ | refine RW.storeR1 rfl rfl (by first | rfl | exact IsSl.one1 (by assumption) | exact IsSl.one1 (SliceRep.isSl (by assumption))) rfl rfl ?_)
  refine Runs.cond_d rfl (fun him => ?_) (fun him => ?_)
  · repeat (first | refine a1 ?_ | refine a3 ?_ | refine a4 ?_ | refine a5 ?_ | refine a6 ?_ | refine s_loadB ?_ | refine s_fieldB ?_ | refine s_loadH ?_ | refine s_fieldV ?_ | refine s_index ?_ | refine s_indexR ?_ | refine s_indexArr ?_ | refine s_len ?_ | refine s_lenR ?_ | refine s_addI ?_ | refine s_subI ?_ | refine s_loadBs ?_ | refine s_loadR ?_ | refine s_build ?_ | refine s_convI ?_ | refine s_conv ?_ | refine s_rem ?_ | refine s_min ?_ | refine s_lss ?_ | refine s_eql ?_ | refine s_neq ?_ | refine s_gtr ?_ | refine a7 ?_ | refine a8 ?_ | refine a9 ?_ | refine RW.storeR rfl rfl rfl rfl (by first | rfl | (simp [allOne, cellsL, one1]; done) | (simp [allOne, cellsL, one1]; first | assumption | (refine ⟨?_, ?_⟩ <;> assumption))) rfl ?_ | refine a10 ?_ | refine RW.storeR1 rfl rfl (by first | rfl | exact IsSl.one1 (by assumption) | exact IsSl.one1 (SliceRep.isSl (by assumption))) rfl rfl ?_)
    refine RW.buildSlice rfl rfl rfl rfl rfl rfl rfl (fun v71 hv71 => ?_)
    refine RW.appendR rfl rfl (by assumption) rfl rfl rfl (by decide) (by omega) (by omega) (fun _ => inferInstance) rfl rfl (fun v72 hv72 => ?_)
    repeat (first | refine a1 ?_ | refine a3 ?_ | refine a4 ?_ | refine a5 ?_ | refine a6 ?_ | refine s_loadB ?_ | refine s_fieldB ?_ | refine s_loadH ?_ | refine s_fieldV ?_ | refine s_index ?_ | refine s_indexR ?_ | refine s_indexArr ?_ | refine s_len ?_ | refine s_lenR ?_ | refine s_addI ?_ | refine s_subI ?_ | refine s_loadBs ?_ | refine s_loadR ?_ | refine s_build ?_ | refine s_convI ?_ | refine s_conv ?_ | refine s_rem ?_ | refine s_min ?_ | refine s_lss ?_ | refine s_eql ?_ | refine s_neq ?_ | refine s_gtr ?_ | refine a7 ?_ | refine a8 ?_ | refine a9 ?_ | refine RW.storeR rfl rfl rfl rfl (by first | rfl | (simp [allOne, cellsL, one1]; done) | (simp [allOne, cellsL, one1]; first | assumption | (refine ⟨?_, ?_⟩ <;> assumption))) rfl ?_ | refine a10 ?_ | refine RW.storeR1 rfl rfl (by first | rfl | exact IsSl.one1 (by assumption) | exact IsSl.one1 (SliceRep.isSl (by assumption))) rfl rfl ?_)
    have h := ih (i + 1, v72) (by dsimp only; omega) (by dsimp only; omega)
    dsimp only at h
    rw [chainL_succ, show 2 * (i + 1) = 2 * i + 2 by omega] at h
    have e9 : encL (chainL i ++ [⟨i, i + 1, 0, 1⟩, ⟨i, i + 1, 0, 3⟩]) = encL (chainL i) ++ [.int .i64 (i : Int), .int .i64 ((i : Int) + 1), .int .i64 0, .int .i64 1, .int .i64 (i : Int), .int .i64 ((i : Int) + 1), .int .i64 0, .int .i64 3] := by simp [encL]
    rw [e9] at h
    refine Runs.weak (h) (by repeat (first | exact trivial | refine And.intro rfl ?_)) (fun x hx => List.mem_cons_of_mem _ (SubH.h x hx)) (by repeat (first | exact List.nil_sublist _ | exact List.Sublist.refl _ | refine List.Sublist.cons_cons _ ?_ | refine List.Sublist.cons _ ?_))
  · have him' : i = m := by omega
    subst him'
    refine Runs.freeze (H := H1) v hM (fun H3 hle3 hs3 hc3 => ?_)
    have hr3 : SliceRep H3 LinkL v (chainL i) := SliceRep.of_row hs3 hcl.symm (flat_rep _) (Snap.le.refl _) hc3
    have hL := blist_c (N := ((i + 1 : Nat) : Int)) (k := k) hr3 (fun _ => hct _)
    by_cases hkk : k < 0 ∨ 50 < k
    · have e1 : listE ((i + 1 : Nat) : Int) (chainL i) k = 1 := by unfold listE; rw [if_neg (fun h => h hcv), if_pos hkk]
      have e2 : listR ((i + 1 : Nat) : Int) (chainL i) k = [] := by unfold listR; rw [if_neg (fun h => by omega)]
      rw [e1, e2] at hL
      repeat (first | refine a1 ?_ | refine a3 ?_ | refine a4 ?_ | refine a5 ?_ | refine a6 ?_ | refine s_loadB ?_ | refine s_fieldB ?_ | refine s_loadH ?_ | refine s_fieldV ?_ | refine s_index ?_ | refine s_indexR ?_ | refine s_indexArr ?_ | refine s_len ?_ | refine s_lenR ?_ | refine s_addI ?_ | refine s_subI ?_ | refine s_loadBs ?_ | refine s_loadR ?_ | refine s_build ?_ | refine s_convI ?_ | refine s_conv ?_ | refine s_rem ?_ | refine s_min ?_ | refine s_lss ?_ | refine s_eql ?_ | refine s_neq ?_ | refine s_gtr ?_ | refine a7 ?_ | refine a8 ?_ | refine a9 ?_ | refine RW.storeR rfl rfl rfl rfl (by first | rfl | (simp [allOne, cellsL, one1]; done) | (simp [allOne, cellsL, one1]; first | assumption | (refine ⟨?_, ?_⟩ <;> assumption))) rfl ?_ | refine a10 ?_ | refine RW.storeR1 rfl rfl (by first | rfl | exact IsSl.one1 (by assumption) | exact IsSl.one1 (SliceRep.isSl (by assumption))) rfl rfl ?_)
      refine RW.call rfl (hL) rfl rfl ?_
      rintro _ H4 ⟨vl, rfl, hvl⟩ hle4
      have hsl0 : IsSl vl 0 := hvl.isSl
      repeat (first | refine a1 ?_ | refine a3 ?_ | refine a4 ?_ | refine a5 ?_ | refine a6 ?_ | refine s_loadB ?_ | refine s_fieldB ?_ | refine s_loadH ?_ | refine s_fieldV ?_ | refine s_index ?_ | refine s_indexR ?_ | refine s_indexArr ?_ | refine s_len ?_ | refine s_lenR ?_ | refine s_addI ?_ | refine s_subI ?_ | refine s_loadBs ?_ | refine s_loadR ?_ | refine s_build ?_ | refine s_convI ?_ | refine s_conv ?_ | refine s_rem ?_ | refine s_min ?_ | refine s_lss ?_ | refine s_eql ?_ | refine s_neq ?_ | refine s_gtr ?_ | refine a7 ?_ | refine a8 ?_ | refine a9 ?_ | refine RW.storeR rfl rfl rfl rfl (by first | rfl | (simp [allOne, cellsL, one1]; done) | (simp [allOne, cellsL, one1]; first | assumption | (refine ⟨?_, ?_⟩ <;> assumption))) rfl ?_ | refine a10 ?_ | refine RW.storeR1 rfl rfl (by first | rfl | exact IsSl.one1 (by assumption) | exact IsSl.one1 (SliceRep.isSl (by assumption))) rfl rfl ?_)
      refine RW.dec 83 rfl (fun hk0 => ?_) (fun hk0 => ?_)
      · repeat (first | refine a1 ?_ | refine a3 ?_ | refine a4 ?_ | refine a5 ?_ | refine a6 ?_ | refine s_loadB ?_ | refine s_fieldB ?_ | refine s_loadH ?_ | refine s_fieldV ?_ | refine s_index ?_ | refine s_indexR ?_ | refine s_indexArr ?_ | refine s_len ?_ | refine s_lenR ?_ | refine s_addI ?_ | refine s_subI ?_ | refine s_loadBs ?_ | refine s_loadR ?_ | refine s_build ?_ | refine s_convI ?_ | refine s_conv ?_ | refine s_rem ?_ | refine s_min ?_ | refine s_lss ?_ | refine s_eql ?_ | refine s_neq ?_ | refine s_gtr ?_ | refine a7 ?_ | refine a8 ?_ | refine a9 ?_ | refine RW.storeR rfl rfl rfl rfl (by first | rfl | (simp [allOne, cellsL, one1]; done) | (simp [allOne, cellsL, one1]; first | assumption | (refine ⟨?_, ?_⟩ <;> assumption))) rfl ?_ | refine a10 ?_ | refine RW.storeR1 rfl rfl (by first | rfl | exact IsSl.one1 (by assumption) | exact IsSl.one1 (SliceRep.isSl (by assumption))) rfl rfl ?_)
        refine Runs.ret1 Try.func10 Try.results10 rfl (fun w hm => hR _ w _ H _ (List.mem_cons_self ..) (Snap.le.refl _) ?_ hm)
        rfl
      · repeat (first | refine a1 ?_ | refine a3 ?_ | refine a4 ?_ | refine a5 ?_ | refine a6 ?_ | refine s_loadB ?_ | refine s_fieldB ?_ | refine s_loadH ?_ | refine s_fieldV ?_ | refine s_index ?_ | refine s_indexR ?_ | refine s_indexArr ?_ | refine s_len ?_ | refine s_lenR ?_ | refine s_addI ?_ | refine s_subI ?_ | refine s_loadBs ?_ | refine s_loadR ?_ | refine s_build ?_ | refine s_convI ?_ | refine s_conv ?_ | refine s_rem ?_ | refine s_min ?_ | refine s_lss ?_ | refine s_eql ?_ | refine s_neq ?_ | refine s_gtr ?_ | refine a7 ?_ | refine a8 ?_ | refine a9 ?_ | refine RW.storeR rfl rfl rfl rfl (by first | rfl | (simp [allOne, cellsL, one1]; done) | (simp [allOne, cellsL, one1]; first | assumption | (refine ⟨?_, ?_⟩ <;> assumption))) rfl ?_ | refine a10 ?_ | refine RW.storeR1 rfl rfl (by first | rfl | exact IsSl.one1 (by assumption) | exact IsSl.one1 (SliceRep.isSl (by assumption))) rfl rfl ?_)
        refine Runs.cond_d rfl (fun hk50 => ?_) (fun hk50 => ?_)
        · repeat (first | refine a1 ?_ | refine a3 ?_ | refine a4 ?_ | refine a5 ?_ | refine a6 ?_ | refine s_loadB ?_ | refine s_fieldB ?_ | refine s_loadH ?_ | refine s_fieldV ?_ | refine s_index ?_ | refine s_indexR ?_ | refine s_indexArr ?_ | refine s_len ?_ | refine s_lenR ?_ | refine s_addI ?_ | refine s_subI ?_ | refine s_loadBs ?_ | refine s_loadR ?_ | refine s_build ?_ | refine s_convI ?_ | refine s_conv ?_ | refine s_rem ?_ | refine s_min ?_ | refine s_lss ?_ | refine s_eql ?_ | refine s_neq ?_ | refine s_gtr ?_ | refine a7 ?_ | refine a8 ?_ | refine a9 ?_ | refine RW.storeR rfl rfl rfl rfl (by first | rfl | (simp [allOne, cellsL, one1]; done) | (simp [allOne, cellsL, one1]; first | assumption | (refine ⟨?_, ?_⟩ <;> assumption))) rfl ?_ | refine a10 ?_ | refine RW.storeR1 rfl rfl (by first | rfl | exact IsSl.one1 (by assumption) | exact IsSl.one1 (SliceRep.isSl (by assumption))) rfl rfl ?_)
          refine Runs.ret1 Try.func10 Try.results10 rfl (fun w hm => hR _ w _ H _ (List.mem_cons_self ..) (Snap.le.refl _) ?_ hm)
          rfl
        · exfalso; omega
    · have hlr := listR_ok (k := k) hcv (by omega) (by omega)
      rw [hlr.1, hlr.2] at hL
      have hords : ∀ (j : Nat) (c : Cand), (ordered (waysG (chainL i) ((i + 1 : Nat) : Int) ((i + 1 : Nat) : Int).toNat 0))[j]? = some c → (j = 0 → c.cost = (i : Int)) ∧ (0 < j → j < i + 1 → c.cost = (i : Int) + 2) := fun j c h => by
        rw [Int.toNat_natCast, ecast] at h
        exact chain_first h
      have hlenW : (ordered (waysG (chainL i) ((i + 1 : Nat) : Int) ((i + 1 : Nat) : Int).toNat 0)).length = 2 ^ i := by
        rw [ordered_len, Int.toNat_natCast, ecast]
        exact chain_num i i i 0 (by omega) (Nat.le_refl _)
      have hcost : ∀ c ∈ ordered (waysG (chainL i) ((i + 1 : Nat) : Int) ((i + 1 : Nat) : Int).toNat 0), costOf ((i + 1 : Nat) : Int) (chainL i) c.links = some c.cost ∧ c.links.length ≤ 40 ∧ 0 ≤ c.cost ∧ c.cost ≤ 40000000 := fun c hc => by
        have h1 := ways_cost _ 0 0 c ((ordered_perm _).mem_iff.1 hc)
        have h2 := waysG_bound hcv.2.2.2 _ _ c ((ordered_perm _).mem_iff.1 hc)
        refine ⟨?_, by omega, by omega, by omega⟩
        unfold costOf
        rw [h1]
        simp
      generalize ordered (waysG (chainL i) ((i + 1 : Nat) : Int) ((i + 1 : Nat) : Int).toNat 0) = W at *
      have hW1 : 1 ≤ W.length := by rw [hlenW]; exact Nat.one_le_two_pow
      have hLl : (W.take k.toNat).length = min k.toNat W.length := List.length_take
      have hLm : ∀ j c, (W.take k.toNat)[j]? = some c → W[j]? = some c := fun j c h => by
        have := (List.getElem?_eq_some_iff.1 h).1
        rw [List.getElem?_take_of_lt (by omega)] at h; exact h
      generalize W.take k.toNat = L at *
      repeat (first | refine a1 ?_ | refine a3 ?_ | refine a4 ?_ | refine a5 ?_ | refine a6 ?_ | refine s_loadB ?_ | refine s_fieldB ?_ | refine s_loadH ?_ | refine s_fieldV ?_ | refine s_index ?_ | refine s_indexR ?_ | refine s_indexArr ?_ | refine s_len ?_ | refine s_lenR ?_ | refine s_addI ?_ | refine s_subI ?_ | refine s_loadBs ?_ | refine s_loadR ?_ | refine s_build ?_ | refine s_convI ?_ | refine s_conv ?_ | refine s_rem ?_ | refine s_min ?_ | refine s_lss ?_ | refine s_eql ?_ | refine s_neq ?_ | refine s_gtr ?_ | refine a7 ?_ | refine a8 ?_ | refine a9 ?_ | refine RW.storeR rfl rfl rfl rfl (by first | rfl | (simp [allOne, cellsL, one1]; done) | (simp [allOne, cellsL, one1]; first | assumption | (refine ⟨?_, ?_⟩ <;> assumption))) rfl ?_ | refine a10 ?_ | refine RW.storeR1 rfl rfl (by first | rfl | exact IsSl.one1 (by assumption) | exact IsSl.one1 (SliceRep.isSl (by assumption))) rfl rfl ?_)
      refine RW.call rfl (hL) rfl rfl ?_
      rintro _ H4 ⟨vl, rfl, hvl⟩ hle4
      have hsl4 := hvl.isSl
      have hsl4b := hsl4.bound
      have hr4 := hr3.mono hle4
      have hnum : Pure Try.prog 18 #[.agg #[.int .i64 ((i + 1 : Nat) : Int), v]] H4 (fun _ r => r = .int .i64 (capN (2 ^ i))) :=
        (bnum_c (N := i + 1) hr4 hcv).mono fun _ _ _ ⟨t, h, e⟩ => by
          rw [e, num_zero hcv h]
          have := chain_num i i i 0 (by omega) (Nat.le_refl _)
          rw [ecast]
          rw [show (((0 : Nat) : Int)) = 0 from rfl] at this
          rw [this]
      repeat (first | refine a1 ?_ | refine a3 ?_ | refine a4 ?_ | refine a5 ?_ | refine a6 ?_ | refine s_loadB ?_ | refine s_fieldB ?_ | refine s_loadH ?_ | refine s_fieldV ?_ | refine s_index ?_ | refine s_indexR ?_ | refine s_indexArr ?_ | refine s_len ?_ | refine s_lenR ?_ | refine s_addI ?_ | refine s_subI ?_ | refine s_loadBs ?_ | refine s_loadR ?_ | refine s_build ?_ | refine s_convI ?_ | refine s_conv ?_ | refine s_rem ?_ | refine s_min ?_ | refine s_lss ?_ | refine s_eql ?_ | refine s_neq ?_ | refine s_gtr ?_ | refine a7 ?_ | refine a8 ?_ | refine a9 ?_ | refine RW.storeR rfl rfl rfl rfl (by first | rfl | (simp [allOne, cellsL, one1]; done) | (simp [allOne, cellsL, one1]; first | assumption | (refine ⟨?_, ?_⟩ <;> assumption))) rfl ?_ | refine a10 ?_ | refine RW.storeR1 rfl rfl (by first | rfl | exact IsSl.one1 (by assumption) | exact IsSl.one1 (SliceRep.isSl (by assumption))) rfl rfl ?_)
      refine RW.dec 83 rfl (fun hk0 => ?_) (fun hk0 => ?_)
      · exfalso; omega
      repeat (first | refine a1 ?_ | refine a3 ?_ | refine a4 ?_ | refine a5 ?_ | refine a6 ?_ | refine s_loadB ?_ | refine s_fieldB ?_ | refine s_loadH ?_ | refine s_fieldV ?_ | refine s_index ?_ | refine s_indexR ?_ | refine s_indexArr ?_ | refine s_len ?_ | refine s_lenR ?_ | refine s_addI ?_ | refine s_subI ?_ | refine s_loadBs ?_ | refine s_loadR ?_ | refine s_build ?_ | refine s_convI ?_ | refine s_conv ?_ | refine s_rem ?_ | refine s_min ?_ | refine s_lss ?_ | refine s_eql ?_ | refine s_neq ?_ | refine s_gtr ?_ | refine a7 ?_ | refine a8 ?_ | refine a9 ?_ | refine RW.storeR rfl rfl rfl rfl (by first | rfl | (simp [allOne, cellsL, one1]; done) | (simp [allOne, cellsL, one1]; first | assumption | (refine ⟨?_, ?_⟩ <;> assumption))) rfl ?_ | refine a10 ?_ | refine RW.storeR1 rfl rfl (by first | rfl | exact IsSl.one1 (by assumption) | exact IsSl.one1 (SliceRep.isSl (by assumption))) rfl rfl ?_)
      rw [decide_eq_false (show ¬ ((50 : Int) < k) by omega)]
      repeat (first | refine a1 ?_ | refine a3 ?_ | refine a4 ?_ | refine a5 ?_ | refine a6 ?_ | refine s_loadB ?_ | refine s_fieldB ?_ | refine s_loadH ?_ | refine s_fieldV ?_ | refine s_index ?_ | refine s_indexR ?_ | refine s_indexArr ?_ | refine s_len ?_ | refine s_lenR ?_ | refine s_addI ?_ | refine s_subI ?_ | refine s_loadBs ?_ | refine s_loadR ?_ | refine s_build ?_ | refine s_convI ?_ | refine s_conv ?_ | refine s_rem ?_ | refine s_min ?_ | refine s_lss ?_ | refine s_eql ?_ | refine s_neq ?_ | refine s_gtr ?_ | refine a7 ?_ | refine a8 ?_ | refine a9 ?_ | refine RW.storeR rfl rfl rfl rfl (by first | rfl | (simp [allOne, cellsL, one1]; done) | (simp [allOne, cellsL, one1]; first | assumption | (refine ⟨?_, ?_⟩ <;> assumption))) rfl ?_ | refine a10 ?_ | refine RW.storeR1 rfl rfl (by first | rfl | exact IsSl.one1 (by assumption) | exact IsSl.one1 (SliceRep.isSl (by assumption))) rfl rfl ?_)
      refine Runs.join (Hs' := [H4, H]) (O' := [.blk b10 30 [.int .i64 ((i + 1 : Nat) : Int), v]]) (l' := [(7, .bool true), (10, .pointer (some ⟨b10, 0, none⟩)), (12, vl), (117, .bool false)]) (fun hj => ?_) ?_
      · clear hords hcost hLm
        generalize hme : i = m at *
        refine Runs.regionD _ _ [] (fun x hx => List.mem_cons_of_mem _ hx) (List.Sublist.refl _) (by kernel_rfl) ?_
        refine d1 0 3 ?_
        refine d2 3 ?_
        refine t_gtr 4 ?_
        refine d2 5 ?_
        refine DW.dec 102 rfl (fun hkp => ?_) (fun hkp => ?_)
        · refine d2 6 ?_
          (first | refine t_len 7 ?_ | refine t_lenR 7 ?_ | refine t_lenS 7 ?_)
          refine d2 8 ?_
          rw [decide_eq_false (show ¬ ((L.length : Int) = 0) by omega)]
          refine d1 9 3 ?_
          (first | refine t_loadB 12 ?_ | refine t_loadH 12 ?_ | refine t_loadBs 12 ?_ | refine t_loadR 12 ?_)
          (first | refine t_fieldB 14 ?_ | refine t_fieldV 14 ?_)
          (first | refine t_loadB 15 ?_ | refine t_loadH 15 ?_ | refine t_loadBs 15 ?_ | refine t_loadR 15 ?_)
          refine t_subI 16 ?_
          refine DW.qF 17 rfl (by kernel_rfl) (QF.shl rfl rfl (by omega)) rfl rfl ?_
          rw [hshl]
          refine t_min 18 ?_
          rw [show (if (1000000000 : Int) < ((2 ^ m : Nat) : Int) then (1000000000 : Int) else ((2 ^ m : Nat) : Int)) = capN (2 ^ m) from rfl]
          refine DW.callV 13 rfl (by kernel_rfl) rfl (hnum) rfl rfl ?_
          rintro _ _ rfl
          refine d2 19 ?_
          rw [show ∀ z : Int, decide (z ≠ z) = false from fun z => by simp]
          refine d2 20 ?_
          refine DW.done (by kernel_rfl) ?_
          refine Runs.weak (hj) (by repeat (first | exact trivial | refine And.intro rfl ?_)) (fun x hx => List.mem_cons_of_mem _ (SubH.h x hx)) (by repeat (first | exact List.nil_sublist _ | exact List.Sublist.refl _ | refine List.Sublist.cons_cons _ ?_ | refine List.Sublist.cons _ ?_))
        · refine d3 6 ?_
          refine d3 7 ?_
          refine d3 8 ?_
          refine d1 9 3 ?_
          (first | refine t_loadB 12 ?_ | refine t_loadH 12 ?_ | refine t_loadBs 12 ?_ | refine t_loadR 12 ?_)
          (first | refine t_fieldB 14 ?_ | refine t_fieldV 14 ?_)
          (first | refine t_loadB 15 ?_ | refine t_loadH 15 ?_ | refine t_loadBs 15 ?_ | refine t_loadR 15 ?_)
          refine t_subI 16 ?_
          refine DW.qF 17 rfl (by kernel_rfl) (QF.shl rfl rfl (by omega)) rfl rfl ?_
          rw [hshl]
          refine t_min 18 ?_
          rw [show (if (1000000000 : Int) < ((2 ^ m : Nat) : Int) then (1000000000 : Int) else ((2 ^ m : Nat) : Int)) = capN (2 ^ m) from rfl]
          refine DW.callV 13 rfl (by kernel_rfl) rfl (hnum) rfl rfl ?_
          rintro _ _ rfl
          refine d2 19 ?_
          rw [show ∀ z : Int, decide (z ≠ z) = false from fun z => by simp]
          refine d2 20 ?_
          refine DW.done (by kernel_rfl) ?_
          refine Runs.weak (hj) (by repeat (first | exact trivial | refine And.intro rfl ?_)) (fun x hx => List.mem_cons_of_mem _ (SubH.h x hx)) (by repeat (first | exact List.nil_sublist _ | exact List.Sublist.refl _ | refine List.Sublist.cons_cons _ ?_ | refine List.Sublist.cons _ ?_))
      clear hshl hlenW
      repeat (first | refine a1 ?_ | refine a3 ?_ | refine a4 ?_ | refine a5 ?_ | refine a6 ?_ | refine s_loadB ?_ | refine s_fieldB ?_ | refine s_loadH ?_ | refine s_fieldV ?_ | refine s_index ?_ | refine s_indexR ?_ | refine s_indexArr ?_ | refine s_len ?_ | refine s_lenR ?_ | refine s_addI ?_ | refine s_subI ?_ | refine s_loadBs ?_ | refine s_loadR ?_ | refine s_build ?_ | refine s_convI ?_ | refine s_conv ?_ | refine s_rem ?_ | refine s_min ?_ | refine s_lss ?_ | refine s_eql ?_ | refine s_neq ?_ | refine s_gtr ?_ | refine a7 ?_ | refine a8 ?_ | refine a9 ?_ | refine RW.storeR rfl rfl rfl rfl (by first | rfl | (simp [allOne, cellsL, one1]; done) | (simp [allOne, cellsL, one1]; first | assumption | (refine ⟨?_, ?_⟩ <;> assumption))) rfl ?_ | refine a10 ?_ | refine RW.storeR1 rfl rfl (by first | rfl | exact IsSl.one1 (by assumption) | exact IsSl.one1 (SliceRep.isSl (by assumption))) rfl rfl ?_)
      refine Runs.loop (fun (j : Nat) => j ≤ L.length) (fun j => L.length - j) (fun _ => [H4, H]) (fun _ => [.blk b10 30 [.int .i64 ((i + 1 : Nat) : Int), v]])
        (fun j => [(7, .bool true), (10, .pointer (some ⟨b10, 0, none⟩)), (12, vl), (14, .int .i64 (j : Int))]) 0 (Nat.zero_le _) (fun h => by
          refine Runs.weak (h) (by repeat (first | exact trivial | refine And.intro rfl ?_)) (fun x hx => List.mem_cons_of_mem _ (SubH.h x hx)) (by repeat (first | exact List.nil_sublist _ | exact List.Sublist.refl _ | refine List.Sublist.cons_cons _ ?_ | refine List.Sublist.cons _ ?_))) ?_
      intro j hj ih2
      repeat (first | refine a1 ?_ | refine a3 ?_ | refine a4 ?_ | refine a5 ?_ | refine a6 ?_ | refine s_loadB ?_ | refine s_fieldB ?_ | refine s_loadH ?_ | refine s_fieldV ?_ | refine s_index ?_ | refine s_indexR ?_ | refine s_indexArr ?_ | refine s_len ?_ | refine s_lenR ?_ | refine s_addI ?_ | refine s_subI ?_ | refine s_loadBs ?_ | refine s_loadR ?_ | refine s_build ?_ | refine s_convI ?_ | refine s_conv ?_ | refine s_rem ?_ | refine s_min ?_ | refine s_lss ?_ | refine s_eql ?_ | refine s_neq ?_ | refine s_gtr ?_ | refine a7 ?_ | refine a8 ?_ | refine a9 ?_ | refine RW.storeR rfl rfl rfl rfl (by first | rfl | (simp [allOne, cellsL, one1]; done) | (simp [allOne, cellsL, one1]; first | assumption | (refine ⟨?_, ?_⟩ <;> assumption))) rfl ?_ | refine a10 ?_ | refine RW.storeR1 rfl rfl (by first | rfl | exact IsSl.one1 (by assumption) | exact IsSl.one1 (SliceRep.isSl (by assumption))) rfl rfl ?_)
      refine Runs.cond_d rfl (fun hjl => ?_) (fun hjl => ?_)
      · obtain ⟨c, hcj⟩ : ∃ c, L[j]? = some c := ⟨_, List.getElem?_eq_getElem (by omega)⟩
        obtain ⟨vc, hvc, hc0, hc1, _⟩ := hvl.cand hcj
        have hcW := hLm j c hcj
        have hcc := hcost c (List.mem_of_getElem? hcW)
        have hco := hords j c hcW
        have hC : Pure Try.prog 16 #[.agg #[.int .i64 ((i + 1 : Nat) : Int), v], vc] H4 (fun _ r => r = .tuple #[.int .i64 c.cost, .bool true]) := by
          have := rcost_c (N := ((i + 1 : Nat) : Int)) hr4 hvc (fun x hx => by have := hcv.2.2.2 x hx; unfold okL at this; omega) (by omega) (by omega)
          rw [hcc.1] at this; exact this
        repeat (first | refine a1 ?_ | refine a3 ?_ | refine a4 ?_ | refine a5 ?_ | refine a6 ?_ | refine s_loadB ?_ | refine s_fieldB ?_ | refine s_loadH ?_ | refine s_fieldV ?_ | refine s_index ?_ | refine s_indexR ?_ | refine s_indexArr ?_ | refine s_len ?_ | refine s_lenR ?_ | refine s_addI ?_ | refine s_subI ?_ | refine s_loadBs ?_ | refine s_loadR ?_ | refine s_build ?_ | refine s_convI ?_ | refine s_conv ?_ | refine s_rem ?_ | refine s_min ?_ | refine s_lss ?_ | refine s_eql ?_ | refine s_neq ?_ | refine s_gtr ?_ | refine a7 ?_ | refine a8 ?_ | refine a9 ?_ | refine RW.storeR rfl rfl rfl rfl (by first | rfl | (simp [allOne, cellsL, one1]; done) | (simp [allOne, cellsL, one1]; first | assumption | (refine ⟨?_, ?_⟩ <;> assumption))) rfl ?_ | refine a10 ?_ | refine RW.storeR1 rfl rfl (by first | rfl | exact IsSl.one1 (by assumption) | exact IsSl.one1 (SliceRep.isSl (by assumption))) rfl rfl ?_)
        refine Runs.regionD _ _ [] (fun x hx => List.mem_cons_of_mem _ hx) (List.Sublist.refl _) (by kernel_rfl) ?_
        (first | refine t_loadB 0 ?_ | refine t_loadH 0 ?_ | refine t_loadBs 0 ?_ | refine t_loadR 0 ?_)
        refine d1 1 2 ?_
        (first | refine t_index 3 ?_ | refine t_indexR 3 ?_ | refine t_indexArr 3 ?_)
        (first | refine t_fieldB 4 ?_ | refine t_fieldV 4 ?_)
        (first | refine t_loadB 5 ?_ | refine t_loadH 5 ?_ | refine t_loadBs 5 ?_ | refine t_loadR 5 ?_)
        refine DW.callV 6 rfl (by kernel_rfl) rfl (hC) rfl rfl ?_
        rintro _ _ rfl
        refine d1 7 5 ?_
        refine DW.done (by kernel_rfl) ?_
        repeat (first | refine a1 ?_ | refine a3 ?_ | refine a4 ?_ | refine a5 ?_ | refine a6 ?_ | refine s_loadB ?_ | refine s_fieldB ?_ | refine s_loadH ?_ | refine s_fieldV ?_ | refine s_index ?_ | refine s_indexR ?_ | refine s_indexArr ?_ | refine s_len ?_ | refine s_lenR ?_ | refine s_addI ?_ | refine s_subI ?_ | refine s_loadBs ?_ | refine s_loadR ?_ | refine s_build ?_ | refine s_convI ?_ | refine s_conv ?_ | refine s_rem ?_ | refine s_min ?_ | refine s_lss ?_ | refine s_eql ?_ | refine s_neq ?_ | refine s_gtr ?_ | refine a7 ?_ | refine a8 ?_ | refine a9 ?_ | refine RW.storeR rfl rfl rfl rfl (by first | rfl | (simp [allOne, cellsL, one1]; done) | (simp [allOne, cellsL, one1]; first | assumption | (refine ⟨?_, ?_⟩ <;> assumption))) rfl ?_ | refine a10 ?_ | refine RW.storeR1 rfl rfl (by first | rfl | exact IsSl.one1 (by assumption) | exact IsSl.one1 (SliceRep.isSl (by assumption))) rfl rfl ?_)
        rw [show ∀ z : Int, decide (z ≠ z) = false from fun z => by simp]
        repeat (first | refine a1 ?_ | refine a3 ?_ | refine a4 ?_ | refine a5 ?_ | refine a6 ?_ | refine s_loadB ?_ | refine s_fieldB ?_ | refine s_loadH ?_ | refine s_fieldV ?_ | refine s_index ?_ | refine s_indexR ?_ | refine s_indexArr ?_ | refine s_len ?_ | refine s_lenR ?_ | refine s_addI ?_ | refine s_subI ?_ | refine s_loadBs ?_ | refine s_loadR ?_ | refine s_build ?_ | refine s_convI ?_ | refine s_conv ?_ | refine s_rem ?_ | refine s_min ?_ | refine s_lss ?_ | refine s_eql ?_ | refine s_neq ?_ | refine s_gtr ?_ | refine a7 ?_ | refine a8 ?_ | refine a9 ?_ | refine RW.storeR rfl rfl rfl rfl (by first | rfl | (simp [allOne, cellsL, one1]; done) | (simp [allOne, cellsL, one1]; first | assumption | (refine ⟨?_, ?_⟩ <;> assumption))) rfl ?_ | refine a10 ?_ | refine RW.storeR1 rfl rfl (by first | rfl | exact IsSl.one1 (by assumption) | exact IsSl.one1 (SliceRep.isSl (by assumption))) rfl rfl ?_)
        refine RW.dec 148 rfl (fun hj0 => ?_) (fun hj0 => ?_)
        · repeat (first | refine a1 ?_ | refine a3 ?_ | refine a4 ?_ | refine a5 ?_ | refine a6 ?_ | refine s_loadB ?_ | refine s_fieldB ?_ | refine s_loadH ?_ | refine s_fieldV ?_ | refine s_index ?_ | refine s_indexR ?_ | refine s_indexArr ?_ | refine s_len ?_ | refine s_lenR ?_ | refine s_addI ?_ | refine s_subI ?_ | refine s_loadBs ?_ | refine s_loadR ?_ | refine s_build ?_ | refine s_convI ?_ | refine s_conv ?_ | refine s_rem ?_ | refine s_min ?_ | refine s_lss ?_ | refine s_eql ?_ | refine s_neq ?_ | refine s_gtr ?_ | refine a7 ?_ | refine a8 ?_ | refine a9 ?_ | refine RW.storeR rfl rfl rfl rfl (by first | rfl | (simp [allOne, cellsL, one1]; done) | (simp [allOne, cellsL, one1]; first | assumption | (refine ⟨?_, ?_⟩ <;> assumption))) rfl ?_ | refine a10 ?_ | refine RW.storeR1 rfl rfl (by first | rfl | exact IsSl.one1 (by assumption) | exact IsSl.one1 (SliceRep.isSl (by assumption))) rfl rfl ?_)
          rw [decide_eq_false (show ¬ (c.cost ≠ ((i + 1 : Nat) : Int) - 1) by omega)]
          repeat (first | refine a1 ?_ | refine a3 ?_ | refine a4 ?_ | refine a5 ?_ | refine a6 ?_ | refine s_loadB ?_ | refine s_fieldB ?_ | refine s_loadH ?_ | refine s_fieldV ?_ | refine s_index ?_ | refine s_indexR ?_ | refine s_indexArr ?_ | refine s_len ?_ | refine s_lenR ?_ | refine s_addI ?_ | refine s_subI ?_ | refine s_loadBs ?_ | refine s_loadR ?_ | refine s_build ?_ | refine s_convI ?_ | refine s_conv ?_ | refine s_rem ?_ | refine s_min ?_ | refine s_lss ?_ | refine s_eql ?_ | refine s_neq ?_ | refine s_gtr ?_ | refine a7 ?_ | refine a8 ?_ | refine a9 ?_ | refine RW.storeR rfl rfl rfl rfl (by first | rfl | (simp [allOne, cellsL, one1]; done) | (simp [allOne, cellsL, one1]; first | assumption | (refine ⟨?_, ?_⟩ <;> assumption))) rfl ?_ | refine a10 ?_ | refine RW.storeR1 rfl rfl (by first | rfl | exact IsSl.one1 (by assumption) | exact IsSl.one1 (SliceRep.isSl (by assumption))) rfl rfl ?_)
          rw [decide_eq_false (show ¬ ((0 : Int) < (j : Int)) by omega)]
          repeat (first | refine a1 ?_ | refine a3 ?_ | refine a4 ?_ | refine a5 ?_ | refine a6 ?_ | refine s_loadB ?_ | refine s_fieldB ?_ | refine s_loadH ?_ | refine s_fieldV ?_ | refine s_index ?_ | refine s_indexR ?_ | refine s_indexArr ?_ | refine s_len ?_ | refine s_lenR ?_ | refine s_addI ?_ | refine s_subI ?_ | refine s_loadBs ?_ | refine s_loadR ?_ | refine s_build ?_ | refine s_convI ?_ | refine s_conv ?_ | refine s_rem ?_ | refine s_min ?_ | refine s_lss ?_ | refine s_eql ?_ | refine s_neq ?_ | refine s_gtr ?_ | refine a7 ?_ | refine a8 ?_ | refine a9 ?_ | refine RW.storeR rfl rfl rfl rfl (by first | rfl | (simp [allOne, cellsL, one1]; done) | (simp [allOne, cellsL, one1]; first | assumption | (refine ⟨?_, ?_⟩ <;> assumption))) rfl ?_ | refine a10 ?_ | refine RW.storeR1 rfl rfl (by first | rfl | exact IsSl.one1 (by assumption) | exact IsSl.one1 (SliceRep.isSl (by assumption))) rfl rfl ?_)
          refine Runs.weak (ih2 (j + 1) (by omega) (by omega)) (by repeat (first | exact trivial | refine And.intro rfl ?_)) (fun x hx => List.mem_cons_of_mem _ (SubH.h x hx)) (by repeat (first | exact List.nil_sublist _ | exact List.Sublist.refl _ | refine List.Sublist.cons_cons _ ?_ | refine List.Sublist.cons _ ?_))
        · repeat (first | refine a1 ?_ | refine a3 ?_ | refine a4 ?_ | refine a5 ?_ | refine a6 ?_ | refine s_loadB ?_ | refine s_fieldB ?_ | refine s_loadH ?_ | refine s_fieldV ?_ | refine s_index ?_ | refine s_indexR ?_ | refine s_indexArr ?_ | refine s_len ?_ | refine s_lenR ?_ | refine s_addI ?_ | refine s_subI ?_ | refine s_loadBs ?_ | refine s_loadR ?_ | refine s_build ?_ | refine s_convI ?_ | refine s_conv ?_ | refine s_rem ?_ | refine s_min ?_ | refine s_lss ?_ | refine s_eql ?_ | refine s_neq ?_ | refine s_gtr ?_ | refine a7 ?_ | refine a8 ?_ | refine a9 ?_ | refine RW.storeR rfl rfl rfl rfl (by first | rfl | (simp [allOne, cellsL, one1]; done) | (simp [allOne, cellsL, one1]; first | assumption | (refine ⟨?_, ?_⟩ <;> assumption))) rfl ?_ | refine a10 ?_ | refine RW.storeR1 rfl rfl (by first | rfl | exact IsSl.one1 (by assumption) | exact IsSl.one1 (SliceRep.isSl (by assumption))) rfl rfl ?_)
          rw [decide_eq_true (show ((0 : Int) < (j : Int)) by omega)]
          repeat (first | refine a1 ?_ | refine a3 ?_ | refine a4 ?_ | refine a5 ?_ | refine a6 ?_ | refine s_loadB ?_ | refine s_fieldB ?_ | refine s_loadH ?_ | refine s_fieldV ?_ | refine s_index ?_ | refine s_indexR ?_ | refine s_indexArr ?_ | refine s_len ?_ | refine s_lenR ?_ | refine s_addI ?_ | refine s_subI ?_ | refine s_loadBs ?_ | refine s_loadR ?_ | refine s_build ?_ | refine s_convI ?_ | refine s_conv ?_ | refine s_rem ?_ | refine s_min ?_ | refine s_lss ?_ | refine s_eql ?_ | refine s_neq ?_ | refine s_gtr ?_ | refine a7 ?_ | refine a8 ?_ | refine a9 ?_ | refine RW.storeR rfl rfl rfl rfl (by first | rfl | (simp [allOne, cellsL, one1]; done) | (simp [allOne, cellsL, one1]; first | assumption | (refine ⟨?_, ?_⟩ <;> assumption))) rfl ?_ | refine a10 ?_ | refine RW.storeR1 rfl rfl (by first | rfl | exact IsSl.one1 (by assumption) | exact IsSl.one1 (SliceRep.isSl (by assumption))) rfl rfl ?_)
          refine RW.dec 165 rfl (fun hjm => ?_) (fun hjm => ?_)
          · repeat (first | refine a1 ?_ | refine a3 ?_ | refine a4 ?_ | refine a5 ?_ | refine a6 ?_ | refine s_loadB ?_ | refine s_fieldB ?_ | refine s_loadH ?_ | refine s_fieldV ?_ | refine s_index ?_ | refine s_indexR ?_ | refine s_indexArr ?_ | refine s_len ?_ | refine s_lenR ?_ | refine s_addI ?_ | refine s_subI ?_ | refine s_loadBs ?_ | refine s_loadR ?_ | refine s_build ?_ | refine s_convI ?_ | refine s_conv ?_ | refine s_rem ?_ | refine s_min ?_ | refine s_lss ?_ | refine s_eql ?_ | refine s_neq ?_ | refine s_gtr ?_ | refine a7 ?_ | refine a8 ?_ | refine a9 ?_ | refine RW.storeR rfl rfl rfl rfl (by first | rfl | (simp [allOne, cellsL, one1]; done) | (simp [allOne, cellsL, one1]; first | assumption | (refine ⟨?_, ?_⟩ <;> assumption))) rfl ?_ | refine a10 ?_ | refine RW.storeR1 rfl rfl (by first | rfl | exact IsSl.one1 (by assumption) | exact IsSl.one1 (SliceRep.isSl (by assumption))) rfl rfl ?_)
            rw [decide_eq_false (show ¬ (c.cost ≠ ((i + 1 : Nat) : Int) + 1) by omega)]
            repeat (first | refine a1 ?_ | refine a3 ?_ | refine a4 ?_ | refine a5 ?_ | refine a6 ?_ | refine s_loadB ?_ | refine s_fieldB ?_ | refine s_loadH ?_ | refine s_fieldV ?_ | refine s_index ?_ | refine s_indexR ?_ | refine s_indexArr ?_ | refine s_len ?_ | refine s_lenR ?_ | refine s_addI ?_ | refine s_subI ?_ | refine s_loadBs ?_ | refine s_loadR ?_ | refine s_build ?_ | refine s_convI ?_ | refine s_conv ?_ | refine s_rem ?_ | refine s_min ?_ | refine s_lss ?_ | refine s_eql ?_ | refine s_neq ?_ | refine s_gtr ?_ | refine a7 ?_ | refine a8 ?_ | refine a9 ?_ | refine RW.storeR rfl rfl rfl rfl (by first | rfl | (simp [allOne, cellsL, one1]; done) | (simp [allOne, cellsL, one1]; first | assumption | (refine ⟨?_, ?_⟩ <;> assumption))) rfl ?_ | refine a10 ?_ | refine RW.storeR1 rfl rfl (by first | rfl | exact IsSl.one1 (by assumption) | exact IsSl.one1 (SliceRep.isSl (by assumption))) rfl rfl ?_)
            refine Runs.weak (ih2 (j + 1) (by omega) (by omega)) (by repeat (first | exact trivial | refine And.intro rfl ?_)) (fun x hx => List.mem_cons_of_mem _ (SubH.h x hx)) (by repeat (first | exact List.nil_sublist _ | exact List.Sublist.refl _ | refine List.Sublist.cons_cons _ ?_ | refine List.Sublist.cons _ ?_))
          · repeat (first | refine a1 ?_ | refine a3 ?_ | refine a4 ?_ | refine a5 ?_ | refine a6 ?_ | refine s_loadB ?_ | refine s_fieldB ?_ | refine s_loadH ?_ | refine s_fieldV ?_ | refine s_index ?_ | refine s_indexR ?_ | refine s_indexArr ?_ | refine s_len ?_ | refine s_lenR ?_ | refine s_addI ?_ | refine s_subI ?_ | refine s_loadBs ?_ | refine s_loadR ?_ | refine s_build ?_ | refine s_convI ?_ | refine s_conv ?_ | refine s_rem ?_ | refine s_min ?_ | refine s_lss ?_ | refine s_eql ?_ | refine s_neq ?_ | refine s_gtr ?_ | refine a7 ?_ | refine a8 ?_ | refine a9 ?_ | refine RW.storeR rfl rfl rfl rfl (by first | rfl | (simp [allOne, cellsL, one1]; done) | (simp [allOne, cellsL, one1]; first | assumption | (refine ⟨?_, ?_⟩ <;> assumption))) rfl ?_ | refine a10 ?_ | refine RW.storeR1 rfl rfl (by first | rfl | exact IsSl.one1 (by assumption) | exact IsSl.one1 (SliceRep.isSl (by assumption))) rfl rfl ?_)
            refine Runs.weak (ih2 (j + 1) (by omega) (by omega)) (by repeat (first | exact trivial | refine And.intro rfl ?_)) (fun x hx => List.mem_cons_of_mem _ (SubH.h x hx)) (by repeat (first | exact List.nil_sublist _ | exact List.Sublist.refl _ | refine List.Sublist.cons_cons _ ?_ | refine List.Sublist.cons _ ?_))
      · repeat (first | refine a1 ?_ | refine a3 ?_ | refine a4 ?_ | refine a5 ?_ | refine a6 ?_ | refine s_loadB ?_ | refine s_fieldB ?_ | refine s_loadH ?_ | refine s_fieldV ?_ | refine s_index ?_ | refine s_indexR ?_ | refine s_indexArr ?_ | refine s_len ?_ | refine s_lenR ?_ | refine s_addI ?_ | refine s_subI ?_ | refine s_loadBs ?_ | refine s_loadR ?_ | refine s_build ?_ | refine s_convI ?_ | refine s_conv ?_ | refine s_rem ?_ | refine s_min ?_ | refine s_lss ?_ | refine s_eql ?_ | refine s_neq ?_ | refine s_gtr ?_ | refine a7 ?_ | refine a8 ?_ | refine a9 ?_ | refine RW.storeR rfl rfl rfl rfl (by first | rfl | (simp [allOne, cellsL, one1]; done) | (simp [allOne, cellsL, one1]; first | assumption | (refine ⟨?_, ?_⟩ <;> assumption))) rfl ?_ | refine a10 ?_ | refine RW.storeR1 rfl rfl (by first | rfl | exact IsSl.one1 (by assumption) | exact IsSl.one1 (SliceRep.isSl (by assumption))) rfl rfl ?_)
        refine Runs.ret1 Try.func10 Try.results10 rfl (fun w hm => hR _ w _ H _ (List.mem_cons_self ..) (Snap.le.refl _) ?_ hm)
        rfl
end Go.Proofs.Ytonleimnjgmfeaa

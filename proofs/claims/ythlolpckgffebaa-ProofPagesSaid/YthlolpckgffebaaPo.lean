/-
  The law ProofChanges. Conditions: the arguments' form.
-/
import Derived.Test.YthlolpckgffebaaPm
import Derived.Test.YthlolpckgffebaaT15
namespace Go.Proofs.Ythlolpckgffebaa
open Go Go.RowKit

theorem commonN_self_take (L : List Cand) (n : Nat) : commonN (L.take n) L = (L.take n).length := by
  refine commonN_at _ _ _ (Nat.le_refl _) (fun j hj => ?_) (.inl rfl)
  rw [List.getElem?_take_of_lt]
  simp at hj; omega
theorem check_first {N : Nat} {gl : List Lnk} (hg : validG N gl) (n : Nat) : checkR N gl (pot gl N) ((allW gl N).take n) (decide (min n (allW gl N).length = (allW gl N).length)) = (((min n (allW gl N).length : Nat) : Int), 0) := by
  have hr : rightP N gl (pot gl N) := ⟨hg, by rw [Int.toNat_natCast]⟩
  have hgn : ¬ ¬ validG N gl := fun h => h hg
  have hrn : ¬ ¬ rightP N gl (pot gl N) := fun h => h hr
  rw [check_eq, rcheckR, if_neg hgn, if_neg hrn, Int.toNat_natCast, commonN_self_take, List.length_take, if_neg]
  rintro (h | h)
  · omega
  · exact h rfl
theorem check_wrong {N : Nat} {gl : List Lnk} (hg : validG N gl) {h : List Int} {L : List Cand} {w : Bool} (hr : ¬ rightP N gl h) : checkR N gl h L w = (-1, 160) := by
  have hgn : ¬ ¬ validG N gl := fun h => h hg
  rw [check_eq, rcheckR, if_neg hgn, if_pos hr]
theorem potL_valid {N : Nat} {gl : List Lnk} (hg : validG N gl) : potL N gl = pot gl N := by unfold potL; rw [if_pos hg, Int.toNat_natCast]
theorem potE_valid {N : Nat} {gl : List Lnk} (hg : validG N gl) : potE N gl = 0 := by unfold potE; rw [if_pos hg]
theorem allW_links {N : Nat} {gl : List Lnk} (hg : ∀ x ∈ gl, okL (N : Int) x) {x : Cand} (hx : x ∈ allW gl N) : x.links.length ≤ N := (waysG_bound hg N 0 x ((ordered_perm _).mem_iff.1 hx)).1

set_option maxHeartbeats 4000000 in
theorem changes16_c {H : Snap} {n at_ by_ : Int} {vL : Value} {xs : List (Int × Int × Int)} (hl : SliceRep H TriL vL xs) (hn : isByte n) (hx : ∀ x ∈ xs, triOk x) (hat : isByte at_) (hby : isI8 by_) :
    Pure Try.prog 4 #[.agg #[.int .u8 n, vL], .int .u8 at_, .int .i8 by_] H (fun _ r => r = .bool true) := by
  have hg := made_valid n hx
  have hgl14 := madeL_length n xs
  unfold isI8 at hby
  unfold isByte at hat
  refine Pure.intro Try.func4 rfl Try.ntmps4 rfl (fun E R hM hR => ?_)
  repeat (first | refine a1 ?_ | refine a3 ?_ | refine a4 ?_ | refine a5 ?_ | refine a6 ?_ | refine s_loadBs ?_ | refine s_loadHs ?_ | refine s_convI ?_ | refine s_fieldB ?_ | refine s_fieldV ?_ | refine s_loadB ?_ | refine s_loadH ?_ | refine s_loadR ?_ | refine s_rem ?_ | refine s_index ?_ | refine s_indexR ?_ | refine s_addI ?_ | refine s_subI ?_ | refine s_sliceHi ?_ | refine s_eql ?_ | refine s_eqlB ?_ | refine a7 ?_ | refine a8 ?_ | refine a9 ?_ | refine RW.storeR rfl rfl rfl rfl (by first | rfl | (simp [allOne, cellsL, one1]; done) | (simp [allOne, cellsL, one1]; first | assumption | (refine ⟨?_, ?_⟩ <;> assumption))) rfl ?_ | refine a10 ?_ | refine RW.storeR1 rfl rfl (by first | rfl | exact IsSl.one1 (by assumption) | exact IsSl.one1 (SliceRep.isSl (by assumption))) rfl rfl ?_)
  refine RW.box rfl rfl rfl rfl (fun b3 => ?_)
  repeat (first | refine a1 ?_ | refine a3 ?_ | refine a4 ?_ | refine a5 ?_ | refine a6 ?_ | refine s_loadBs ?_ | refine s_loadHs ?_ | refine s_convI ?_ | refine s_fieldB ?_ | refine s_fieldV ?_ | refine s_loadB ?_ | refine s_loadH ?_ | refine s_loadR ?_ | refine s_rem ?_ | refine s_index ?_ | refine s_indexR ?_ | refine s_addI ?_ | refine s_subI ?_ | refine s_sliceHi ?_ | refine s_eql ?_ | refine s_eqlB ?_ | refine a7 ?_ | refine a8 ?_ | refine a9 ?_ | refine RW.storeR rfl rfl rfl rfl (by first | rfl | (simp [allOne, cellsL, one1]; done) | (simp [allOne, cellsL, one1]; first | assumption | (refine ⟨?_, ?_⟩ <;> assumption))) rfl ?_ | refine a10 ?_ | refine RW.storeR1 rfl rfl (by first | rfl | exact IsSl.one1 (by assumption) | exact IsSl.one1 (SliceRep.isSl (by assumption))) rfl rfl ?_)
  refine RW.callV rfl (sanity16_c (H := H)) rfl rfl ?_
  rintro _ _ rfl
  repeat (first | refine a1 ?_ | refine a3 ?_ | refine a4 ?_ | refine a5 ?_ | refine a6 ?_ | refine s_loadBs ?_ | refine s_loadHs ?_ | refine s_convI ?_ | refine s_fieldB ?_ | refine s_fieldV ?_ | refine s_loadB ?_ | refine s_loadH ?_ | refine s_loadR ?_ | refine s_rem ?_ | refine s_index ?_ | refine s_indexR ?_ | refine s_addI ?_ | refine s_subI ?_ | refine s_sliceHi ?_ | refine s_eql ?_ | refine s_eqlB ?_ | refine a7 ?_ | refine a8 ?_ | refine a9 ?_ | refine RW.storeR rfl rfl rfl rfl (by first | rfl | (simp [allOne, cellsL, one1]; done) | (simp [allOne, cellsL, one1]; first | assumption | (refine ⟨?_, ?_⟩ <;> assumption))) rfl ?_ | refine a10 ?_ | refine RW.storeR1 rfl rfl (by first | rfl | exact IsSl.one1 (by assumption) | exact IsSl.one1 (SliceRep.isSl (by assumption))) rfl rfl ?_)
  refine RW.call rfl (made_c hl hn hx) rfl rfl ?_
  rintro _ Hg ⟨vg, rfl, hgl⟩ hleg
  generalize hGe : madeL n xs = gl at hgl hg hgl14
  generalize hNe : madeN n = N at hg ⊢
  obtain ⟨N, rfl⟩ : ∃ M : Nat, N = (M : Int) := ⟨N.toNat, by have := hg.1; omega⟩
  have hgv := hg
  obtain ⟨hN1, hN2, hlen, hall⟩ := hg
  have hvg1 := hgl.isSl.one1
  have hfew : (waysG gl N N 0).length ≤ 168 := ways_few hall hgl14 N 0
  have hpot := pot_is hall (by omega)
  have hpl := hpot.1
  refine RW.alloc rfl rfl rfl (fun b8 => ?_)
  repeat (first | refine a1 ?_ | refine a3 ?_ | refine a4 ?_ | refine a5 ?_ | refine a6 ?_ | refine s_loadBs ?_ | refine s_loadHs ?_ | refine s_convI ?_ | refine s_fieldB ?_ | refine s_fieldV ?_ | refine s_loadB ?_ | refine s_loadH ?_ | refine s_loadR ?_ | refine s_rem ?_ | refine s_index ?_ | refine s_indexR ?_ | refine s_addI ?_ | refine s_subI ?_ | refine s_sliceHi ?_ | refine s_eql ?_ | refine s_eqlB ?_ | refine a7 ?_ | refine a8 ?_ | refine a9 ?_ | refine RW.storeR rfl rfl rfl rfl (by first | rfl | (simp [allOne, cellsL, one1]; done) | (simp [allOne, cellsL, one1]; first | assumption | (refine ⟨?_, ?_⟩ <;> assumption))) rfl ?_ | refine a10 ?_ | refine RW.storeR1 rfl rfl (by first | rfl | exact IsSl.one1 (by assumption) | exact IsSl.one1 (SliceRep.isSl (by assumption))) rfl rfl ?_)
  refine RW.call rfl (rpot_c (N := (N : Int)) hgl) rfl rfl ?_
  rintro _ Hp ⟨vp, rfl, hvp⟩ hlep
  rw [potE_valid hgv]
  rw [potL_valid hgv] at hvp
  generalize hpe : pot gl N = h at hvp hpot hpl
  repeat (first | refine a1 ?_ | refine a3 ?_ | refine a4 ?_ | refine a5 ?_ | refine a6 ?_ | refine s_loadBs ?_ | refine s_loadHs ?_ | refine s_convI ?_ | refine s_fieldB ?_ | refine s_fieldV ?_ | refine s_loadB ?_ | refine s_loadH ?_ | refine s_loadR ?_ | refine s_rem ?_ | refine s_index ?_ | refine s_indexR ?_ | refine s_addI ?_ | refine s_subI ?_ | refine s_sliceHi ?_ | refine s_eql ?_ | refine s_eqlB ?_ | refine a7 ?_ | refine a8 ?_ | refine a9 ?_ | refine RW.storeR rfl rfl rfl rfl (by first | rfl | (simp [allOne, cellsL, one1]; done) | (simp [allOne, cellsL, one1]; first | assumption | (refine ⟨?_, ?_⟩ <;> assumption))) rfl ?_ | refine a10 ?_ | refine RW.storeR1 rfl rfl (by first | rfl | exact IsSl.one1 (by assumption) | exact IsSl.one1 (SliceRep.isSl (by assumption))) rfl rfl ?_)
  have hglp := hgl.mono hlep
  refine RW.call rfl (first_c (n := 3) hglp hgv (by omega) (by omega)) rfl rfl ?_
  rintro _ Hf ⟨vf, rfl, hvf⟩ hlef
  have hvf1 := hvf.isSl.one1
  refine RW.alloc rfl rfl rfl (fun b11 => ?_)
  repeat (first | refine a1 ?_ | refine a3 ?_ | refine a4 ?_ | refine a5 ?_ | refine a6 ?_ | refine s_loadBs ?_ | refine s_loadHs ?_ | refine s_convI ?_ | refine s_fieldB ?_ | refine s_fieldV ?_ | refine s_loadB ?_ | refine s_loadH ?_ | refine s_loadR ?_ | refine s_rem ?_ | refine s_index ?_ | refine s_indexR ?_ | refine s_addI ?_ | refine s_subI ?_ | refine s_sliceHi ?_ | refine s_eql ?_ | refine s_eqlB ?_ | refine a7 ?_ | refine a8 ?_ | refine a9 ?_ | refine RW.storeR rfl rfl rfl rfl (by first | rfl | (simp [allOne, cellsL, one1]; done) | (simp [allOne, cellsL, one1]; first | assumption | (refine ⟨?_, ?_⟩ <;> assumption))) rfl ?_ | refine a10 ?_ | refine RW.storeR1 rfl rfl (by first | rfl | exact IsSl.one1 (by assumption) | exact IsSl.one1 (SliceRep.isSl (by assumption))) rfl rfl ?_)
  have hglf := hglp.mono hlef
  have hvpf := hvp.mono hlef
  generalize hwe : decide (min 3 (allW gl N).length = (allW gl N).length) = w at *
  obtain ⟨i, hi⟩ : ∃ i : Nat, at_ % (N : Int) = (i : Int) := ⟨(at_ % (N : Int)).toNat, by
    have := Int.emod_nonneg at_ (b := (N : Int)) (by omega)
    omega⟩
  have hiN : i < N := by
    have := Int.emod_lt_of_pos at_ (b := (N : Int)) (by omega)
    omega
  rw [hi]
  repeat (first | refine a1 ?_ | refine a3 ?_ | refine a4 ?_ | refine a5 ?_ | refine a6 ?_ | refine s_loadBs ?_ | refine s_loadHs ?_ | refine s_convI ?_ | refine s_fieldB ?_ | refine s_fieldV ?_ | refine s_loadB ?_ | refine s_loadH ?_ | refine s_loadR ?_ | refine s_rem ?_ | refine s_index ?_ | refine s_indexR ?_ | refine s_addI ?_ | refine s_subI ?_ | refine s_sliceHi ?_ | refine s_eql ?_ | refine s_eqlB ?_ | refine a7 ?_ | refine a8 ?_ | refine a9 ?_ | refine RW.storeR rfl rfl rfl rfl (by first | rfl | (simp [allOne, cellsL, one1]; done) | (simp [allOne, cellsL, one1]; first | assumption | (refine ⟨?_, ?_⟩ <;> assumption))) rfl ?_ | refine a10 ?_ | refine RW.storeR1 rfl rfl (by first | rfl | exact IsSl.one1 (by assumption) | exact IsSl.one1 (SliceRep.isSl (by assumption))) rfl rfl ?_)
  refine RW.buildSlice rfl rfl rfl rfl rfl rfl rfl (fun v36 hv36 => ?_)
  repeat (first | refine a1 ?_ | refine a3 ?_ | refine a4 ?_ | refine a5 ?_ | refine a6 ?_ | refine s_loadBs ?_ | refine s_loadHs ?_ | refine s_convI ?_ | refine s_fieldB ?_ | refine s_fieldV ?_ | refine s_loadB ?_ | refine s_loadH ?_ | refine s_loadR ?_ | refine s_rem ?_ | refine s_index ?_ | refine s_indexR ?_ | refine s_addI ?_ | refine s_subI ?_ | refine s_sliceHi ?_ | refine s_eql ?_ | refine s_eqlB ?_ | refine a7 ?_ | refine a8 ?_ | refine a9 ?_ | refine RW.storeR rfl rfl rfl rfl (by first | rfl | (simp [allOne, cellsL, one1]; done) | (simp [allOne, cellsL, one1]; first | assumption | (refine ⟨?_, ?_⟩ <;> assumption))) rfl ?_ | refine a10 ?_ | refine RW.storeR1 rfl rfl (by first | rfl | exact IsSl.one1 (by assumption) | exact IsSl.one1 (SliceRep.isSl (by assumption))) rfl rfl ?_)
  refine RW.appendH rfl rfl (hvpf) (by rfl) rfl (by decide) (by omega) (by omega) (fun _ _ => inferInstance) rfl rfl (fun ds v38 hds hv38 => ?_)
  have hds' := i64_cells hds
  subst hds'
  simp only [repL, List.nil_append, Nat.zero_add]
  have hv38' : IsSl v38 h.length := by rw [Nat.zero_add] at hv38; exact hv38
  have hhi := hpot.2.1 (i : Int) (by omega) (by omega)
  have hci : (encI h)[i * 1]? = some (.int .i64 (tv h (i : Int))) := encI_at1 (by omega)
  repeat (first | refine a1 ?_ | refine a3 ?_ | refine a4 ?_ | refine a5 ?_ | refine a6 ?_ | refine s_loadBs ?_ | refine s_loadHs ?_ | refine s_convI ?_ | refine s_fieldB ?_ | refine s_fieldV ?_ | refine s_loadB ?_ | refine s_loadH ?_ | refine s_loadR ?_ | refine s_rem ?_ | refine s_index ?_ | refine s_indexR ?_ | refine s_addI ?_ | refine s_subI ?_ | refine s_sliceHi ?_ | refine s_eql ?_ | refine s_eqlB ?_ | refine a7 ?_ | refine a8 ?_ | refine a9 ?_ | refine RW.storeR rfl rfl rfl rfl (by first | rfl | (simp [allOne, cellsL, one1]; done) | (simp [allOne, cellsL, one1]; first | assumption | (refine ⟨?_, ?_⟩ <;> assumption))) rfl ?_ | refine a10 ?_ | refine RW.storeR1 rfl rfl (by first | rfl | exact IsSl.one1 (by assumption) | exact IsSl.one1 (SliceRep.isSl (by assumption))) rfl rfl ?_)
  refine RW.storeR1 rfl rfl rfl (encI_set (by omega)) rfl ?_
  repeat (first | refine a1 ?_ | refine a3 ?_ | refine a4 ?_ | refine a5 ?_ | refine a6 ?_ | refine s_loadBs ?_ | refine s_loadHs ?_ | refine s_convI ?_ | refine s_fieldB ?_ | refine s_fieldV ?_ | refine s_loadB ?_ | refine s_loadH ?_ | refine s_loadR ?_ | refine s_rem ?_ | refine s_index ?_ | refine s_indexR ?_ | refine s_addI ?_ | refine s_subI ?_ | refine s_sliceHi ?_ | refine s_eql ?_ | refine s_eqlB ?_ | refine a7 ?_ | refine a8 ?_ | refine a9 ?_ | refine RW.storeR rfl rfl rfl rfl (by first | rfl | (simp [allOne, cellsL, one1]; done) | (simp [allOne, cellsL, one1]; first | assumption | (refine ⟨?_, ?_⟩ <;> assumption))) rfl ?_ | refine a10 ?_ | refine RW.storeR1 rfl rfl (by first | rfl | exact IsSl.one1 (by assumption) | exact IsSl.one1 (SliceRep.isSl (by assumption))) rfl rfl ?_)
  refine RW.buildSlice rfl rfl rfl rfl rfl rfl rfl (fun v47 hv47 => ?_)
  repeat (first | refine a1 ?_ | refine a3 ?_ | refine a4 ?_ | refine a5 ?_ | refine a6 ?_ | refine s_loadBs ?_ | refine s_loadHs ?_ | refine s_convI ?_ | refine s_fieldB ?_ | refine s_fieldV ?_ | refine s_loadB ?_ | refine s_loadH ?_ | refine s_loadR ?_ | refine s_rem ?_ | refine s_index ?_ | refine s_indexR ?_ | refine s_addI ?_ | refine s_subI ?_ | refine s_sliceHi ?_ | refine s_eql ?_ | refine s_eqlB ?_ | refine a7 ?_ | refine a8 ?_ | refine a9 ?_ | refine RW.storeR rfl rfl rfl rfl (by first | rfl | (simp [allOne, cellsL, one1]; done) | (simp [allOne, cellsL, one1]; first | assumption | (refine ⟨?_, ?_⟩ <;> assumption))) rfl ?_ | refine a10 ?_ | refine RW.storeR1 rfl rfl (by first | rfl | exact IsSl.one1 (by assumption) | exact IsSl.one1 (SliceRep.isSl (by assumption))) rfl rfl ?_)
  refine RW.appendH rfl rfl (hvpf) (by rfl) rfl (by decide) (by omega) (by omega) (fun _ _ => inferInstance) rfl rfl (fun ds2 v49 hds2 hv49 => ?_)
  have hds2' := i64_cells hds2
  subst hds2'
  simp only [repL, List.nil_append, Nat.zero_add]
  repeat (first | refine a1 ?_ | refine a3 ?_ | refine a4 ?_ | refine a5 ?_ | refine a6 ?_ | refine s_loadBs ?_ | refine s_loadHs ?_ | refine s_convI ?_ | refine s_fieldB ?_ | refine s_fieldV ?_ | refine s_loadB ?_ | refine s_loadH ?_ | refine s_loadR ?_ | refine s_rem ?_ | refine s_index ?_ | refine s_indexR ?_ | refine s_addI ?_ | refine s_subI ?_ | refine s_sliceHi ?_ | refine s_eql ?_ | refine s_eqlB ?_ | refine a7 ?_ | refine a8 ?_ | refine a9 ?_ | refine RW.storeR rfl rfl rfl rfl (by first | rfl | (simp [allOne, cellsL, one1]; done) | (simp [allOne, cellsL, one1]; first | assumption | (refine ⟨?_, ?_⟩ <;> assumption))) rfl ?_ | refine a10 ?_ | refine RW.storeR1 rfl rfl (by first | rfl | exact IsSl.one1 (by assumption) | exact IsSl.one1 (SliceRep.isSl (by assumption))) rfl rfl ?_)
  refine RW.buildSlice rfl rfl rfl rfl rfl rfl rfl (fun v51 hv51 => ?_)
  refine RW.appendR rfl rfl (by assumption) rfl rfl rfl (by decide) (by omega) (by omega) (fun _ => inferInstance) rfl rfl (fun v52 hv52 => ?_)
  refine RW.freeze (H := Hf) v38 hM (fun H1 hle1 hs1 hc1 => ?_)
  have hch : SliceRep H1 I64 v38 (h.set i (tv h (i : Int) + by_)) := SliceRep.of_row hs1 (by simp) (ints_rep H1 _) (Snap.le.refl _) hc1
  refine RW.freeze (H := H1) v52 hM (fun H2 hle2 hs2 hc2 => ?_)
  have hlo : SliceRep H2 I64 v52 (h ++ [0]) := SliceRep.of_row hs2 (by simp) (by
    have := ints_rep H2 (h ++ [0])
    rw [List.map_append] at this
    exact this) (Snap.le.refl _) hc2
  have hch2 := hch.mono hle2
  have hgl2 := (hglf.mono hle1).mono hle2
  have hvp2 := (hvpf.mono hle1).mono hle2
  have hvf2 := (hvf.mono hle1).mono hle2
  have hLl : ((allW gl N).take 3).length ≤ 1000000 := by simp; omega
  have hLx : ∀ x ∈ (allW gl N).take 3, x.links.length ≤ 1000000 := fun x hx => by have := allW_links hall (List.mem_of_mem_take hx); omega
  have hC1 := bcheck_c (N := (N : Int)) (w := w) hgl2 hvp2 hvf2 hLl hLx
  have hcf := check_first hgv 3
  rw [hpe, hwe] at hcf
  rw [hcf] at hC1
  have hr1 : ¬ rightP (N : Int) gl (h ++ [0]) := by
    rintro ⟨_, e⟩
    rw [Int.toNat_natCast, hpe] at e
    have := congrArg List.length e
    simp at this
  have hr2 : ¬ rightP (N : Int) gl (h.take (N - 1)) := by
    rintro ⟨_, e⟩
    rw [Int.toNat_natCast, hpe] at e
    have := congrArg List.length e
    simp at this
    omega
  have hr3 : rightP (N : Int) gl (h.set i (tv h (i : Int) + by_)) ↔ by_ = 0 := by
    unfold rightP
    rw [Int.toNat_natCast, hpe]
    constructor
    · rintro ⟨_, e⟩
      have h1 : (h.set i (tv h (i : Int) + by_))[i]? = some (tv h (i : Int) + by_) := by simp [hpl, hiN]
      rw [e, tv_at (by omega)] at h1
      have := Option.some.inj h1
      omega
    · rintro rfl
      refine ⟨hgv, ?_⟩
      rw [Int.add_zero]
      exact set_same _ _ _ (tv_at (by omega))
  have hC3 := bcheck_c (N := (N : Int)) (w := w) hgl2 hlo hvf2 hLl hLx
  rw [check_wrong hgv hr1] at hC3
  have hC2 := bcheck_c (N := (N : Int)) (w := w) hgl2 hch2 hvf2 hLl hLx
  have hR1 : Pure Try.prog 15 #[.agg #[.int .i64 (N : Int), vg], v52] H2 (fun _ r => r = .bool false) := (bright_c (N := (N : Int)) hgl2 hlo).mono fun _ _ _ h => by rw [h, decide_eq_false hr1]
  have hsl : SliceRep H2 I64 (slv vp 1 0 (N - 1) (capOf vp)) (h.take (N - 1)) := by
    have := hvp2.slv (s := 1) (lo := 0) (hi := N - 1) (mx := capOf vp) rfl (Nat.zero_le _) (by omega) (Nat.le_trans (by omega) hvp2.capOf_le) (Nat.le_refl _)
    simpa using this
  have hR2 : Pure Try.prog 15 #[.agg #[.int .i64 (N : Int), vg], slv vp 1 0 (N - 1) (capOf vp)] H2 (fun _ r => r = .bool false) := (bright_c (N := (N : Int)) hgl2 hsl).mono fun _ _ _ h => by rw [h, decide_eq_false hr2]
  have hR3 := bright_c (N := (N : Int)) hgl2 hch2
  rw [decide_eq_decide.2 hr3] at hR3
  have eN : (N : Int) - 1 = ((N - 1 : Nat) : Int) := by omega
  dsimp only at hC1 hC3
  repeat (first | refine a1 ?_ | refine a3 ?_ | refine a4 ?_ | refine a5 ?_ | refine a6 ?_ | refine s_loadBs ?_ | refine s_loadHs ?_ | refine s_convI ?_ | refine s_fieldB ?_ | refine s_fieldV ?_ | refine s_loadB ?_ | refine s_loadH ?_ | refine s_loadR ?_ | refine s_rem ?_ | refine s_index ?_ | refine s_indexR ?_ | refine s_addI ?_ | refine s_subI ?_ | refine s_sliceHi ?_ | refine s_eql ?_ | refine s_eqlB ?_ | refine a7 ?_ | refine a8 ?_ | refine a9 ?_ | refine RW.storeR rfl rfl rfl rfl (by first | rfl | (simp [allOne, cellsL, one1]; done) | (simp [allOne, cellsL, one1]; first | assumption | (refine ⟨?_, ?_⟩ <;> assumption))) rfl ?_ | refine a10 ?_ | refine RW.storeR1 rfl rfl (by first | rfl | exact IsSl.one1 (by assumption) | exact IsSl.one1 (SliceRep.isSl (by assumption))) rfl rfl ?_)
  refine RW.callV rfl (hC1) rfl rfl ?_
  rintro _ _ rfl
  repeat (first | refine a1 ?_ | refine a3 ?_ | refine a4 ?_ | refine a5 ?_ | refine a6 ?_ | refine s_loadBs ?_ | refine s_loadHs ?_ | refine s_convI ?_ | refine s_fieldB ?_ | refine s_fieldV ?_ | refine s_loadB ?_ | refine s_loadH ?_ | refine s_loadR ?_ | refine s_rem ?_ | refine s_index ?_ | refine s_indexR ?_ | refine s_addI ?_ | refine s_subI ?_ | refine s_sliceHi ?_ | refine s_eql ?_ | refine s_eqlB ?_ | refine a7 ?_ | refine a8 ?_ | refine a9 ?_ | refine RW.storeR rfl rfl rfl rfl (by first | rfl | (simp [allOne, cellsL, one1]; done) | (simp [allOne, cellsL, one1]; first | assumption | (refine ⟨?_, ?_⟩ <;> assumption))) rfl ?_ | refine a10 ?_ | refine RW.storeR1 rfl rfl (by first | rfl | exact IsSl.one1 (by assumption) | exact IsSl.one1 (SliceRep.isSl (by assumption))) rfl rfl ?_)
  refine RW.callV rfl (hC2) rfl rfl ?_
  rintro _ _ rfl
  repeat (first | refine a1 ?_ | refine a3 ?_ | refine a4 ?_ | refine a5 ?_ | refine a6 ?_ | refine s_loadBs ?_ | refine s_loadHs ?_ | refine s_convI ?_ | refine s_fieldB ?_ | refine s_fieldV ?_ | refine s_loadB ?_ | refine s_loadH ?_ | refine s_loadR ?_ | refine s_rem ?_ | refine s_index ?_ | refine s_indexR ?_ | refine s_addI ?_ | refine s_subI ?_ | refine s_sliceHi ?_ | refine s_eql ?_ | refine s_eqlB ?_ | refine a7 ?_ | refine a8 ?_ | refine a9 ?_ | refine RW.storeR rfl rfl rfl rfl (by first | rfl | (simp [allOne, cellsL, one1]; done) | (simp [allOne, cellsL, one1]; first | assumption | (refine ⟨?_, ?_⟩ <;> assumption))) rfl ?_ | refine a10 ?_ | refine RW.storeR1 rfl rfl (by first | rfl | exact IsSl.one1 (by assumption) | exact IsSl.one1 (SliceRep.isSl (by assumption))) rfl rfl ?_)
  refine RW.callV rfl (hC3) rfl rfl ?_
  rintro _ _ rfl
  repeat (first | refine a1 ?_ | refine a3 ?_ | refine a4 ?_ | refine a5 ?_ | refine a6 ?_ | refine s_loadBs ?_ | refine s_loadHs ?_ | refine s_convI ?_ | refine s_fieldB ?_ | refine s_fieldV ?_ | refine s_loadB ?_ | refine s_loadH ?_ | refine s_loadR ?_ | refine s_rem ?_ | refine s_index ?_ | refine s_indexR ?_ | refine s_addI ?_ | refine s_subI ?_ | refine s_sliceHi ?_ | refine s_eql ?_ | refine s_eqlB ?_ | refine a7 ?_ | refine a8 ?_ | refine a9 ?_ | refine RW.storeR rfl rfl rfl rfl (by first | rfl | (simp [allOne, cellsL, one1]; done) | (simp [allOne, cellsL, one1]; first | assumption | (refine ⟨?_, ?_⟩ <;> assumption))) rfl ?_ | refine a10 ?_ | refine RW.storeR1 rfl rfl (by first | rfl | exact IsSl.one1 (by assumption) | exact IsSl.one1 (SliceRep.isSl (by assumption))) rfl rfl ?_)
  have hvps := hvp2.isSl
  refine Runs.regionD _ _ [] (fun x hx => List.mem_cons_of_mem _ hx) (List.Sublist.refl _) (by kernel_rfl) ?_
  refine d1 0 3 ?_
  (first | refine t_loadBs 3 ?_ | refine t_loadHs 3 ?_)
  refine d2 4 ?_
  refine DW.callV 5 rfl (by kernel_rfl) rfl (hR1) rfl rfl ?_
  rintro _ _ rfl
  refine d1 6 2 ?_
  (first | refine t_loadBs 8 ?_ | refine t_loadHs 8 ?_)
  refine d2 9 ?_
  (first | refine t_fieldB 10 ?_ | refine t_fieldV 10 ?_)
  (first | refine t_loadB 11 ?_ | refine t_loadH 11 ?_ | refine t_loadR 11 ?_)
  refine t_subI 12 ?_
  rw [eN]
  refine t_sliceHi 13 ?_
  refine DW.callV 14 rfl (by kernel_rfl) rfl (hR2) rfl rfl ?_
  rintro _ _ rfl
  refine d1 15 2 ?_
  refine d1 17 4 ?_
  refine d1 21 3 ?_
  refine DW.done (by kernel_rfl) ?_
  repeat (first | refine a1 ?_ | refine a3 ?_ | refine a4 ?_ | refine a5 ?_ | refine a6 ?_ | refine s_loadBs ?_ | refine s_loadHs ?_ | refine s_convI ?_ | refine s_fieldB ?_ | refine s_fieldV ?_ | refine s_loadB ?_ | refine s_loadH ?_ | refine s_loadR ?_ | refine s_rem ?_ | refine s_index ?_ | refine s_indexR ?_ | refine s_addI ?_ | refine s_subI ?_ | refine s_sliceHi ?_ | refine s_eql ?_ | refine s_eqlB ?_ | refine a7 ?_ | refine a8 ?_ | refine a9 ?_ | refine RW.storeR rfl rfl rfl rfl (by first | rfl | (simp [allOne, cellsL, one1]; done) | (simp [allOne, cellsL, one1]; first | assumption | (refine ⟨?_, ?_⟩ <;> assumption))) rfl ?_ | refine a10 ?_ | refine RW.storeR1 rfl rfl (by first | rfl | exact IsSl.one1 (by assumption) | exact IsSl.one1 (SliceRep.isSl (by assumption))) rfl rfl ?_)
  refine RW.callV rfl (hR3) rfl rfl ?_
  rintro _ _ rfl
  repeat (first | refine a1 ?_ | refine a3 ?_ | refine a4 ?_ | refine a5 ?_ | refine a6 ?_ | refine s_loadBs ?_ | refine s_loadHs ?_ | refine s_convI ?_ | refine s_fieldB ?_ | refine s_fieldV ?_ | refine s_loadB ?_ | refine s_loadH ?_ | refine s_loadR ?_ | refine s_rem ?_ | refine s_index ?_ | refine s_indexR ?_ | refine s_addI ?_ | refine s_subI ?_ | refine s_sliceHi ?_ | refine s_eql ?_ | refine s_eqlB ?_ | refine a7 ?_ | refine a8 ?_ | refine a9 ?_ | refine RW.storeR rfl rfl rfl rfl (by first | rfl | (simp [allOne, cellsL, one1]; done) | (simp [allOne, cellsL, one1]; first | assumption | (refine ⟨?_, ?_⟩ <;> assumption))) rfl ?_ | refine a10 ?_ | refine RW.storeR1 rfl rfl (by first | rfl | exact IsSl.one1 (by assumption) | exact IsSl.one1 (SliceRep.isSl (by assumption))) rfl rfl ?_)
  rw [beq_self_eq_true]
  repeat (first | refine a1 ?_ | refine a3 ?_ | refine a4 ?_ | refine a5 ?_ | refine a6 ?_ | refine s_loadBs ?_ | refine s_loadHs ?_ | refine s_convI ?_ | refine s_fieldB ?_ | refine s_fieldV ?_ | refine s_loadB ?_ | refine s_loadH ?_ | refine s_loadR ?_ | refine s_rem ?_ | refine s_index ?_ | refine s_indexR ?_ | refine s_addI ?_ | refine s_subI ?_ | refine s_sliceHi ?_ | refine s_eql ?_ | refine s_eqlB ?_ | refine a7 ?_ | refine a8 ?_ | refine a9 ?_ | refine RW.storeR rfl rfl rfl rfl (by first | rfl | (simp [allOne, cellsL, one1]; done) | (simp [allOne, cellsL, one1]; first | assumption | (refine ⟨?_, ?_⟩ <;> assumption))) rfl ?_ | refine a10 ?_ | refine RW.storeR1 rfl rfl (by first | rfl | exact IsSl.one1 (by assumption) | exact IsSl.one1 (SliceRep.isSl (by assumption))) rfl rfl ?_)
  refine RW.dec 110 rfl (fun hb0 => ?_) (fun hb0 => ?_)
  · repeat (first | refine a1 ?_ | refine a3 ?_ | refine a4 ?_ | refine a5 ?_ | refine a6 ?_ | refine s_loadBs ?_ | refine s_loadHs ?_ | refine s_convI ?_ | refine s_fieldB ?_ | refine s_fieldV ?_ | refine s_loadB ?_ | refine s_loadH ?_ | refine s_loadR ?_ | refine s_rem ?_ | refine s_index ?_ | refine s_indexR ?_ | refine s_addI ?_ | refine s_subI ?_ | refine s_sliceHi ?_ | refine s_eql ?_ | refine s_eqlB ?_ | refine a7 ?_ | refine a8 ?_ | refine a9 ?_ | refine RW.storeR rfl rfl rfl rfl (by first | rfl | (simp [allOne, cellsL, one1]; done) | (simp [allOne, cellsL, one1]; first | assumption | (refine ⟨?_, ?_⟩ <;> assumption))) rfl ?_ | refine a10 ?_ | refine RW.storeR1 rfl rfl (by first | rfl | exact IsSl.one1 (by assumption) | exact IsSl.one1 (SliceRep.isSl (by assumption))) rfl rfl ?_)
    refine Runs.ret1 Try.func4 Try.results4 rfl (fun w hm => hR _ w _ H _ (List.mem_cons_self ..) (Snap.le.refl _) ?_ hm)
    rfl
  · rw [check_wrong hgv (fun h => hb0 (hr3.1 h))]
    dsimp only
    repeat (first | refine a1 ?_ | refine a3 ?_ | refine a4 ?_ | refine a5 ?_ | refine a6 ?_ | refine s_loadBs ?_ | refine s_loadHs ?_ | refine s_convI ?_ | refine s_fieldB ?_ | refine s_fieldV ?_ | refine s_loadB ?_ | refine s_loadH ?_ | refine s_loadR ?_ | refine s_rem ?_ | refine s_index ?_ | refine s_indexR ?_ | refine s_addI ?_ | refine s_subI ?_ | refine s_sliceHi ?_ | refine s_eql ?_ | refine s_eqlB ?_ | refine a7 ?_ | refine a8 ?_ | refine a9 ?_ | refine RW.storeR rfl rfl rfl rfl (by first | rfl | (simp [allOne, cellsL, one1]; done) | (simp [allOne, cellsL, one1]; first | assumption | (refine ⟨?_, ?_⟩ <;> assumption))) rfl ?_ | refine a10 ?_ | refine RW.storeR1 rfl rfl (by first | rfl | exact IsSl.one1 (by assumption) | exact IsSl.one1 (SliceRep.isSl (by assumption))) rfl rfl ?_)
    refine Runs.ret1 Try.func4 Try.results4 rfl (fun w hm => hR _ w _ H _ (List.mem_cons_self ..) (Snap.le.refl _) ?_ hm)
    rfl
end Go.Proofs.Ythlolpckgffebaa

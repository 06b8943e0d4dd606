/-
  The law ProofRejects. Conditions: the arguments' form.
-/
import Derived.Test.YthlolpckgffebaaPy
import Derived.Test.YthlolpckgffebaaTo16
namespace Go.Proofs.Ythlolpckgffebaa
open Go Go.RowKit

theorem okP_first {N : Nat} {gl : List Lnk} (hg : validG (N : Int) gl) (hN7 : (N : Int) ≤ 7) (h14 : gl.length ≤ 14) {k : Nat} (hk : k ≤ 12) : okP 12 10000000 ((allW gl N).take k) := by
  have hN1 := hg.1
  have hall := hg.2.2.2
  refine ⟨by rw [List.length_take]; omega, fun x hx => ?_⟩
  have hm : x ∈ waysG gl N N 0 := (ordered_perm _).mem_iff.1 (List.mem_of_mem_take hx)
  obtain ⟨h1, h2, h3⟩ := waysG_bound hall N 0 x hm
  have h4 := (costOf_links hall (by omega) (way := x.links) (c := x.cost) (by
    have := ways_go hm
    unfold costOf
    rw [this]; simp)).2.1
  exact ⟨by omega, by omega, by omega, fun i hi => by have := h4 i hi; omega⟩
/-- A struct that lies in the middle of an owned block. -/
theorem QV.loadBm {P : Program} {E : Ent} {Hs : List Snap} {O : List Own} {l : Env} {T T' : TypeId} {x : Operand} {b o : Nat} {cs c : List Value} [i : TAgg P T true] [s : TSz P T c.length] (hx : opv l x = some (.pointer (some ⟨b, o, none⟩))) [g : GetBlk O b T' cs] (hc : ∀ j u, c[j]? = some u → cs[o + j]? = some u) : QV P E Hs O l (.load T x) (.agg c.toArray) := by
  intro o' ho ρ hρ w hm
  have h1 : (loadVar T ⟨b, o, none⟩).run P w = .ok (.agg c.toArray) w := run_loadVar_agg (fun j u hj => by
    have h2 := hm.cellB (i := g) (hc j u hj)
    rwa [Addr.add_lit])
  simp [execOp, ho, hρ _ _ hx, Instr.loadAt, Instr.sureAddr, h1]
theorem mid8 {a b c d e f g h : Value} : ∀ (j : Nat) (u : Value), [a, b, c, d][j]? = some u → [a, b, c, d, e, f, g, h][0 + j]? = some u
  | 0, _, h => h
  | 1, _, h => h
  | 2, _, h => h
  | 3, _, h => h
  | _ + 4, _, h => by simp at h
theorem end8 {a b c d e f g h : Value} : ∀ (j : Nat) (u : Value), [e, f, g, h][j]? = some u → [a, b, c, d, e, f, g, h][4 + j]? = some u
  | 0, _, h => h
  | 1, _, h => h
  | 2, _, h => h
  | 3, _, h => h
  | _ + 4, _, h => by simp at h
theorem rejects16_c {H : Snap} {n kk : Int} {vL : Value} {xs : List (Int × Int × Int)} {s t : Spo} (hl : SliceRep H TriL vL xs) (hn : isByte n) (hx : ∀ x ∈ xs, triOk x) (hkk : isByte kk) (hs : s.ok) (ht : t.ok) :
    Pure Try.prog 5 #[.agg #[.int .u8 n, vL], .int .u8 kk, .agg (s.cells ++ t.cells).toArray] H (fun _ r => r = .bool true) := by
  have hg := made_valid n hx
  have hgl14 := madeL_length n xs
  have hN7 := (madeN_range n).2
  unfold isByte at hkk
  obtain ⟨s1, s2, s3, s4⟩ := s
  obtain ⟨t1, t2, t3, t4⟩ := t
  obtain ⟨hs1, hs2, hs3, hs4⟩ := hs
  obtain ⟨ht1, ht2, ht3, ht4⟩ := ht
  dsimp only [Spo.cells] at *
  show Pure Try.prog 5 #[.agg #[.int .u8 n, vL], .int .u8 kk, .agg #[.int .u8 s1, .int .u8 s2, .int .u8 s3, .int .i8 s4, .int .u8 t1, .int .u8 t2, .int .u8 t3, .int .i8 t4]] H (fun _ r => r = .bool true)
  refine Pure.intro Try.func5 rfl Try.ntmps5 rfl (fun E R hM hR => ?_)
  repeat (first | refine a1 ?_ | refine a3 ?_ | refine a4 ?_ | refine a5 ?_ | refine a6 ?_ | refine s_loadBs ?_ | refine s_loadHs ?_ | refine s_rem ?_ | refine s_convI ?_ | refine s_indexArrT ?_ | refine s_indexArrB ?_ | refine a7 ?_ | refine a8 ?_ | refine a9 ?_ | refine RW.storeR rfl rfl rfl rfl (by first | rfl | (simp [allOne, cellsL, one1]; done) | (simp [allOne, cellsL, one1]; first | assumption | (refine ⟨?_, ?_⟩ <;> assumption))) rfl ?_ | refine a10 ?_ | refine RW.storeR1 rfl rfl (by first | rfl | exact IsSl.one1 (by assumption) | exact IsSl.one1 (SliceRep.isSl (by assumption))) rfl rfl ?_)
  refine RW.box rfl rfl rfl rfl (fun b3 => ?_)
  refine RW.box rfl rfl rfl rfl (fun b5 => ?_)
  repeat (first | refine a1 ?_ | refine a3 ?_ | refine a4 ?_ | refine a5 ?_ | refine a6 ?_ | refine s_loadBs ?_ | refine s_loadHs ?_ | refine s_rem ?_ | refine s_convI ?_ | refine s_indexArrT ?_ | refine s_indexArrB ?_ | refine a7 ?_ | refine a8 ?_ | refine a9 ?_ | refine RW.storeR rfl rfl rfl rfl (by first | rfl | (simp [allOne, cellsL, one1]; done) | (simp [allOne, cellsL, one1]; first | assumption | (refine ⟨?_, ?_⟩ <;> assumption))) rfl ?_ | refine a10 ?_ | refine RW.storeR1 rfl rfl (by first | rfl | exact IsSl.one1 (by assumption) | exact IsSl.one1 (SliceRep.isSl (by assumption))) rfl rfl ?_)
  refine RW.callV rfl (sanity16_c (H := H)) rfl rfl ?_
  rintro _ _ rfl
  repeat (first | refine a1 ?_ | refine a3 ?_ | refine a4 ?_ | refine a5 ?_ | refine a6 ?_ | refine s_loadBs ?_ | refine s_loadHs ?_ | refine s_rem ?_ | refine s_convI ?_ | refine s_indexArrT ?_ | refine s_indexArrB ?_ | refine a7 ?_ | refine a8 ?_ | refine a9 ?_ | refine RW.storeR rfl rfl rfl rfl (by first | rfl | (simp [allOne, cellsL, one1]; done) | (simp [allOne, cellsL, one1]; first | assumption | (refine ⟨?_, ?_⟩ <;> assumption))) rfl ?_ | refine a10 ?_ | refine RW.storeR1 rfl rfl (by first | rfl | exact IsSl.one1 (by assumption) | exact IsSl.one1 (SliceRep.isSl (by assumption))) rfl rfl ?_)
  refine RW.call rfl (made_c hl hn hx) rfl rfl ?_
  rintro _ Hg ⟨vg, rfl, hgl⟩ hleg
  generalize hGe : madeL n xs = gl at hgl hg hgl14
  generalize hNe : madeN n = N at hg hN7 ⊢
  obtain ⟨N, rfl⟩ : ∃ M : Nat, N = (M : Int) := ⟨N.toNat, by have := hg.1; omega⟩
  have hgv := hg
  obtain ⟨hN1, hN2, hlen, hall⟩ := hg
  have hvg1 := hgl.isSl.one1
  have hfew : (waysG gl N N 0).length ≤ 168 := ways_few hall hgl14 N 0
  refine RW.alloc rfl rfl rfl (fun b8 => ?_)
  repeat (first | refine a1 ?_ | refine a3 ?_ | refine a4 ?_ | refine a5 ?_ | refine a6 ?_ | refine s_loadBs ?_ | refine s_loadHs ?_ | refine s_rem ?_ | refine s_convI ?_ | refine s_indexArrT ?_ | refine s_indexArrB ?_ | refine a7 ?_ | refine a8 ?_ | refine a9 ?_ | refine RW.storeR rfl rfl rfl rfl (by first | rfl | (simp [allOne, cellsL, one1]; done) | (simp [allOne, cellsL, one1]; first | assumption | (refine ⟨?_, ?_⟩ <;> assumption))) rfl ?_ | refine a10 ?_ | refine RW.storeR1 rfl rfl (by first | rfl | exact IsSl.one1 (by assumption) | exact IsSl.one1 (SliceRep.isSl (by assumption))) rfl rfl ?_)
  refine RW.call rfl (rpot_c (N := (N : Int)) hgl) rfl rfl ?_
  rintro _ Hp ⟨vp, rfl, hvp⟩ hlep
  obtain ⟨k, hk⟩ : ∃ k : Nat, kk % 13 = (k : Int) := ⟨(kk % 13).toNat, by omega⟩
  have hk12 : k ≤ 12 := by omega
  have hF := first_c (N := N) (n := k) (hgl.mono hlep) hgv (by omega) (by omega)
  have hok := okP_first hgv hN7 hgl14 hk12
  repeat (first | refine a1 ?_ | refine a3 ?_ | refine a4 ?_ | refine a5 ?_ | refine a6 ?_ | refine s_loadBs ?_ | refine s_loadHs ?_ | refine s_rem ?_ | refine s_convI ?_ | refine s_indexArrT ?_ | refine s_indexArrB ?_ | refine a7 ?_ | refine a8 ?_ | refine a9 ?_ | refine RW.storeR rfl rfl rfl rfl (by first | rfl | (simp [allOne, cellsL, one1]; done) | (simp [allOne, cellsL, one1]; first | assumption | (refine ⟨?_, ?_⟩ <;> assumption))) rfl ?_ | refine a10 ?_ | refine RW.storeR1 rfl rfl (by first | rfl | exact IsSl.one1 (by assumption) | exact IsSl.one1 (SliceRep.isSl (by assumption))) rfl rfl ?_)
  refine Runs.regionD _ _ [9] (fun x hx => List.mem_cons_of_mem _ hx) (List.Sublist.refl _) (by kernel_rfl) ?_
  (first | refine t_loadBs 0 ?_ | refine t_loadHs 0 ?_)
  refine d2 1 ?_
  refine t_rem 2 ?_
  refine t_convI 3 ?_
  rw [hk]
  (first | refine t_indexArrT 5 ?_ | refine t_indexArrB 5 ?_)
  refine DW.q 6 rfl (by kernel_rfl) (QV.loadBm (c := [.int .u8 s1, .int .u8 s2, .int .u8 s3, .int .i8 s4]) rfl mid8) rfl rfl ?_
  refine DW.float 8 rfl rfl ?_
  refine DWf.call 4 rfl rfl rfl (by kernel_rfl) (by kernel_rfl) rfl rfl rfl rfl rfl rfl (hF) ?_
  rintro _ Hl ⟨vr, rfl, hvr⟩ hlel
  refine DWf.call 7 rfl rfl rfl (by kernel_rfl) (by kernel_rfl) rfl rfl rfl rfl rfl rfl (spoilt_c hvr hok (by omega) (by omega) hs1 hs2 hs3 hs4) ?_
  rintro _ Ha ⟨va, wa, La, rfl, hva, hoka⟩ hlea
  have hva1 := hva.isSl.one1
  refine DWf.take rfl (by kernel_rfl) rfl rfl rfl (fun b11 => ?_)
  simp only [List.cons_append, List.nil_append]
  (first | refine DW.storeB 9 rfl (by kernel_rfl) rfl rfl rfl rfl (by first | rfl | (simp [allOne, cellsL, one1]; done) | (simp [allOne, cellsL, one1]; first | assumption | (refine ⟨?_, ?_⟩ <;> assumption))) rfl ?_ | refine DW.storeB1 9 rfl (by kernel_rfl) rfl rfl rfl (by first | rfl | exact IsSl.one1 (by assumption) | exact IsSl.one1 (SliceRep.isSl (by assumption))) rfl rfl ?_)
  refine DW.done (by kernel_rfl) ?_
  have hS2 := spoilt_c (pw := wa) (sw := t1) (si := t2) (sk := t3) (sb := t4) hva hoka (by omega) (by omega) ht1 ht2 ht3 ht4
  repeat (first | refine a1 ?_ | refine a3 ?_ | refine a4 ?_ | refine a5 ?_ | refine a6 ?_ | refine s_loadBs ?_ | refine s_loadHs ?_ | refine s_rem ?_ | refine s_convI ?_ | refine s_indexArrT ?_ | refine s_indexArrB ?_ | refine a7 ?_ | refine a8 ?_ | refine a9 ?_ | refine RW.storeR rfl rfl rfl rfl (by first | rfl | (simp [allOne, cellsL, one1]; done) | (simp [allOne, cellsL, one1]; first | assumption | (refine ⟨?_, ?_⟩ <;> assumption))) rfl ?_ | refine a10 ?_ | refine RW.storeR1 rfl rfl (by first | rfl | exact IsSl.one1 (by assumption) | exact IsSl.one1 (SliceRep.isSl (by assumption))) rfl rfl ?_)
  refine RW.q (QV.loadBm (c := [.int .u8 t1, .int .u8 t2, .int .u8 t3, .int .i8 t4]) rfl end8) rfl rfl ?_
  repeat (first | refine a1 ?_ | refine a3 ?_ | refine a4 ?_ | refine a5 ?_ | refine a6 ?_ | refine s_loadBs ?_ | refine s_loadHs ?_ | refine s_rem ?_ | refine s_convI ?_ | refine s_indexArrT ?_ | refine s_indexArrB ?_ | refine a7 ?_ | refine a8 ?_ | refine a9 ?_ | refine RW.storeR rfl rfl rfl rfl (by first | rfl | (simp [allOne, cellsL, one1]; done) | (simp [allOne, cellsL, one1]; first | assumption | (refine ⟨?_, ?_⟩ <;> assumption))) rfl ?_ | refine a10 ?_ | refine RW.storeR1 rfl rfl (by first | rfl | exact IsSl.one1 (by assumption) | exact IsSl.one1 (SliceRep.isSl (by assumption))) rfl rfl ?_)
  refine RW.call rfl (hS2) rfl rfl ?_
  rintro _ Hb ⟨vb, wb, Lb, rfl, hvb, hokb⟩ hleb
  have hvb1 := hvb.isSl.one1
  repeat (first | refine a1 ?_ | refine a3 ?_ | refine a4 ?_ | refine a5 ?_ | refine a6 ?_ | refine s_loadBs ?_ | refine s_loadHs ?_ | refine s_rem ?_ | refine s_convI ?_ | refine s_indexArrT ?_ | refine s_indexArrB ?_ | refine a7 ?_ | refine a8 ?_ | refine a9 ?_ | refine RW.storeR rfl rfl rfl rfl (by first | rfl | (simp [allOne, cellsL, one1]; done) | (simp [allOne, cellsL, one1]; first | assumption | (refine ⟨?_, ?_⟩ <;> assumption))) rfl ?_ | refine a10 ?_ | refine RW.storeR1 rfl rfl (by first | rfl | exact IsSl.one1 (by assumption) | exact IsSl.one1 (SliceRep.isSl (by assumption))) rfl rfl ?_)
  refine RW.alloc rfl rfl rfl (fun b12 => ?_)
  have hglb := (((hgl.mono hlep).mono hlel).mono hlea).mono hleb
  have hvpb := ((hvp.mono hlel).mono hlea).mono hleb
  have hvab := hva.mono hleb
  have hC1 := bcheck_c (N := (N : Int)) (w := wa) hglb hvpb hvab (by have := hoka.1; omega) (fun x hx => by have := (hoka.2 x hx).1; omega)
  have hC2 := rcheck_c (N := (N : Int)) (w := wa) hglb hvpb hvab (fun _ => by rw [Int.toNat_natCast]; omega)
  have hC3 := bcheck_c (N := (N : Int)) (w := wb) hglb hvpb hvb (by have := hokb.1; omega) (fun x hx => by have := (hokb.2 x hx).1; omega)
  have hC4 := rcheck_c (N := (N : Int)) (w := wb) hglb hvpb hvb (fun _ => by rw [Int.toNat_natCast]; omega)
  generalize checkR (N : Int) gl (potL (N : Int) gl) La wa = ca at hC1 hC2
  generalize checkR (N : Int) gl (potL (N : Int) gl) Lb wb = cb at hC3 hC4
  obtain ⟨ca1, ca2⟩ := ca
  obtain ⟨cb1, cb2⟩ := cb
  dsimp only at hC1 hC2 hC3 hC4
  repeat (first | refine a1 ?_ | refine a3 ?_ | refine a4 ?_ | refine a5 ?_ | refine a6 ?_ | refine s_loadBs ?_ | refine s_loadHs ?_ | refine s_rem ?_ | refine s_convI ?_ | refine s_indexArrT ?_ | refine s_indexArrB ?_ | refine a7 ?_ | refine a8 ?_ | refine a9 ?_ | refine RW.storeR rfl rfl rfl rfl (by first | rfl | (simp [allOne, cellsL, one1]; done) | (simp [allOne, cellsL, one1]; first | assumption | (refine ⟨?_, ?_⟩ <;> assumption))) rfl ?_ | refine a10 ?_ | refine RW.storeR1 rfl rfl (by first | rfl | exact IsSl.one1 (by assumption) | exact IsSl.one1 (SliceRep.isSl (by assumption))) rfl rfl ?_)
  refine RW.callV rfl (hC1) rfl rfl ?_
  rintro _ _ rfl
  repeat (first | refine a1 ?_ | refine a3 ?_ | refine a4 ?_ | refine a5 ?_ | refine a6 ?_ | refine s_loadBs ?_ | refine s_loadHs ?_ | refine s_rem ?_ | refine s_convI ?_ | refine s_indexArrT ?_ | refine s_indexArrB ?_ | refine a7 ?_ | refine a8 ?_ | refine a9 ?_ | refine RW.storeR rfl rfl rfl rfl (by first | rfl | (simp [allOne, cellsL, one1]; done) | (simp [allOne, cellsL, one1]; first | assumption | (refine ⟨?_, ?_⟩ <;> assumption))) rfl ?_ | refine a10 ?_ | refine RW.storeR1 rfl rfl (by first | rfl | exact IsSl.one1 (by assumption) | exact IsSl.one1 (SliceRep.isSl (by assumption))) rfl rfl ?_)
  refine RW.callV rfl (hC2) rfl rfl ?_
  rintro _ _ rfl
  repeat (first | refine a1 ?_ | refine a3 ?_ | refine a4 ?_ | refine a5 ?_ | refine a6 ?_ | refine s_loadBs ?_ | refine s_loadHs ?_ | refine s_rem ?_ | refine s_convI ?_ | refine s_indexArrT ?_ | refine s_indexArrB ?_ | refine a7 ?_ | refine a8 ?_ | refine a9 ?_ | refine RW.storeR rfl rfl rfl rfl (by first | rfl | (simp [allOne, cellsL, one1]; done) | (simp [allOne, cellsL, one1]; first | assumption | (refine ⟨?_, ?_⟩ <;> assumption))) rfl ?_ | refine a10 ?_ | refine RW.storeR1 rfl rfl (by first | rfl | exact IsSl.one1 (by assumption) | exact IsSl.one1 (SliceRep.isSl (by assumption))) rfl rfl ?_)
  refine RW.callV rfl (hC3) rfl rfl ?_
  rintro _ _ rfl
  repeat (first | refine a1 ?_ | refine a3 ?_ | refine a4 ?_ | refine a5 ?_ | refine a6 ?_ | refine s_loadBs ?_ | refine s_loadHs ?_ | refine s_rem ?_ | refine s_convI ?_ | refine s_indexArrT ?_ | refine s_indexArrB ?_ | refine a7 ?_ | refine a8 ?_ | refine a9 ?_ | refine RW.storeR rfl rfl rfl rfl (by first | rfl | (simp [allOne, cellsL, one1]; done) | (simp [allOne, cellsL, one1]; first | assumption | (refine ⟨?_, ?_⟩ <;> assumption))) rfl ?_ | refine a10 ?_ | refine RW.storeR1 rfl rfl (by first | rfl | exact IsSl.one1 (by assumption) | exact IsSl.one1 (SliceRep.isSl (by assumption))) rfl rfl ?_)
  refine RW.callV rfl (hC4) rfl rfl ?_
  rintro _ _ rfl
  repeat (first | refine a1 ?_ | refine a3 ?_ | refine a4 ?_ | refine a5 ?_ | refine a6 ?_ | refine s_loadBs ?_ | refine s_loadHs ?_ | refine s_rem ?_ | refine s_convI ?_ | refine s_indexArrT ?_ | refine s_indexArrB ?_ | refine a7 ?_ | refine a8 ?_ | refine a9 ?_ | refine RW.storeR rfl rfl rfl rfl (by first | rfl | (simp [allOne, cellsL, one1]; done) | (simp [allOne, cellsL, one1]; first | assumption | (refine ⟨?_, ?_⟩ <;> assumption))) rfl ?_ | refine a10 ?_ | refine RW.storeR1 rfl rfl (by first | rfl | exact IsSl.one1 (by assumption) | exact IsSl.one1 (SliceRep.isSl (by assumption))) rfl rfl ?_)
  rw [decide_eq_true (rfl : ca1 = ca1)]
  repeat (first | refine a1 ?_ | refine a3 ?_ | refine a4 ?_ | refine a5 ?_ | refine a6 ?_ | refine s_loadBs ?_ | refine s_loadHs ?_ | refine s_rem ?_ | refine s_convI ?_ | refine s_indexArrT ?_ | refine s_indexArrB ?_ | refine a7 ?_ | refine a8 ?_ | refine a9 ?_ | refine RW.storeR rfl rfl rfl rfl (by first | rfl | (simp [allOne, cellsL, one1]; done) | (simp [allOne, cellsL, one1]; first | assumption | (refine ⟨?_, ?_⟩ <;> assumption))) rfl ?_ | refine a10 ?_ | refine RW.storeR1 rfl rfl (by first | rfl | exact IsSl.one1 (by assumption) | exact IsSl.one1 (SliceRep.isSl (by assumption))) rfl rfl ?_)
  rw [decide_eq_true (rfl : ca2 = ca2)]
  repeat (first | refine a1 ?_ | refine a3 ?_ | refine a4 ?_ | refine a5 ?_ | refine a6 ?_ | refine s_loadBs ?_ | refine s_loadHs ?_ | refine s_rem ?_ | refine s_convI ?_ | refine s_indexArrT ?_ | refine s_indexArrB ?_ | refine a7 ?_ | refine a8 ?_ | refine a9 ?_ | refine RW.storeR rfl rfl rfl rfl (by first | rfl | (simp [allOne, cellsL, one1]; done) | (simp [allOne, cellsL, one1]; first | assumption | (refine ⟨?_, ?_⟩ <;> assumption))) rfl ?_ | refine a10 ?_ | refine RW.storeR1 rfl rfl (by first | rfl | exact IsSl.one1 (by assumption) | exact IsSl.one1 (SliceRep.isSl (by assumption))) rfl rfl ?_)
  rw [decide_eq_true (rfl : cb1 = cb1)]
  repeat (first | refine a1 ?_ | refine a3 ?_ | refine a4 ?_ | refine a5 ?_ | refine a6 ?_ | refine s_loadBs ?_ | refine s_loadHs ?_ | refine s_rem ?_ | refine s_convI ?_ | refine s_indexArrT ?_ | refine s_indexArrB ?_ | refine a7 ?_ | refine a8 ?_ | refine a9 ?_ | refine RW.storeR rfl rfl rfl rfl (by first | rfl | (simp [allOne, cellsL, one1]; done) | (simp [allOne, cellsL, one1]; first | assumption | (refine ⟨?_, ?_⟩ <;> assumption))) rfl ?_ | refine a10 ?_ | refine RW.storeR1 rfl rfl (by first | rfl | exact IsSl.one1 (by assumption) | exact IsSl.one1 (SliceRep.isSl (by assumption))) rfl rfl ?_)
  refine Runs.ret1 Try.func5 Try.results5 rfl (fun w hm => hR _ w _ Hb _ (by simp) (((((hleg.trans hlep).trans hlel).trans hlea).trans hleb)) ?_ hm)
  rw [decide_eq_true rfl]
end Go.Proofs.Ythlolpckgffebaa

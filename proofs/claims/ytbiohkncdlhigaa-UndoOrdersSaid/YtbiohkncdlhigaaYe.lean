/-
  Contract: two commits that can both be undone can be undone in either order. Conditions: bytes are bytes.
-/
import Derived.Test.YtbiohkncdlhigaaYe1
namespace Go.Proofs.Ytbiohkncdlhigaa
open Go Go.RowKit

set_option maxHeartbeats 8000000 in
theorem orders32_c {H : Snap} {v : Value} {l : List Rq} {wa wb : Int} (hv : SliceRep H RqL v l) (hx : ∀ x ∈ l, okRq x) (hwa : isByte wa) (hwb : isByte wb) : Pure Try.prog 6 #[v, .agg #[.int .u8 wa, .int .u8 wb]] H (fun _ r => r = .bool true) := by
  obtain ⟨hg, hml⟩ := madeP_good l (min l.length 14) (by omega)
  have hl2 := madeP_len l (min l.length 14)
  have hmc := madeP_c hv hx
  generalize madeP l (min l.length 14) = p at *
  refine Pure.intro Try.func6 rfl Try.ntmps6 rfl (fun E R hM hR => ?_)
  repeat (first | refine a4 ?_ | refine a6 ?_)
  refine RW.box rfl rfl rfl rfl (fun b3 => ?_)
  repeat (first | refine a1 ?_ | refine a4 ?_ | refine a5 ?_ | refine a6 ?_)
  refine RW.callV rfl (usanity_c (H := H)) rfl rfl ?_
  rintro _ _ rfl
  repeat (first | refine a1 ?_ | refine a4 ?_ | refine a5 ?_ | refine a6 ?_)
  refine RW.call rfl (hmc) rfl rfl ?_
  rintro _ H1 ⟨vd, vs, rfl, hd, hs⟩ hle1
  have ho1 := hd.isSl.one1
  have ho2 := hs.isSl.one1
  have hid := hd.isSl
  have his := hs.isSl
  have hsz : p.ss.length ≤ 50 := hg.sz
  refine RW.alloc rfl rfl rfl (fun b6 => ?_)
  repeat (first | refine a4 ?_ | refine a5 ?_ | refine a9 ?_)
  refine Runs.regionD _ _ [] (fun x hx => List.mem_cons_of_mem _ hx) (List.Sublist.refl _) (by kernel_rfl) ?_
  refine t_loadBs 0 ?_
  refine t_indexArrB 1 ?_
  refine t_loadB 2 ?_
  refine t_loadBs 4 ?_
  refine t_indexArrB 5 ?_
  refine t_loadB 6 ?_
  refine DW.callV 3 rfl (by kernel_rfl) rfl (chosen_c (H := H1) (n := wa) hd hs (by omega) hwa) rfl rfl ?_
  rintro _ _ rfl
  refine DW.callV 7 rfl (by kernel_rfl) rfl (chosen_c (H := H1) (n := wb) hd hs (by omega) hwb) rfl rfl ?_
  rintro _ _ rfl
  refine d1 8 2 ?_
  refine DW.done (by kernel_rfl) ?_
  repeat (first | refine a1 ?_ | refine a4 ?_ | refine a6 ?_)
  have hcA := chosen_ok (ss := p.ss) (n := wa)
  have hcB := chosen_ok (ss := p.ss) (n := wb)
  generalize chosenP p.ss wa = ci at *
  generalize chosenP p.ss wb = ck at *
  rcases hcA with rfl | hcA
  · repeat (first | refine a1 ?_ | refine a3 ?_ | refine a4 ?_ | refine a5 ?_ | refine a6 ?_ | refine a7 ?_)
    refine Runs.ret1 Try.func6 Try.results6 rfl (fun w hm => hR _ w _ H _ (List.mem_cons_self ..) (Snap.le.refl _) ?_ hm)
    rfl
  obtain ⟨i, si, rfl, hi, i0, iu⟩ := comB_some hcA
  rw [decide_eq_false (show ¬ (i : Int) < 0 by omega)]
  by_cases hik : (i : Int) = ck
  · repeat (first | refine a1 ?_ | refine a5 ?_)
    rw [decide_eq_true hik]
    repeat (first | refine a1 ?_ | refine a4 ?_ | refine a5 ?_ | refine a6 ?_ | refine a7 ?_)
    refine Runs.ret1 Try.func6 Try.results6 rfl (fun w hm => hR _ w _ H _ (List.mem_cons_self ..) (Snap.le.refl _) ?_ hm)
    rfl
  repeat (first | refine a1 ?_ | refine a5 ?_)
  rw [decide_eq_false hik]
  repeat (first | refine a4 ?_ | refine a8 ?_)
  have hcA := undE (H := H1) (p := p) (i := (i : Int)) hd hs hg
  have hcB := fun (HA : Snap) (hle : H1.le HA) => undE (H := HA) (p := p) (i := ck) (hd.mono hle) (hs.mono hle) hg
  refine Runs.joinF (α := Snap × Snap × (Value × Value × Value) × (Value × Value × Value) × Nat × Nat) (fun s => H1.le s.1 ∧ s.1.le s.2.1 ∧ UndR s.1 (.agg #[s.2.2.1.1, s.2.2.1.2.1, s.2.2.1.2.2, .int .i64 (undoP p (i : Int)).2.2]) (undoP p (i : Int)) ∧ UndR s.2.1 (.agg #[s.2.2.2.1.1, s.2.2.2.1.2.1, s.2.2.2.1.2.2, .int .i64 (undoP p ck).2.2]) (undoP p ck)) (fun s => [s.2.1, s.1, H1, H]) (fun s => [.blk s.2.2.2.2.1 40 [s.2.2.1.1, s.2.2.1.2.1, s.2.2.1.2.2, .int .i64 (undoP p (i : Int)).2.2], .blk b6 27 [vd, vs], .blk s.2.2.2.2.2 40 [s.2.2.2.1.1, s.2.2.2.1.2.1, s.2.2.2.1.2.2, .int .i64 (undoP p ck).2.2]]) (fun s => [(5, .bool true), (6, .pointer (some ⟨b6, 0, none⟩)), (7, .int .i64 (i : Int)), (8, .int .i64 ck), (9, .pointer (some ⟨s.2.2.2.2.1, 0, none⟩)), (10, .pointer (some ⟨s.2.2.2.2.2, 0, none⟩))]) (fun hj => ?_) ?_
  · skip
    refine Runs.regionD _ _ [] (fun x hx => List.mem_cons_of_mem _ hx) (List.Sublist.refl _) (by kernel_rfl) ?_
    refine t_loadBs 0 ?_
    refine d2 1 ?_
    refine t_loadBs 3 ?_
    refine d2 4 ?_
    refine DW.float 7 rfl rfl ?_
    refine DWf.h2 2 6 rfl rfl rfl rfl rfl rfl (by kernel_rfl) (by kernel_rfl) rfl rfl (HVf.callP rfl hcA) HVf.alloc rfl rfl rfl rfl (by rintro v Hs' O' ⟨H', _, _, rfl, rfl⟩ hsub w hm; exact hsub w (hm.sub (fun x hx => List.mem_cons_of_mem _ (List.mem_cons_of_mem _ hx)) (List.Sublist.refl _))) (by rintro v Hs' O' ⟨rfl, b', rfl, rfl⟩ hsub w hm; exact hsub w (hm.sub (fun x hx => List.mem_cons_of_mem _ hx) (List.sublist_cons_self _ _))) ?_ ?_
    · skip
      rintro _ _ _ ⟨HA, ⟨vdA, vsA, vlA, rfl, hdA, hsA, hlA⟩, hleA, rfl, rfl⟩
      have oA1 := hdA.isSl.one1
      have oA2 := hsA.isSl.one1
      have oA3 := hlA.isSl.one1
      refine DWf.h2 5 6 rfl rfl rfl rfl rfl rfl (by kernel_rfl) (by kernel_rfl) rfl rfl (HVf.callP rfl (hcB HA hleA)) HVf.alloc rfl rfl rfl rfl (by rintro v Hs' O' ⟨H', _, _, rfl, rfl⟩ hsub w hm; exact hsub w (hm.sub (fun x hx => List.mem_cons_of_mem _ (List.mem_cons_of_mem _ hx)) (List.Sublist.refl _))) (by rintro v Hs' O' ⟨rfl, b', rfl, rfl⟩ hsub w hm; exact hsub w (hm.sub (fun x hx => List.mem_cons_of_mem _ hx) (List.sublist_cons_self _ _))) ?_ ?_
      · skip
        rintro _ _ _ ⟨HB, ⟨vdB, vsB, vlB, rfl, hdB, hsB, hlB⟩, hleB, rfl, rfl⟩
        have oB1 := hdB.isSl.one1
        have oB2 := hsB.isSl.one1
        have oB3 := hlB.isSl.one1
        refine DWf.one 6 rfl rfl rfl rfl (by kernel_rfl) (by kernel_rfl) HVf.alloc rfl rfl rfl rfl (by rintro v Hs' O' ⟨rfl, b', rfl, rfl⟩ hsub w hm; exact hsub w (hm.sub (fun x hx => List.mem_cons_of_mem _ hx) (List.sublist_cons_self _ _))) ?_
        rintro _ _ _ ⟨rfl, bA, rfl, rfl⟩
        refine DWf.take rfl (by kernel_rfl) rfl rfl rfl (fun bB => ?_)
        simp only [List.cons_append, List.nil_append]
        refine DW.storeBS 8 rfl (by kernel_rfl) rfl rfl rfl (by simp [allOne, cellsL, one1]; exact ⟨oA1, oA2, oA3⟩) rfl inferInstance inferInstance ?_
        refine DW.storeBS 9 rfl (by kernel_rfl) rfl rfl rfl (by simp [allOne, cellsL, one1]; exact ⟨oB1, oB2, oB3⟩) rfl inferInstance inferInstance ?_
        refine DW.done (by kernel_rfl) ?_
        refine Runs.weak (hj (HA, HB, (vdA, vsA, vlA), (vdB, vsB, vlB), bA, bB) ⟨hleA, hleB, ⟨_, _, _, rfl, hdA, hsA, hlA⟩, ⟨_, _, _, rfl, hdB, hsB, hlB⟩⟩) (by repeat (first | exact trivial | refine And.intro rfl ?_)) (fun x hx => List.mem_cons_of_mem _ (SubH.h x hx)) (by repeat (first | exact List.nil_sublist _ | exact List.Sublist.refl _ | refine List.Sublist.cons_cons _ ?_ | refine List.Sublist.cons _ ?_))
      · skip
        rintro _ _ _ ⟨rfl, bA, rfl, rfl⟩
        refine DWf.one 5 rfl rfl rfl rfl (by kernel_rfl) (by kernel_rfl) (HVf.callP rfl (hcB HA hleA)) rfl rfl rfl rfl (by rintro v Hs' O' ⟨H', _, _, rfl, rfl⟩ hsub w hm; exact hsub w (hm.sub (fun x hx => List.mem_cons_of_mem _ (List.mem_cons_of_mem _ hx)) (List.Sublist.refl _))) ?_
        rintro _ _ _ ⟨HB, ⟨vdB, vsB, vlB, rfl, hdB, hsB, hlB⟩, hleB, rfl, rfl⟩
        have oB1 := hdB.isSl.one1
        have oB2 := hsB.isSl.one1
        have oB3 := hlB.isSl.one1
        refine DWf.take rfl (by kernel_rfl) rfl rfl rfl (fun bB => ?_)
        simp only [List.cons_append, List.nil_append]
        refine DW.storeBS 8 rfl (by kernel_rfl) rfl rfl rfl (by simp [allOne, cellsL, one1]; exact ⟨oA1, oA2, oA3⟩) rfl inferInstance inferInstance ?_
        refine DW.storeBS 9 rfl (by kernel_rfl) rfl rfl rfl (by simp [allOne, cellsL, one1]; exact ⟨oB1, oB2, oB3⟩) rfl inferInstance inferInstance ?_
        refine DW.done (by kernel_rfl) ?_
        refine Runs.weak (hj (HA, HB, (vdA, vsA, vlA), (vdB, vsB, vlB), bA, bB) ⟨hleA, hleB, ⟨_, _, _, rfl, hdA, hsA, hlA⟩, ⟨_, _, _, rfl, hdB, hsB, hlB⟩⟩) (by repeat (first | exact trivial | refine And.intro rfl ?_)) (fun x hx => List.mem_cons_of_mem _ (SubH.h x hx)) (by repeat (first | exact List.nil_sublist _ | exact List.Sublist.refl _ | refine List.Sublist.cons_cons _ ?_ | refine List.Sublist.cons _ ?_))
    · skip
      rintro _ _ _ ⟨rfl, bA, rfl, rfl⟩
      refine DWf.one 2 rfl rfl rfl rfl (by kernel_rfl) (by kernel_rfl) (HVf.callP rfl hcA) rfl rfl rfl rfl (by rintro v Hs' O' ⟨H', _, _, rfl, rfl⟩ hsub w hm; exact hsub w (hm.sub (fun x hx => List.mem_cons_of_mem _ (List.mem_cons_of_mem _ hx)) (List.Sublist.refl _))) ?_
      rintro _ _ _ ⟨HA, ⟨vdA, vsA, vlA, rfl, hdA, hsA, hlA⟩, hleA, rfl, rfl⟩
      have oA1 := hdA.isSl.one1
      have oA2 := hsA.isSl.one1
      have oA3 := hlA.isSl.one1
      refine DWf.one 5 rfl rfl rfl rfl (by kernel_rfl) (by kernel_rfl) (HVf.callP rfl (hcB HA hleA)) rfl rfl rfl rfl (by rintro v Hs' O' ⟨H', _, _, rfl, rfl⟩ hsub w hm; exact hsub w (hm.sub (fun x hx => List.mem_cons_of_mem _ (List.mem_cons_of_mem _ hx)) (List.Sublist.refl _))) ?_
      rintro _ _ _ ⟨HB, ⟨vdB, vsB, vlB, rfl, hdB, hsB, hlB⟩, hleB, rfl, rfl⟩
      have oB1 := hdB.isSl.one1
      have oB2 := hsB.isSl.one1
      have oB3 := hlB.isSl.one1
      refine DWf.take rfl (by kernel_rfl) rfl rfl rfl (fun bB => ?_)
      simp only [List.cons_append, List.nil_append]
      refine DW.storeBS 8 rfl (by kernel_rfl) rfl rfl rfl (by simp [allOne, cellsL, one1]; exact ⟨oA1, oA2, oA3⟩) rfl inferInstance inferInstance ?_
      refine DW.storeBS 9 rfl (by kernel_rfl) rfl rfl rfl (by simp [allOne, cellsL, one1]; exact ⟨oB1, oB2, oB3⟩) rfl inferInstance inferInstance ?_
      refine DW.done (by kernel_rfl) ?_
      refine Runs.weak (hj (HA, HB, (vdA, vsA, vlA), (vdB, vsB, vlB), bA, bB) ⟨hleA, hleB, ⟨_, _, _, rfl, hdA, hsA, hlA⟩, ⟨_, _, _, rfl, hdB, hsB, hlB⟩⟩) (by repeat (first | exact trivial | refine And.intro rfl ?_)) (fun x hx => List.mem_cons_of_mem _ (SubH.h x hx)) (by repeat (first | exact List.nil_sublist _ | exact List.Sublist.refl _ | refine List.Sublist.cons_cons _ ?_ | refine List.Sublist.cons _ ?_))
  rintro ⟨HA, HB, ⟨vdA, vsA, vlA⟩, ⟨vdB, vsB, vlB⟩, bA, bB⟩ ⟨hleA, hleB, hA, hB⟩
  dsimp only at hleA hleB hA hB ⊢
  obtain ⟨_, _, _, hveA, hdA, hsA, hlA⟩ := hA
  obtain ⟨_, _, _, hveB, hdB, hsB, hlB⟩ := hB
  cases hveA
  cases hveB
  have oA1 := hdA.isSl.one1
  have oA2 := hsA.isSl.one1
  have oA3 := hlA.isSl.one1
  have oB1 := hdB.isSl.one1
  have oB2 := hsB.isSl.one1
  have oB3 := hlB.isSl.one1
  by_cases eA : (undoP p (i : Int)).2.2 ≠ 0
  · repeat (first | refine a1 ?_ | refine a4 ?_ | refine a6 ?_ | refine s_loadB ?_ | refine s_fieldB ?_)
    rw [decide_eq_true eA]
    repeat (first | refine a1 ?_ | refine a3 ?_ | refine a4 ?_ | refine a5 ?_ | refine a6 ?_ | refine a7 ?_)
    refine Runs.ret1 Try.func6 Try.results6 rfl (fun w hm => hR _ w _ H _ (List.mem_cons_self ..) (Snap.le.refl _) ?_ hm)
    rfl
  by_cases eB : (undoP p ck).2.2 ≠ 0
  · repeat (first | refine a1 ?_ | refine a4 ?_ | refine a6 ?_ | refine s_loadB ?_ | refine s_fieldB ?_)
    rw [decide_eq_false eA]
    repeat (first | refine a1 ?_ | refine a5 ?_ | refine s_loadB ?_ | refine s_fieldB ?_)
    rw [decide_eq_true eB]
    repeat (first | refine a1 ?_ | refine a4 ?_ | refine a5 ?_ | refine a6 ?_ | refine a7 ?_)
    refine Runs.ret1 Try.func6 Try.results6 rfl (fun w hm => hR _ w _ H _ (List.mem_cons_self ..) (Snap.le.refl _) ?_ hm)
    rfl
  obtain ⟨i', si', hii, hi', _, _, hdi, hUA⟩ := undoP_ok eA
  obtain ⟨k, sk, rfl, hk, k0, ku, hdk, hUB⟩ := undoP_ok eB
  obtain rfl : i = i' := by omega
  rw [hi] at hi'
  injection hi' with hi'
  subst hi'
  have wi := (dep_nil rfl).1 hdi
  have wk := (dep_nil rfl).1 hdk
  obtain ⟨c, d, hc, hd2, hgc, hgd, hcl, hdl, hcs, hds, hdoc, heq⟩ := orders_ne hg (by omega) hi hk i0 iu k0 ku wi wk
  have gqa := undP_good hg hi i0 iu wi
  have gqb := undP_good hg hk k0 ku wk
  have la : (undP p i si).ds.length = 2 := by simp [undP, hl2]
  have lb : (undP p k sk).ds.length = 2 := by simp [undP, hl2]
  have sa : (undP p i si).ss.length = p.ss.length := undS_length hi
  have sb : (undP p k sk).ss.length = p.ss.length := undS_length hk
  rw [hUA] at hdA hsA hlA ⊢
  rw [hUB] at hdB hsB hlB ⊢
  dsimp only at hdA hsA hlA hdB hsB hlB ⊢
  generalize undP p i si = qa at *
  generalize undP p k sk = qb at *
  have iA := hdA.isSl
  have jA := hsA.isSl
  have iB := hdB.isSl
  have jB := hsB.isSl
  have zz : ∀ z : Int, decide (z ≠ z) = false := fun z => by simp
  have z2 : decide (((2 : Nat) : Int) ≠ 2) = false := by decide
  repeat (first | refine a1 ?_ | refine a4 ?_ | refine a5 ?_ | refine a6 ?_ | refine s_loadB ?_ | refine s_fieldB ?_ | refine s_len ?_ | refine a8 ?_)
  rw [sa, zz]
  repeat (first | refine a1 ?_ | refine s_loadB ?_ | refine s_fieldB ?_ | refine s_len ?_)
  rw [sb, zz]
  repeat (first | refine a1 ?_ | refine s_loadB ?_ | refine s_fieldB ?_ | refine s_len ?_)
  rw [la, z2]
  repeat (first | refine a1 ?_ | refine a5 ?_ | refine s_loadB ?_ | refine s_fieldB ?_ | refine s_len ?_)
  rw [lb, z2]
  repeat (first | refine a4 ?_ | refine a8 ?_)
  have hcA2 := undE (H := HB) (p := qa) (i := (k : Int)) (hdA.mono hleB) (hsA.mono hleB) gqa
  have hcB2 := fun (HX : Snap) (hle : HB.le HX) => undE (H := HX) (p := qb) (i := (i : Int)) (hdB.mono hle) (hsB.mono hle) gqb
  rw [hc] at hcA2
  rw [hd2] at hcB2
  refine Runs.joinF (α := Snap × Snap × (Value × Value × Value) × (Value × Value × Value) × Nat × Nat) (fun s => HB.le s.1 ∧ s.1.le s.2.1 ∧ UndR s.1 (.agg #[s.2.2.1.1, s.2.2.1.2.1, s.2.2.1.2.2, .int .i64 0]) (c, [], 0) ∧ UndR s.2.1 (.agg #[s.2.2.2.1.1, s.2.2.2.1.2.1, s.2.2.2.1.2.2, .int .i64 0]) (d, [], 0)) (fun s => [s.2.1, s.1, HB, H]) (fun s => [.blk s.2.2.2.2.1 40 [s.2.2.1.1, s.2.2.1.2.1, s.2.2.1.2.2, .int .i64 0], .blk b6 27 [vd, vs], .blk s.2.2.2.2.2 40 [s.2.2.2.1.1, s.2.2.2.1.2.1, s.2.2.2.1.2.2, .int .i64 0]]) (fun s => [(5, .bool true), (6, .pointer (some ⟨b6, 0, none⟩)), (11, .pointer (some ⟨s.2.2.2.2.1, 0, none⟩)), (12, .pointer (some ⟨s.2.2.2.2.2, 0, none⟩))]) (fun hj => ?_) ?_
  · skip
    refine Runs.regionD _ _ [] (fun x hx => List.mem_cons_of_mem _ hx) (List.Sublist.refl _) (by kernel_rfl) ?_
    refine t_fieldB 0 ?_
    refine DW.q 1 rfl (by kernel_rfl) (QV.loadBp (c := [vdA, vsA]) rfl past4) rfl rfl ?_
    refine d2 2 ?_
    refine t_fieldB 4 ?_
    refine DW.q 5 rfl (by kernel_rfl) (QV.loadBp (c := [vdB, vsB]) rfl past4) rfl rfl ?_
    refine d2 6 ?_
    refine DW.float 9 rfl rfl ?_
    refine DWf.h2 3 8 rfl rfl rfl rfl rfl rfl (by kernel_rfl) (by kernel_rfl) rfl rfl (HVf.callP rfl hcA2) HVf.alloc rfl rfl rfl rfl (by rintro v Hs' O' ⟨H', _, _, rfl, rfl⟩ hsub w hm; exact hsub w (hm.sub (fun x hx => List.mem_cons_of_mem _ (List.mem_cons_of_mem _ hx)) (List.Sublist.refl _))) (by rintro v Hs' O' ⟨rfl, b', rfl, rfl⟩ hsub w hm; exact hsub w (hm.sub (fun x hx => List.mem_cons_of_mem _ hx) (List.sublist_cons_self _ _))) ?_ ?_
    · skip
      rintro _ _ _ ⟨HA, ⟨vdA, vsA, vlA, rfl, hdA, hsA, hlA⟩, hleA, rfl, rfl⟩
      have oA1 := hdA.isSl.one1
      have oA2 := hsA.isSl.one1
      have oA3 := hlA.isSl.one1
      refine DWf.h2 7 8 rfl rfl rfl rfl rfl rfl (by kernel_rfl) (by kernel_rfl) rfl rfl (HVf.callP rfl (hcB2 HA hleA)) HVf.alloc rfl rfl rfl rfl (by rintro v Hs' O' ⟨H', _, _, rfl, rfl⟩ hsub w hm; exact hsub w (hm.sub (fun x hx => List.mem_cons_of_mem _ (List.mem_cons_of_mem _ hx)) (List.Sublist.refl _))) (by rintro v Hs' O' ⟨rfl, b', rfl, rfl⟩ hsub w hm; exact hsub w (hm.sub (fun x hx => List.mem_cons_of_mem _ hx) (List.sublist_cons_self _ _))) ?_ ?_
      · skip
        rintro _ _ _ ⟨HB, ⟨vdB, vsB, vlB, rfl, hdB, hsB, hlB⟩, hleB, rfl, rfl⟩
        have oB1 := hdB.isSl.one1
        have oB2 := hsB.isSl.one1
        have oB3 := hlB.isSl.one1
        refine DWf.one 8 rfl rfl rfl rfl (by kernel_rfl) (by kernel_rfl) HVf.alloc rfl rfl rfl rfl (by rintro v Hs' O' ⟨rfl, b', rfl, rfl⟩ hsub w hm; exact hsub w (hm.sub (fun x hx => List.mem_cons_of_mem _ hx) (List.sublist_cons_self _ _))) ?_
        rintro _ _ _ ⟨rfl, bA, rfl, rfl⟩
        refine DWf.take rfl (by kernel_rfl) rfl rfl rfl (fun bB => ?_)
        simp only [List.cons_append, List.nil_append]
        refine DW.storeBS 10 rfl (by kernel_rfl) rfl rfl rfl (by simp [allOne, cellsL, one1]; exact ⟨oA1, oA2, oA3⟩) rfl inferInstance inferInstance ?_
        refine DW.storeBS 11 rfl (by kernel_rfl) rfl rfl rfl (by simp [allOne, cellsL, one1]; exact ⟨oB1, oB2, oB3⟩) rfl inferInstance inferInstance ?_
        refine DW.done (by kernel_rfl) ?_
        refine Runs.weak (hj (HA, HB, (vdA, vsA, vlA), (vdB, vsB, vlB), bA, bB) ⟨hleA, hleB, ⟨_, _, _, rfl, hdA, hsA, hlA⟩, ⟨_, _, _, rfl, hdB, hsB, hlB⟩⟩) (by repeat (first | exact trivial | refine And.intro rfl ?_)) (fun x hx => List.mem_cons_of_mem _ (SubH.h x hx)) (by repeat (first | exact List.nil_sublist _ | exact List.Sublist.refl _ | refine List.Sublist.cons_cons _ ?_ | refine List.Sublist.cons _ ?_))
      · skip
        rintro _ _ _ ⟨rfl, bA, rfl, rfl⟩
        refine DWf.one 7 rfl rfl rfl rfl (by kernel_rfl) (by kernel_rfl) (HVf.callP rfl (hcB2 HA hleA)) rfl rfl rfl rfl (by rintro v Hs' O' ⟨H', _, _, rfl, rfl⟩ hsub w hm; exact hsub w (hm.sub (fun x hx => List.mem_cons_of_mem _ (List.mem_cons_of_mem _ hx)) (List.Sublist.refl _))) ?_
        rintro _ _ _ ⟨HB, ⟨vdB, vsB, vlB, rfl, hdB, hsB, hlB⟩, hleB, rfl, rfl⟩
        have oB1 := hdB.isSl.one1
        have oB2 := hsB.isSl.one1
        have oB3 := hlB.isSl.one1
        refine DWf.take rfl (by kernel_rfl) rfl rfl rfl (fun bB => ?_)
        simp only [List.cons_append, List.nil_append]
        refine DW.storeBS 10 rfl (by kernel_rfl) rfl rfl rfl (by simp [allOne, cellsL, one1]; exact ⟨oA1, oA2, oA3⟩) rfl inferInstance inferInstance ?_
        refine DW.storeBS 11 rfl (by kernel_rfl) rfl rfl rfl (by simp [allOne, cellsL, one1]; exact ⟨oB1, oB2, oB3⟩) rfl inferInstance inferInstance ?_
        refine DW.done (by kernel_rfl) ?_
        refine Runs.weak (hj (HA, HB, (vdA, vsA, vlA), (vdB, vsB, vlB), bA, bB) ⟨hleA, hleB, ⟨_, _, _, rfl, hdA, hsA, hlA⟩, ⟨_, _, _, rfl, hdB, hsB, hlB⟩⟩) (by repeat (first | exact trivial | refine And.intro rfl ?_)) (fun x hx => List.mem_cons_of_mem _ (SubH.h x hx)) (by repeat (first | exact List.nil_sublist _ | exact List.Sublist.refl _ | refine List.Sublist.cons_cons _ ?_ | refine List.Sublist.cons _ ?_))
    · skip
      rintro _ _ _ ⟨rfl, bA, rfl, rfl⟩
      refine DWf.one 3 rfl rfl rfl rfl (by kernel_rfl) (by kernel_rfl) (HVf.callP rfl hcA2) rfl rfl rfl rfl (by rintro v Hs' O' ⟨H', _, _, rfl, rfl⟩ hsub w hm; exact hsub w (hm.sub (fun x hx => List.mem_cons_of_mem _ (List.mem_cons_of_mem _ hx)) (List.Sublist.refl _))) ?_
      rintro _ _ _ ⟨HA, ⟨vdA, vsA, vlA, rfl, hdA, hsA, hlA⟩, hleA, rfl, rfl⟩
      have oA1 := hdA.isSl.one1
      have oA2 := hsA.isSl.one1
      have oA3 := hlA.isSl.one1
      refine DWf.one 7 rfl rfl rfl rfl (by kernel_rfl) (by kernel_rfl) (HVf.callP rfl (hcB2 HA hleA)) rfl rfl rfl rfl (by rintro v Hs' O' ⟨H', _, _, rfl, rfl⟩ hsub w hm; exact hsub w (hm.sub (fun x hx => List.mem_cons_of_mem _ (List.mem_cons_of_mem _ hx)) (List.Sublist.refl _))) ?_
      rintro _ _ _ ⟨HB, ⟨vdB, vsB, vlB, rfl, hdB, hsB, hlB⟩, hleB, rfl, rfl⟩
      have oB1 := hdB.isSl.one1
      have oB2 := hsB.isSl.one1
      have oB3 := hlB.isSl.one1
      refine DWf.take rfl (by kernel_rfl) rfl rfl rfl (fun bB => ?_)
      simp only [List.cons_append, List.nil_append]
      refine DW.storeBS 10 rfl (by kernel_rfl) rfl rfl rfl (by simp [allOne, cellsL, one1]; exact ⟨oA1, oA2, oA3⟩) rfl inferInstance inferInstance ?_
      refine DW.storeBS 11 rfl (by kernel_rfl) rfl rfl rfl (by simp [allOne, cellsL, one1]; exact ⟨oB1, oB2, oB3⟩) rfl inferInstance inferInstance ?_
      refine DW.done (by kernel_rfl) ?_
      refine Runs.weak (hj (HA, HB, (vdA, vsA, vlA), (vdB, vsB, vlB), bA, bB) ⟨hleA, hleB, ⟨_, _, _, rfl, hdA, hsA, hlA⟩, ⟨_, _, _, rfl, hdB, hsB, hlB⟩⟩) (by repeat (first | exact trivial | refine And.intro rfl ?_)) (fun x hx => List.mem_cons_of_mem _ (SubH.h x hx)) (by repeat (first | exact List.nil_sublist _ | exact List.Sublist.refl _ | refine List.Sublist.cons_cons _ ?_ | refine List.Sublist.cons _ ?_))
  rintro ⟨HC, HD, ⟨vdC, vsC, vlC⟩, ⟨vdD, vsD, vlD⟩, bC, bD⟩ ⟨hleC, hleD, hC, hD⟩
  dsimp only at hleC hleD hC hD ⊢
  obtain ⟨_, _, _, hveC, hdC, hsC, hlC⟩ := hC
  obtain ⟨_, _, _, hveD, hdD, hsD, hlD⟩ := hD
  cases hveC
  cases hveD
  dsimp only at hdC hsC hlC hdD hsD hlD
  have oC1 := hdC.isSl.one1
  have oC2 := hsC.isSl.one1
  have oD1 := hdD.isSl.one1
  have oD2 := hsD.isSl.one1
  have iC := hdC.isSl
  have jC := hsC.isSl
  have iD := hdD.isSl
  have jD := hsD.isSl
  rw [hl2] at hcl hdl hdoc
  repeat (first | refine a1 ?_ | refine a4 ?_ | refine a6 ?_ | refine s_loadB ?_ | refine s_fieldB ?_ | refine s_len ?_)
  rw [hcl, z2]
  repeat (first | refine a1 ?_ | refine s_loadB ?_ | refine s_fieldB ?_ | refine s_len ?_)
  rw [hdl, z2]
  repeat (first | refine a1 ?_ | refine s_loadB ?_ | refine s_fieldB ?_ | refine s_len ?_)
  rw [hcs, zz]
  repeat (first | refine a1 ?_ | refine a5 ?_ | refine s_loadB ?_ | refine s_fieldB ?_ | refine s_len ?_)
  rw [hds, zz]
  repeat (first | refine a1 ?_ | refine a4 ?_ | refine a5 ?_ | refine a6 ?_ | refine a8 ?_)
  refine Runs.loop (fun b : Nat => b ≤ 2) (fun b => 2 - b) (fun _ => [HD, HC, H]) (fun _ => [.blk bC 40 [vdC, vsC, vlC, .int .i64 0], .blk b6 27 [vd, vs], .blk bD 40 [vdD, vsD, vlD, .int .i64 0]]) (fun b => [(5, .bool true), (6, .pointer (some ⟨b6, 0, none⟩)), (11, .pointer (some ⟨bC, 0, none⟩)), (12, .pointer (some ⟨bD, 0, none⟩)), (13, .int .i64 (b : Int))]) 0 (by omega) (fun h => by
    refine Runs.weak (h) (by repeat (first | exact trivial | refine And.intro rfl ?_)) (fun x hx => List.mem_cons_of_mem _ (SubH.h x hx)) (by repeat (first | exact List.nil_sublist _ | exact List.Sublist.refl _ | refine List.Sublist.cons_cons _ ?_ | refine List.Sublist.cons _ ?_))) ?_
  intro b hb ih
  repeat (first | refine a1 ?_ | refine a4 ?_ | refine a5 ?_ | refine a6 ?_)
  refine Runs.cond_d rfl (fun hlt => ?_) (fun hlt => ?_)
  · obtain ⟨x, hx1⟩ : ∃ x, c.ds[b]? = some x := ⟨_, List.getElem?_eq_getElem (by omega)⟩
    have hx2 := hdoc b (by omega)
    rw [hx1] at hx2
    obtain ⟨vx, hvx, hcx⟩ := hdC.dc hx1
    obtain ⟨vy, hvy, hcy⟩ := hdD.dc hx2.symm
    repeat (refine a4 ?_)
    refine Runs.regionD _ _ [] (fun x hx => List.mem_cons_of_mem _ hx) (List.Sublist.refl _) (by kernel_rfl) ?_
    refine t_fieldB 0 ?_
    refine t_fieldB 1 ?_
    refine t_loadB 2 ?_
    refine d2 3 ?_
    refine t_index 4 ?_
    refine t_loadHs 5 ?_
    refine t_fieldB 6 ?_
    refine t_fieldB 7 ?_
    refine t_loadB 8 ?_
    refine d2 9 ?_
    refine t_index 10 ?_
    refine t_loadHs 11 ?_
    refine DW.callV 12 rfl (by kernel_rfl) rfl (same_c (H := HD) (a := x) (b := x) ⟨vx, rfl, hvx.mono hleD⟩ ⟨vy, rfl, hvy⟩) rfl rfl ?_
    rintro _ _ rfl
    rw [decide_eq_true (show x = x from rfl)]
    refine d2 13 ?_
    refine DW.done (by kernel_rfl) ?_
    repeat (first | refine a1 ?_ | refine a4 ?_ | refine a5 ?_ | refine a6 ?_ | refine s_addI ?_ | refine a8 ?_)
    refine Runs.weak (ih (b + 1) (by omega) (by omega)) (by repeat (first | exact trivial | refine And.intro rfl ?_)) (fun x hx => List.mem_cons_of_mem _ (SubH.h x hx)) (by repeat (first | exact List.nil_sublist _ | exact List.Sublist.refl _ | refine List.Sublist.cons_cons _ ?_ | refine List.Sublist.cons _ ?_))
  · repeat (first | refine a1 ?_ | refine a4 ?_ | refine a5 ?_ | refine a6 ?_)
    refine Runs.loop (fun j : Nat => j ≤ p.ss.length) (fun j => p.ss.length - j) (fun _ => [HD, HC, H]) (fun _ => [.blk bC 40 [vdC, vsC, vlC, .int .i64 0], .blk b6 27 [vd, vs], .blk bD 40 [vdD, vsD, vlD, .int .i64 0]]) (fun j => [(5, .bool true), (6, .pointer (some ⟨b6, 0, none⟩)), (11, .pointer (some ⟨bC, 0, none⟩)), (12, .pointer (some ⟨bD, 0, none⟩)), (14, .int .i64 (j : Int))]) 0 (by omega) (fun h => by
      refine Runs.weak (h) (by repeat (first | exact trivial | refine And.intro rfl ?_)) (fun x hx => List.mem_cons_of_mem _ (SubH.h x hx)) (by repeat (first | exact List.nil_sublist _ | exact List.Sublist.refl _ | refine List.Sublist.cons_cons _ ?_ | refine List.Sublist.cons _ ?_))) ?_
    intro j hj ih2
    repeat (first | refine a1 ?_ | refine a4 ?_ | refine a5 ?_ | refine a6 ?_ | refine s_loadB ?_ | refine s_fieldB ?_ | refine s_len ?_)
    refine Runs.cond_d rfl (fun hlt2 => ?_) (fun hlt2 => ?_)
    · obtain ⟨x, hx1⟩ : ∃ x, c.ss[j]? = some x := ⟨_, List.getElem?_eq_getElem (by omega)⟩
      obtain ⟨y, hy1⟩ : ∃ y, d.ss[j]? = some y := ⟨_, List.getElem?_eq_getElem (by omega)⟩
      obtain ⟨e1, e2, e3, e4⟩ := heq j x y hx1 hy1
      have hx8 := hsC.st hx1
      have hy8 := hsD.st hy1
      repeat (refine a4 ?_)
      refine Runs.regionD _ _ [] (fun x hx => List.mem_cons_of_mem _ hx) (List.Sublist.refl _) (by kernel_rfl) ?_
      refine t_fieldB 0 ?_
      refine t_fieldB 1 ?_
      refine t_loadB 2 ?_
      refine d2 3 ?_
      refine t_index 4 ?_
      refine t_loadHs 5 ?_
      refine t_fieldB 6 ?_
      refine t_fieldB 7 ?_
      refine t_loadB 8 ?_
      refine d2 9 ?_
      refine t_index 10 ?_
      refine t_loadHs 11 ?_
      refine DW.float 13 rfl rfl ?_
      refine DWf.alloc 12 rfl rfl rfl (by kernel_rfl) (by kernel_rfl) rfl rfl rfl rfl rfl rfl (fun b15 => ?_)
      refine DWf.take rfl (by kernel_rfl) rfl rfl rfl (fun b16 => ?_)
      simp only [List.cons_append, List.nil_append]
      refine DW.storeBS 14 rfl (by kernel_rfl) rfl rfl rfl rfl rfl inferInstance inferInstance ?_
      refine DW.storeBS 15 rfl (by kernel_rfl) rfl rfl rfl rfl rfl inferInstance inferInstance ?_
      refine DW.done (by kernel_rfl) ?_
      repeat (first | refine a1 ?_ | refine a4 ?_ | refine a6 ?_ | refine s_loadB ?_ | refine s_fieldB ?_)
      rw [e1, zz]
      repeat (first | refine a1 ?_ | refine s_loadB ?_ | refine s_fieldB ?_)
      rw [e2, zz]
      repeat (first | refine a1 ?_ | refine s_loadB ?_ | refine s_fieldB ?_ | refine s_neqB ?_)
      cases hxu : x.un with
      | true =>
        rw [hxu] at e3
        rw [← e3]
        repeat (first | refine a1 ?_ | refine a3 ?_ | refine a4 ?_ | refine a5 ?_ | refine a6 ?_ | refine s_loadB ?_ | refine s_fieldB ?_ | refine s_addI ?_ | refine a8 ?_)
        refine Runs.weak (ih2 (j + 1) (by omega) (by omega)) (by repeat (first | exact trivial | refine And.intro rfl ?_)) (fun x hx => List.mem_cons_of_mem _ (SubH.h x hx)) (by repeat (first | exact List.nil_sublist _ | exact List.Sublist.refl _ | refine List.Sublist.cons_cons _ ?_ | refine List.Sublist.cons _ ?_))
      | false =>
        have hee := e4 hxu
        rw [hxu] at e3
        rw [← e3]
        repeat (first | refine a1 ?_ | refine s_loadB ?_ | refine s_fieldB ?_)
        refine RW.q (QV.loadBp (c := edC x.e) rfl tail8) rfl rfl ?_
        repeat (refine s_fieldB ?_)
        refine RW.q (QV.loadBp (c := edC y.e) rfl tail8) rfl rfl ?_
        refine RW.q (QF.neqEd (a := x.e) (b := y.e) rfl rfl).qv rfl rfl ?_
        rw [decide_eq_false (show ¬ (x.e ≠ y.e) from not_not_intro hee)]
        repeat (first | refine a1 ?_ | refine a4 ?_ | refine a5 ?_ | refine a6 ?_ | refine s_addI ?_ | refine a8 ?_)
        refine Runs.weak (ih2 (j + 1) (by omega) (by omega)) (by repeat (first | exact trivial | refine And.intro rfl ?_)) (fun x hx => List.mem_cons_of_mem _ (SubH.h x hx)) (by repeat (first | exact List.nil_sublist _ | exact List.Sublist.refl _ | refine List.Sublist.cons_cons _ ?_ | refine List.Sublist.cons _ ?_))
    · repeat (first | refine a1 ?_ | refine a4 ?_ | refine a5 ?_ | refine a6 ?_)
      refine Runs.ret1 Try.func6 Try.results6 rfl (fun w hm => hR _ w _ H _ (List.mem_cons_self ..) (Snap.le.refl _) ?_ hm)
      rfl
end Go.Proofs.Ytbiohkncdlhigaa

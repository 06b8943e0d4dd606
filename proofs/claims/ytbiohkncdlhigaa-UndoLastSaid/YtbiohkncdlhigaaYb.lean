/-
  Contract: after undoing, each document is what its steps make of the empty document; only the step was undone. Conditions: bytes are bytes.
-/
import Derived.Test.YtbiohkncdlhigaaMUx
namespace Go.Proofs.Ytbiohkncdlhigaa
open Go Go.RowKit

/-- What undoing a commit of a good past answers. -/
theorem undoP_cases {p : Pst} {k : Nat} {s : Stp} (hsk : p.ss[k]? = some s) (hs0 : 0 ≤ s.id) (hsu : s.un = false) :
    (depL s.app (k + 1) (markS s) (p.ss.drop (k + 1)) = [] ∧ undoP p (k : Int) = (undP p k s, [], 0)) ∨ (depL s.app (k + 1) (markS s) (p.ss.drop (k + 1)) ≠ [] ∧ undoP p (k : Int) = (nilP, depL s.app (k + 1) (markS s) (p.ss.drop (k + 1)), 320)) := by
  by_cases hdn : depL s.app (k + 1) (markS s) (p.ss.drop (k + 1)) = []
  · refine .inl ⟨hdn, ?_⟩
    unfold undoP
    rw [comB_iff hsk, decide_eq_true hs0, hsu, Int.toNat_natCast, hsk]
    simp only [Bool.not_false, Bool.and_self, if_true]
    rw [if_pos hdn]
  · refine .inr ⟨hdn, ?_⟩
    unfold undoP
    rw [comB_iff hsk, decide_eq_true hs0, hsu, Int.toNat_natCast, hsk]
    simp only [Bool.not_false, Bool.and_self, if_true]
    rw [if_neg hdn]
/-- A step behind an undoing. -/
theorem undS_at {ss : List Stp} {i : Nat} {s : Stp} (hs : ss[i]? = some s) (hsu : s.un = false) {j : Nat} {u : Stp} (hu : ss[j]? = some u) : ∃ t, (undS ss i s)[j]? = some t ∧ t.app = u.app ∧ t.id = u.id ∧ t.e.k = u.e.k ∧ t.e.tx = u.e.tx ∧ t.un = (u.un || decide ((j : Int) = (i : Int))) ∧ (j ≤ i ∨ u.app ≠ s.app → t.e = u.e) := by
  have hl := undS_length (i := i) hs
  have hj := (List.getElem?_eq_some_iff.1 hu).1
  obtain ⟨t, ht⟩ : ∃ t, (undS ss i s)[j]? = some t := ⟨_, List.getElem?_eq_getElem (by omega)⟩
  obtain ⟨u', g1, g2, g3, g4, g5, g6, g7, g8⟩ := undS_get hs ht
  rw [hu] at g1
  injection g1 with g1
  subst g1
  refine ⟨t, ht, g2, g3, g4, g5, ?_, fun h => ?_⟩
  · by_cases c : j = i
    · subst c
      rw [g7 rfl, decide_eq_true rfl]
      simp
    · rw [g6 c, decide_eq_false (by omega)]
      simp
  · by_cases c : j = i
    · subst c
      rw [hu] at hs
      injection hs with hs
      subst hs
      rw [g7 rfl]
    · exact g8 (by rcases h with h | h; exact .inl (by omega); exact .inr (.inl h))
theorem tail8 {a b c d e f g h : Value} : ∀ (j : Nat) (u : Value), [c, d, e, f, g][j]? = some u → [a, b, c, d, e, f, g, h][2 + j]? = some u
  | 0, _, h => h
  | 1, _, h => h
  | 2, _, h => h
  | 3, _, h => h
  | 4, _, h => h
  | _ + 5, _, h => by simp at h
set_option maxHeartbeats 4000000 in
theorem replays_c {H : Snap} {v : Value} {l : List Rq} {n : Int} (hv : SliceRep H RqL v l) (hx : ∀ x ∈ l, okRq x) (hn : isByte n) : Pure Try.prog 4 #[v, .int .u8 n] H (fun _ r => r = .bool true) := by
  obtain ⟨hg, hml⟩ := madeP_good l (min l.length 14) (by omega)
  have hl2 := madeP_len l (min l.length 14)
  have hmc := madeP_c hv hx
  generalize madeP l (min l.length 14) = p at *
  refine Pure.intro Try.func4 rfl Try.ntmps4 rfl (fun E R hM hR => ?_)
  repeat (first | refine a1 ?_ | refine a4 ?_ | refine a5 ?_ | refine a6 ?_)
  refine RW.callV rfl (usanity_c (H := H)) rfl rfl ?_
  rintro _ _ rfl
  repeat (first | refine a1 ?_ | refine a4 ?_ | refine a5 ?_ | refine a6 ?_)
  refine RW.call rfl (hmc) rfl rfl ?_
  rintro _ H1 ⟨vd, vs, rfl, hd, hs⟩ hle1
  have ho1 := hd.isSl.one1
  have ho2 := hs.isSl.one1
  have hid := hd.isSl
  have his := hs.isSl
  have hsz : p.ss.length ≤ 50 := hg.sz
  refine RW.alloc rfl rfl rfl (fun b6 => ?_)
  repeat (first | refine a1 ?_ | refine a4 ?_ | refine a5 ?_ | refine a6 ?_ | refine s_loadBs ?_ | refine a9 ?_)
  refine RW.callV rfl (chosen_c (H := H1) (n := n) hd hs (by omega) hn) rfl rfl ?_
  rintro _ _ rfl
  repeat (first | refine a1 ?_ | refine a4 ?_ | refine a5 ?_ | refine a6 ?_)
  rcases chosen_ok (ss := p.ss) (n := n) with hch | hch
  · rw [hch]
    repeat (first | refine a1 ?_ | refine a4 ?_ | refine a5 ?_ | refine a6 ?_ | refine a7 ?_)
    refine Runs.ret1 Try.func4 Try.results4 rfl (fun w hm => hR _ w _ H _ (List.mem_cons_self ..) (Snap.le.refl _) ?_ hm)
    rfl
  obtain ⟨k, s, hk, hsk, hs0, hsu⟩ := comB_some hch
  rw [hk]
  have hkl := (List.getElem?_eq_some_iff.1 hsk).1
  have hs8 := hs.st hsk
  obtain ⟨ha0, ha1⟩ := hg.app s (List.mem_of_getElem? hsk)
  obtain ⟨a, ha⟩ : ∃ a : Nat, s.app = (a : Int) := ⟨s.app.toNat, by omega⟩
  repeat (first | refine a1 ?_ | refine a4 ?_ | refine a6 ?_ | refine s_loadBs ?_ | refine a8 ?_)
  refine RW.call rfl (undE (H := H1) (p := p) (i := (k : Int)) hd hs hg) rfl rfl ?_
  rintro _ H2 ⟨vd2, vs2, vl2, rfl, hd2, hs2, hl2'⟩ hle2
  have o1 := hd2.isSl.one1
  have o2 := hs2.isSl.one1
  have o3 := hl2'.isSl.one1
  have i2 := hd2.isSl
  have j2 := hs2.isSl
  refine RW.alloc rfl rfl rfl (fun b8 => ?_)
  refine RW.storeB rfl rfl rfl (by simp [allOne, cellsL, one1]; exact ⟨o1, o2, o3⟩) rfl ?_
  repeat (first | refine a1 ?_ | refine a4 ?_ | refine a5 ?_ | refine a6 ?_ | refine s_fieldB ?_ | refine s_loadB ?_)
  rcases undoP_cases hsk hs0 hsu with ⟨hdn, hun⟩ | ⟨hdn, hun⟩
  · have hw : allW s.app (markS s) (p.ss.drop (k + 1)) := (dep_nil rfl).1 hdn
    have hgq := undP_good hg hsk hs0 hsu hw
    have hat := fun {j : Nat} {u : Stp} => undS_at (j := j) (u := u) hsk hsu
    have hql : (undP p k s).ds.length = 2 := by simp [undP, hl2]
    have hqs : (undP p k s).ss.length = p.ss.length := undS_length hsk
    have hqd : ∀ b : Nat, (b : Int) ≠ s.app → (undP p k s).ds[b]? = p.ds[b]? := by
      intro b hb
      unfold undP
      rw [List.getElem?_set_ne (by omega)]
    have hqe : (undP p k s).ss = undS p.ss k s := rfl
    rw [hun] at hd2 hs2 hl2' i2 j2
    rw [hun]
    dsimp only at hd2 hs2 hl2' i2 j2 ⊢
    rw [← hqe] at hat
    generalize undP p k s = q at *
    repeat (first | refine a1 ?_ | refine a4 ?_ | refine a6 ?_ | refine s_fieldB ?_ | refine s_loadB ?_ | refine s_len ?_ | refine a8 ?_)
    rw [hql, show decide (((2 : Nat) : Int) ≠ 2) = false by decide]
    repeat (first | refine a1 ?_ | refine a5 ?_ | refine s_fieldB ?_ | refine s_loadB ?_ | refine s_len ?_)
    rw [hqs, show ∀ z : Int, decide (z ≠ z) = false from fun z => by simp]
    repeat (first | refine a1 ?_ | refine a4 ?_ | refine a5 ?_ | refine a6 ?_ | refine a8 ?_)
    refine Runs.loop (fun b : Nat => b ≤ 2) (fun b => 2 - b) (fun _ => [H2, H1, H]) (fun _ => [.blk b8 40 [vd2, vs2, vl2, .int .i64 0], .blk b6 27 [vd, vs]]) (fun b => [(5, .bool true), (6, .pointer (some ⟨b6, 0, none⟩)), (7, .int .i64 (k : Int)), (8, .pointer (some ⟨b8, 0, none⟩)), (9, .int .i64 (b : Int))]) 0 (by omega) (fun h => by
      refine Runs.weak (h) (by repeat (first | exact trivial | refine And.intro rfl ?_)) (fun x hx => List.mem_cons_of_mem _ (SubH.h x hx)) (by repeat (first | exact List.nil_sublist _ | exact List.Sublist.refl _ | refine List.Sublist.cons_cons _ ?_ | refine List.Sublist.cons _ ?_))) ?_
    intro b hb ih
    repeat (first | refine a1 ?_ | refine a4 ?_ | refine a5 ?_ | refine a6 ?_)
    refine Runs.cond_d rfl (fun hlt => ?_) (fun hlt => ?_)
    · obtain ⟨x, hx1, hx2⟩ := hgq.run b (by omega)
      have hrep : replS (b : Int) nilD (q.ss.take 400) = x := by
        rw [List.take_of_length_le (by omega)]
        exact replS_run hx2
      obtain ⟨y, hy⟩ : ∃ y, p.ds[b]? = some y := ⟨_, List.getElem?_eq_getElem (by omega)⟩
      obtain ⟨vx, hvx, hcx⟩ := hd2.dc hx1
      obtain ⟨vy, hvy, hcy⟩ := hd.dc hy
      have hqtx : ∀ t ∈ q.ss, t.e.tx.length ≤ 100000 := fun t ht => Nat.le_trans (hgq.tx t ht) (by omega)
      have hsapp : H1.cell (vat vs (k * 8 + 0)) = some (.int .i64 s.app) := hs8 0 _ rfl
      repeat (refine a4 ?_)
      refine Runs.regionD _ _ [] (fun x hx => List.mem_cons_of_mem _ hx) (List.Sublist.refl _) (by kernel_rfl) ?_
      refine t_fieldB 0 ?_
      refine DW.q 1 rfl (by kernel_rfl) (QV.loadBp (c := [vd2, vs2]) rfl past4) rfl rfl ?_
      refine d2 2 ?_
      refine t_fieldB 4 ?_
      refine t_fieldB 5 ?_
      refine t_loadB 6 ?_
      refine d2 7 ?_
      refine t_index 8 ?_
      refine t_loadHs 9 ?_
      refine DW.call 3 rfl (by kernel_rfl) rfl (replay_c (H := H2) (a := (b : Int)) (m := 400) o1 hs2 hqtx (by omega)) rfl rfl ?_
      rintro _ HJ hrJ hleJ
      rw [hrep] at hrJ
      refine DW.callV 10 rfl (by kernel_rfl) rfl (same_c (H := HJ) hrJ (b := x) ⟨vx, rfl, hvx.mono hleJ⟩) rfl rfl ?_
      rintro _ _ rfl
      rw [decide_eq_true (show x = x from rfl)]
      refine d1 11 2 ?_
      refine d2 13 ?_
      refine t_fieldB 14 ?_
      refine t_loadB 15 ?_
      refine d2 16 ?_
      refine t_index 17 ?_
      refine t_fieldV 18 ?_
      refine t_loadH 19 ?_
      refine d2 20 ?_
      by_cases hba : (b : Int) = s.app
      · rw [decide_eq_false (not_not_intro hba)]
        refine d2 21 ?_
        refine d3 22 ?_
        refine d3 23 ?_
        refine d3 24 ?_
        refine d3 25 ?_
        refine d3 26 ?_
        refine d3 27 ?_
        refine d3 28 ?_
        refine d3 29 ?_
        refine d3 30 ?_
        refine d3 31 ?_
        refine d3 32 ?_
        refine d3 33 ?_
        refine d3 34 ?_
        refine d1 35 2 ?_
        refine DW.done (by kernel_rfl) ?_
        repeat (first | refine a1 ?_ | refine a4 ?_ | refine a5 ?_ | refine a6 ?_ | refine s_addI ?_ | refine a8 ?_)
        refine Runs.weak (ih (b + 1) (by omega) (by omega)) (by repeat (first | exact trivial | refine And.intro rfl ?_)) (fun x hx => List.mem_cons_of_mem _ (SubH.h x hx)) (by repeat (first | exact List.nil_sublist _ | exact List.Sublist.refl _ | refine List.Sublist.cons_cons _ ?_ | refine List.Sublist.cons _ ?_))
      · have hxy : x = y := by
          rw [hqd b hba, hy] at hx1
          exact (Option.some.inj hx1).symm
        rw [decide_eq_true hba]
        refine d2 21 ?_
        refine t_fieldB 22 ?_
        refine t_fieldB 23 ?_
        refine t_loadB 24 ?_
        refine d2 25 ?_
        refine t_index 26 ?_
        refine t_loadHs 27 ?_
        refine t_fieldB 28 ?_
        refine t_loadB 29 ?_
        refine d2 30 ?_
        refine t_index 31 ?_
        refine t_loadHs 32 ?_
        refine DW.callV 33 rfl (by kernel_rfl) rfl (same_c (H := HJ) (a := x) (b := y) ⟨vx, rfl, hvx.mono hleJ⟩ ⟨vy, rfl, hvy.mono (hle2.trans hleJ)⟩) rfl rfl ?_
        rintro _ _ rfl
        rw [decide_eq_true hxy]
        refine d2 34 ?_
        refine d1 35 2 ?_
        refine DW.done (by kernel_rfl) ?_
        repeat (first | refine a1 ?_ | refine a4 ?_ | refine a5 ?_ | refine a6 ?_ | refine s_addI ?_ | refine a8 ?_)
        refine Runs.weak (ih (b + 1) (by omega) (by omega)) (by repeat (first | exact trivial | refine And.intro rfl ?_)) (fun x hx => List.mem_cons_of_mem _ (SubH.h x hx)) (by repeat (first | exact List.nil_sublist _ | exact List.Sublist.refl _ | refine List.Sublist.cons_cons _ ?_ | refine List.Sublist.cons _ ?_))
    · repeat (first | refine a1 ?_ | refine a4 ?_ | refine a5 ?_ | refine a6 ?_)
      refine Runs.loop (fun j : Nat => j ≤ p.ss.length) (fun j => p.ss.length - j) (fun _ => [H2, H1, H]) (fun _ => [.blk b8 40 [vd2, vs2, vl2, .int .i64 0], .blk b6 27 [vd, vs]]) (fun j => [(5, .bool true), (6, .pointer (some ⟨b6, 0, none⟩)), (7, .int .i64 (k : Int)), (8, .pointer (some ⟨b8, 0, none⟩)), (10, .int .i64 (j : Int))]) 0 (by omega) (fun h => by
        refine Runs.weak (h) (by repeat (first | exact trivial | refine And.intro rfl ?_)) (fun x hx => List.mem_cons_of_mem _ (SubH.h x hx)) (by repeat (first | exact List.nil_sublist _ | exact List.Sublist.refl _ | refine List.Sublist.cons_cons _ ?_ | refine List.Sublist.cons _ ?_))) ?_
      intro j hj ih
      repeat (first | refine a1 ?_ | refine a4 ?_ | refine a5 ?_ | refine a6 ?_ | refine s_fieldB ?_ | refine s_loadB ?_ | refine s_len ?_)
      refine Runs.cond_d rfl (fun hlt => ?_) (fun hlt => ?_)
      · obtain ⟨u, hu⟩ : ∃ u, p.ss[j]? = some u := ⟨_, List.getElem?_eq_getElem (by omega)⟩
        obtain ⟨t, ht, e1, e2, e3, e4, e5, e6⟩ := hat hu
        have hu8 := hs.st hu
        have ht8 := hs2.st ht
        repeat (refine a4 ?_)
        refine Runs.regionD _ _ [] (fun x hx => List.mem_cons_of_mem _ hx) (List.Sublist.refl _) (by kernel_rfl) ?_
        refine t_fieldB 0 ?_
        refine t_loadB 1 ?_
        refine d2 2 ?_
        refine t_index 3 ?_
        refine t_loadHs 4 ?_
        refine t_fieldB 5 ?_
        refine t_fieldB 6 ?_
        refine t_loadB 7 ?_
        refine d2 8 ?_
        refine t_index 9 ?_
        refine t_loadHs 10 ?_
        refine DW.float 12 rfl rfl ?_
        refine DWf.alloc 11 rfl rfl rfl (by kernel_rfl) (by kernel_rfl) rfl rfl rfl rfl rfl rfl (fun b11 => ?_)
        refine DWf.take rfl (by kernel_rfl) rfl rfl rfl (fun b12 => ?_)
        simp only [List.cons_append, List.nil_append]
        refine DW.storeBS 13 rfl (by kernel_rfl) rfl rfl rfl rfl rfl inferInstance inferInstance ?_
        refine DW.storeBS 14 rfl (by kernel_rfl) rfl rfl rfl rfl rfl inferInstance inferInstance ?_
        refine DW.done (by kernel_rfl) ?_
        repeat (first | refine a1 ?_ | refine a4 ?_ | refine a6 ?_ | refine s_fieldB ?_ | refine s_loadB ?_)
        have zz : ∀ z : Int, decide (z ≠ z) = false := fun z => by simp
        rw [e1, zz]
        repeat (first | refine a1 ?_ | refine s_fieldB ?_ | refine s_loadB ?_)
        rw [e2, zz]
        repeat (first | refine a1 ?_ | refine s_fieldB ?_ | refine s_loadB ?_)
        rw [e3, zz]
        repeat (first | refine a1 ?_ | refine s_fieldB ?_ | refine s_loadB ?_ | refine s_neqS ?_)
        rw [e4, show ∀ z : List UInt8, decide (z ≠ z) = false from fun z => by simp]
        repeat (first | refine a1 ?_ | refine s_fieldB ?_ | refine s_loadB ?_)
        rw [e5]
        have hsapp : H1.cell (vat vs (k * 8 + 0)) = some (.int .i64 s.app) := hs8 0 _ rfl
        cases hun2 : u.un with
        | true =>
          repeat (first | refine a1 ?_ | refine a3 ?_ | refine a4 ?_ | refine a5 ?_ | refine s_neqB ?_ | refine a8 ?_)
          refine Runs.regionD _ _ [] (fun x hx => List.mem_cons_of_mem _ hx) (List.Sublist.refl _) (by kernel_rfl) ?_
          refine d1 0 4 ?_
          by_cases hjk : (j : Int) ≤ (k : Int)
          · have hte := e6 (.inl (by omega))
            rw [decide_eq_true hjk]
            refine d3 4 ?_
            refine d3 5 ?_
            refine d3 6 ?_
            refine d3 7 ?_
            refine d3 8 ?_
            refine d3 9 ?_
            refine d3 10 ?_
            refine d3 11 ?_
            refine d3 12 ?_
            refine d1 13 2 ?_
            refine t_fieldB 15 ?_
            refine DW.q 16 rfl (by kernel_rfl) (QV.loadBp (c := edC u.e) rfl tail8) rfl rfl ?_
            refine t_fieldB 17 ?_
            refine DW.q 18 rfl (by kernel_rfl) (QV.loadBp (c := edC ⟨u.e.k, t.e.at_, t.e.len, t.e.to_, u.e.tx⟩) rfl tail8) rfl rfl ?_
            refine DW.qF 19 rfl (by kernel_rfl) (QF.neqEd (a := u.e) (b := ⟨u.e.k, t.e.at_, t.e.len, t.e.to_, u.e.tx⟩) rfl rfl) rfl rfl ?_
            rw [hte, decide_eq_false (show ¬ (u.e ≠ ⟨u.e.k, u.e.at_, u.e.len, u.e.to_, u.e.tx⟩) from not_not_intro rfl)]
            refine d2 20 ?_
            refine DW.done (by kernel_rfl) ?_
            repeat (first | refine a1 ?_ | refine a4 ?_ | refine a5 ?_ | refine a6 ?_ | refine s_addI ?_ | refine a8 ?_)
            refine Runs.weak (ih (j + 1) (by omega) (by omega)) (by repeat (first | exact trivial | refine And.intro rfl ?_)) (fun x hx => List.mem_cons_of_mem _ (SubH.h x hx)) (by repeat (first | exact List.nil_sublist _ | exact List.Sublist.refl _ | refine List.Sublist.cons_cons _ ?_ | refine List.Sublist.cons _ ?_))
          · rw [decide_eq_false hjk]
            refine t_fieldB 4 ?_
            refine t_loadB 5 ?_
            refine t_fieldB 6 ?_
            refine t_loadB 7 ?_
            refine d2 8 ?_
            refine t_index 9 ?_
            refine t_fieldV 10 ?_
            refine t_loadH 11 ?_
            refine d2 12 ?_
            by_cases hap : u.app = s.app
            · rw [decide_eq_false (not_not_intro hap)]
              refine d1 13 2 ?_
              refine d3 15 ?_
              refine d3 16 ?_
              refine d3 17 ?_
              refine d3 18 ?_
              refine d3 19 ?_
              refine d2 20 ?_
              refine DW.done (by kernel_rfl) ?_
              repeat (first | refine a1 ?_ | refine a4 ?_ | refine a5 ?_ | refine a6 ?_ | refine s_addI ?_ | refine a8 ?_)
              refine Runs.weak (ih (j + 1) (by omega) (by omega)) (by repeat (first | exact trivial | refine And.intro rfl ?_)) (fun x hx => List.mem_cons_of_mem _ (SubH.h x hx)) (by repeat (first | exact List.nil_sublist _ | exact List.Sublist.refl _ | refine List.Sublist.cons_cons _ ?_ | refine List.Sublist.cons _ ?_))
            · have hte := e6 (.inr hap)
              rw [decide_eq_true hap]
              refine d1 13 2 ?_
              refine t_fieldB 15 ?_
              refine DW.q 16 rfl (by kernel_rfl) (QV.loadBp (c := edC u.e) rfl tail8) rfl rfl ?_
              refine t_fieldB 17 ?_
              refine DW.q 18 rfl (by kernel_rfl) (QV.loadBp (c := edC ⟨u.e.k, t.e.at_, t.e.len, t.e.to_, u.e.tx⟩) rfl tail8) rfl rfl ?_
              refine DW.qF 19 rfl (by kernel_rfl) (QF.neqEd (a := u.e) (b := ⟨u.e.k, t.e.at_, t.e.len, t.e.to_, u.e.tx⟩) rfl rfl) rfl rfl ?_
              rw [hte, decide_eq_false (show ¬ (u.e ≠ ⟨u.e.k, u.e.at_, u.e.len, u.e.to_, u.e.tx⟩) from not_not_intro rfl)]
              refine d2 20 ?_
              refine DW.done (by kernel_rfl) ?_
              repeat (first | refine a1 ?_ | refine a4 ?_ | refine a5 ?_ | refine a6 ?_ | refine s_addI ?_ | refine a8 ?_)
              refine Runs.weak (ih (j + 1) (by omega) (by omega)) (by repeat (first | exact trivial | refine And.intro rfl ?_)) (fun x hx => List.mem_cons_of_mem _ (SubH.h x hx)) (by repeat (first | exact List.nil_sublist _ | exact List.Sublist.refl _ | refine List.Sublist.cons_cons _ ?_ | refine List.Sublist.cons _ ?_))
        | false =>
          repeat (first | refine a1 ?_ | refine a5 ?_ | refine s_neqB ?_)
          rw [show ((false || decide ((j : Int) = (k : Int))) != decide ((j : Int) = (k : Int))) = false by cases decide ((j : Int) = (k : Int)) <;> rfl]
          repeat (first | refine a4 ?_ | refine a8 ?_)
          refine Runs.regionD _ _ [] (fun x hx => List.mem_cons_of_mem _ hx) (List.Sublist.refl _) (by kernel_rfl) ?_
          refine d1 0 4 ?_
          by_cases hjk : (j : Int) ≤ (k : Int)
          · have hte := e6 (.inl (by omega))
            rw [decide_eq_true hjk]
            refine d3 4 ?_
            refine d3 5 ?_
            refine d3 6 ?_
            refine d3 7 ?_
            refine d3 8 ?_
            refine d3 9 ?_
            refine d3 10 ?_
            refine d3 11 ?_
            refine d3 12 ?_
            refine d1 13 2 ?_
            refine t_fieldB 15 ?_
            refine DW.q 16 rfl (by kernel_rfl) (QV.loadBp (c := edC u.e) rfl tail8) rfl rfl ?_
            refine t_fieldB 17 ?_
            refine DW.q 18 rfl (by kernel_rfl) (QV.loadBp (c := edC ⟨u.e.k, t.e.at_, t.e.len, t.e.to_, u.e.tx⟩) rfl tail8) rfl rfl ?_
            refine DW.qF 19 rfl (by kernel_rfl) (QF.neqEd (a := u.e) (b := ⟨u.e.k, t.e.at_, t.e.len, t.e.to_, u.e.tx⟩) rfl rfl) rfl rfl ?_
            rw [hte, decide_eq_false (show ¬ (u.e ≠ ⟨u.e.k, u.e.at_, u.e.len, u.e.to_, u.e.tx⟩) from not_not_intro rfl)]
            refine d2 20 ?_
            refine DW.done (by kernel_rfl) ?_
            repeat (first | refine a1 ?_ | refine a4 ?_ | refine a5 ?_ | refine a6 ?_ | refine s_addI ?_ | refine a8 ?_)
            refine Runs.weak (ih (j + 1) (by omega) (by omega)) (by repeat (first | exact trivial | refine And.intro rfl ?_)) (fun x hx => List.mem_cons_of_mem _ (SubH.h x hx)) (by repeat (first | exact List.nil_sublist _ | exact List.Sublist.refl _ | refine List.Sublist.cons_cons _ ?_ | refine List.Sublist.cons _ ?_))
          · rw [decide_eq_false hjk]
            refine t_fieldB 4 ?_
            refine t_loadB 5 ?_
            refine t_fieldB 6 ?_
            refine t_loadB 7 ?_
            refine d2 8 ?_
            refine t_index 9 ?_
            refine t_fieldV 10 ?_
            refine t_loadH 11 ?_
            refine d2 12 ?_
            by_cases hap : u.app = s.app
            · rw [decide_eq_false (not_not_intro hap)]
              refine d1 13 2 ?_
              refine d3 15 ?_
              refine d3 16 ?_
              refine d3 17 ?_
              refine d3 18 ?_
              refine d3 19 ?_
              refine d2 20 ?_
              refine DW.done (by kernel_rfl) ?_
              repeat (first | refine a1 ?_ | refine a4 ?_ | refine a5 ?_ | refine a6 ?_ | refine s_addI ?_ | refine a8 ?_)
              refine Runs.weak (ih (j + 1) (by omega) (by omega)) (by repeat (first | exact trivial | refine And.intro rfl ?_)) (fun x hx => List.mem_cons_of_mem _ (SubH.h x hx)) (by repeat (first | exact List.nil_sublist _ | exact List.Sublist.refl _ | refine List.Sublist.cons_cons _ ?_ | refine List.Sublist.cons _ ?_))
            · have hte := e6 (.inr hap)
              rw [decide_eq_true hap]
              refine d1 13 2 ?_
              refine t_fieldB 15 ?_
              refine DW.q 16 rfl (by kernel_rfl) (QV.loadBp (c := edC u.e) rfl tail8) rfl rfl ?_
              refine t_fieldB 17 ?_
              refine DW.q 18 rfl (by kernel_rfl) (QV.loadBp (c := edC ⟨u.e.k, t.e.at_, t.e.len, t.e.to_, u.e.tx⟩) rfl tail8) rfl rfl ?_
              refine DW.qF 19 rfl (by kernel_rfl) (QF.neqEd (a := u.e) (b := ⟨u.e.k, t.e.at_, t.e.len, t.e.to_, u.e.tx⟩) rfl rfl) rfl rfl ?_
              rw [hte, decide_eq_false (show ¬ (u.e ≠ ⟨u.e.k, u.e.at_, u.e.len, u.e.to_, u.e.tx⟩) from not_not_intro rfl)]
              refine d2 20 ?_
              refine DW.done (by kernel_rfl) ?_
              repeat (first | refine a1 ?_ | refine a4 ?_ | refine a5 ?_ | refine a6 ?_ | refine s_addI ?_ | refine a8 ?_)
              refine Runs.weak (ih (j + 1) (by omega) (by omega)) (by repeat (first | exact trivial | refine And.intro rfl ?_)) (fun x hx => List.mem_cons_of_mem _ (SubH.h x hx)) (by repeat (first | exact List.nil_sublist _ | exact List.Sublist.refl _ | refine List.Sublist.cons_cons _ ?_ | refine List.Sublist.cons _ ?_))
      · repeat (first | refine a1 ?_ | refine a4 ?_ | refine a5 ?_ | refine a6 ?_)
        refine Runs.ret1 Try.func4 Try.results4 rfl (fun w hm => hR _ w _ H _ (List.mem_cons_self ..) (Snap.le.refl _) ?_ hm)
        rfl
  · rw [hun]
    dsimp only
    repeat (first | refine a1 ?_ | refine a4 ?_ | refine a5 ?_ | refine a6 ?_ | refine s_fieldB ?_ | refine s_loadB ?_ | refine a7 ?_)
    refine Runs.ret1 Try.func4 Try.results4 rfl (fun w hm => hR _ w _ H _ (List.mem_cons_self ..) (Snap.le.refl _) ?_ hm)
    rfl
end Go.Proofs.Ytbiohkncdlhigaa

/-
  Contract: a commit can be undone exactly if its mark is there and whole. Conditions: bytes are bytes.
-/
import Derived.Test.YtbiohkncdlhigaaYd0
namespace Go.Proofs.Ytbiohkncdlhigaa
open Go Go.RowKit

section
variable {P : Program} {f : FuncId} {n : Nat} {E : Ent} {R : Value → World → Prop} {k : List Item} {Hs : List Snap} {O : List Own} {l : Env}
/-- Ahead of one item: what follows is left in the dark. -/
theorem Runs.joinK {α : Type} {c : Item} (I : α → Prop) (sH : α → List Snap) (sO : α → List Own) (sl : α → Env) (h1 : ∀ K : List Item, (∀ s, I s → Runs P f n E R K (sH s) (sO s) (sl s)) → Runs P f n E R (c :: K) Hs O l)
    (h2 : ∀ s, I s → Runs P f n E R k (sH s) (sO s) (sl s)) : Runs P f n E R (c :: k) Hs O l := h1 k h2
end
theorem depP_at {ss : List Stp} {k : Nat} {s : Stp} (hsk : ss[k]? = some s) (h0 : 0 ≤ s.id) (hu : s.un = false) : depP ss (k : Int) = (depL s.app (k + 1) (markS s) (ss.drop (k + 1)), 0) := by
  unfold depP
  rw [comB_iff hsk, decide_eq_true h0, hu, Int.toNat_natCast, hsk]
  rfl
set_option maxHeartbeats 4000000 in
theorem depends32_c {H : Snap} {v : Value} {l : List Rq} {n : Int} (hv : SliceRep H RqL v l) (hx : ∀ x ∈ l, okRq x) (hn : isByte n) : Pure Try.prog 5 #[v, .int .u8 n] H (fun _ r => r = .bool true) := by
  obtain ⟨hg, hml⟩ := madeP_good l (min l.length 14) (by omega)
  have hl2 := madeP_len l (min l.length 14)
  have hmc := madeP_c hv hx
  generalize madeP l (min l.length 14) = p at *
  refine Pure.intro Try.func5 rfl Try.ntmps5 rfl (fun E R hM hR => ?_)
  repeat (first | refine a1 ?_ | refine a4 ?_ | refine a5 ?_ | refine a6 ?_)
  refine RW.callV rfl (usanity_c (H := H)) rfl rfl ?_
  rintro _ _ rfl
  repeat (first | refine a1 ?_ | refine a4 ?_ | refine a5 ?_ | refine a6 ?_)
  refine RW.call rfl (hmc) rfl rfl ?_
  rintro _ H1 ⟨vd, vs, rfl, hd, hs⟩ hle1
  have ho1 := hd.isSl.one1
  have ho2 := hs.isSl.one1
  have hid := hd.isSl
  have his := hs.isSl
  have hsz : p.ss.length ≤ 50 := hg.sz
  refine RW.alloc rfl rfl rfl (fun b6 => ?_)
  repeat (first | refine a1 ?_ | refine a4 ?_ | refine a5 ?_ | refine a6 ?_ | refine s_loadBs ?_ | refine a9 ?_)
  refine RW.callV rfl (chosen_c (H := H1) (n := n) hd hs (by omega) hn) rfl rfl ?_
  rintro _ _ rfl
  repeat (first | refine a1 ?_ | refine a4 ?_ | refine a5 ?_ | refine a6 ?_)
  rcases chosen_ok (ss := p.ss) (n := n) with hch | hch
  · rw [hch]
    repeat (first | refine a1 ?_ | refine a4 ?_ | refine a5 ?_ | refine a6 ?_ | refine a7 ?_)
    refine Runs.ret1 Try.func5 Try.results5 rfl (fun w hm => hR _ w _ H _ (List.mem_cons_self ..) (Snap.le.refl _) ?_ hm)
    rfl
  obtain ⟨k, s, hk, hsk, hs0, hsu⟩ := comB_some hch
  rw [hk]
  have hkl := (List.getElem?_eq_some_iff.1 hsk).1
  have hs8 := hs.st hsk
  have hc0 : H1.cell (vat vs (k * 8 + 0)) = some (.int .i64 s.app) := hs8 0 _ rfl
  have hc1 : H1.cell (vat vs (k * 8 + 1)) = some (.int .i64 s.id) := hs8 1 _ rfl
  obtain ⟨ha0, ha1⟩ := hg.app s (List.mem_of_getElem? hsk)
  obtain ⟨a, ha⟩ : ∃ a : Nat, s.app = (a : Int) := ⟨s.app.toNat, by omega⟩
  obtain ⟨D, hda⟩ : ∃ d, p.ds[a]? = some d := ⟨_, List.getElem?_eq_getElem (by omega)⟩
  have hvD := good_valid hg D (List.mem_of_getElem? hda)
  have hDa : p.ds[s.app.toNat]? = some D := by rw [ha, Int.toNat_natCast]; exact hda
  obtain ⟨vm, hvm, hcm⟩ := hd.dc hda
  have hovm := hvm.isSl.one1
  have hivm := hvm.isSl
  have hptx : ∀ t ∈ p.ss, t.e.tx.length ≤ 100000 := fun t ht => Nat.le_trans (hg.tx t ht) (by omega)
  have hde := depP_at hsk hs0 hsu
  have hcase := undoP_cases hsk hs0 hsu
  have hA := fun hw => dep_whole hg hsk hs0 hsu hw hDa
  have hB := fun hw => dep_broken hg hsk hs0 hsu hw hDa
  have hni : depL s.app (k + 1) (markS s) (p.ss.drop (k + 1)) = [] ↔ allW s.app (markS s) (p.ss.drop (k + 1)) := dep_nil rfl
  have hmemL := fun x => dep_mem (a := s.app) (B := p.ss.drop (k + 1)) (k := k + 1) (m := markS s) (x := x)
  have hsort := dep_sorted (a := s.app) (B := p.ss.drop (k + 1)) (k := k + 1) (m := markS s)
  generalize depL s.app (k + 1) (markS s) (p.ss.drop (k + 1)) = L at *
  repeat (first | refine a1 ?_ | refine a4 ?_ | refine a5 ?_ | refine a6 ?_ | refine s_fieldB ?_ | refine s_fieldV ?_ | refine s_loadB ?_ | refine s_loadH ?_ | refine s_index ?_ | refine a8 ?_)
  rw [ha] at hc0 ⊢
  skip
  refine Runs.regionD _ _ [] (fun x hx => List.mem_cons_of_mem _ hx) (List.Sublist.refl _) (by kernel_rfl) ?_
  refine t_fieldB 0 ?_
  refine t_loadB 1 ?_
  refine d2 2 ?_
  refine t_index 3 ?_
  refine t_loadHs 4 ?_
  refine t_fieldB 5 ?_
  refine t_loadB 6 ?_
  refine d2 7 ?_
  refine t_index 8 ?_
  refine t_fieldV 9 ?_
  refine t_loadH 10 ?_
  refine DW.callV 11 rfl (by kernel_rfl) rfl (rfind_c (H := H1) (s := D.tx) (i := s.id) hvm) rfl rfl ?_
  rintro v46 H9 hfind
  refine d2 12 ?_
  refine DW.done (by kernel_rfl) ?_
  repeat (first | refine a1 ?_ | refine a4 ?_ | refine a6 ?_ | refine s_loadBs ?_)
  refine RW.call rfl (depE (H := H1) hd hs hg hde) rfl rfl ?_
  rintro _ H2 ⟨vn, rfl, hN⟩ hle2
  have iN := hN.isSl
  have hbN := hN.isSl.bound
  repeat (first | refine a1 ?_ | refine a4 ?_ | refine a5 ?_ | refine a6 ?_ | refine s_loadBs ?_)
  refine RW.call rfl (undE (H := H2) (p := p) (i := (k : Int)) (hd.mono hle2) (hs.mono hle2) hg) rfl rfl ?_
  rintro _ H3 ⟨vd3, vs3, vl3, rfl, hd3, hs3, hl3⟩ hle3
  have o3 := hd3.isSl.one1
  have o4 := hs3.isSl.one1
  have o5 := hl3.isSl.one1
  refine RW.alloc rfl rfl rfl (fun b12 => ?_)
  refine RW.storeB rfl rfl rfl (by simp [allOne, cellsL, one1]; exact ⟨o3, o4, o5⟩) rfl ?_
  refine a5 ?_
  refine Runs.seq ?_
  refine Runs.joinK (α := Bool) (fun u => (u = true ↔ L = [])) (fun _ => [H3, H2, H1, H]) (fun _ => [.blk b12 40 [vd3, vs3, vl3, .int .i64 (undoP p (k : Int)).2.2], .blk b6 27 [vd, vs]]) (fun u => [(5, .bool true), (6, .pointer (some ⟨b6, 0, none⟩)), (7, .int .i64 (k : Int)), (8, .int .i64 (a : Int)), (10, vn), (11, .int .i64 0), (12, .pointer (some ⟨b12, 0, none⟩)), (13, .bool u)]) (fun KK hj => ?_) ?_
  · rcases hfind with ⟨hf, rfl⟩ | ⟨q, x, hq, hqi, rfl⟩
    · have hu : (false = true ↔ L = []) := by
        constructor
        · intro h; cases h
        · intro h
          obtain ⟨m, h1, h2, _⟩ := hA (hni.1 h)
          exact absurd ⟨m, h1, h2⟩ hf
      repeat (first | refine a1 ?_ | refine a3 ?_ | refine a5 ?_ | refine a6 ?_)
      refine Runs.weak (hj false hu) (by repeat (first | exact trivial | refine And.intro rfl ?_)) (fun x hx => List.mem_cons_of_mem _ (SubH.h x hx)) (by repeat (first | exact List.nil_sublist _ | exact List.Sublist.refl _ | refine List.Sublist.cons_cons _ ?_ | refine List.Sublist.cons _ ?_))
    · have hql := (List.getElem?_eq_some_iff.1 hq).1
      have hcm1 : H1.cell (vat vd (a * 2 + 1)) = some vm := hcm 1 _ rfl
      have hc3 : H1.cell (vat vm (q * 4 + 3)) = some (.bool x.wh) := hvm.mk hq 3 _ rfl
      have hu : (x.wh = true ↔ L = []) := by
        constructor
        · intro h
          refine hni.2 ?_
          by_cases hw : allW s.app (markS s) (p.ss.drop (k + 1))
          · exact hw
          · have := nw_find (hB hw).1 hq hqi
            rw [h] at this
            cases this
        · intro h
          obtain ⟨m, h1, h2, h3⟩ := hA (hni.1 h)
          obtain ⟨q2, hq2⟩ := List.getElem?_of_mem h1
          rw [sorted_uniq hvD.2.2.2.2 hq hq2 (by rw [hqi, h2])]
          exact h3
      repeat (first | refine a1 ?_ | refine a5 ?_ | refine a6 ?_ | refine s_fieldB ?_ | refine s_fieldV ?_ | refine s_loadB ?_ | refine s_loadH ?_ | refine s_index ?_)
      rw [decide_eq_true (show (0 : Int) ≤ (q : Int) by omega)]
      skip
      refine Runs.weak (hj x.wh hu) (by repeat (first | exact trivial | refine And.intro rfl ?_)) (fun x hx => List.mem_cons_of_mem _ (SubH.h x hx)) (by repeat (first | exact List.nil_sublist _ | exact List.Sublist.refl _ | refine List.Sublist.cons_cons _ ?_ | refine List.Sublist.cons _ ?_))
  intro u hu
  refine Runs.seq ?_
  refine Runs.joinK (α := Unit) (fun _ => True) (fun _ => [H2, H1, H]) (fun _ => [.blk b6 27 [vd, vs]]) (fun _ => [(5, .bool true), (6, .pointer (some ⟨b6, 0, none⟩)), (7, .int .i64 (k : Int)), (8, .int .i64 (a : Int)), (10, vn), (13, .bool u)]) (fun KK hj => ?_) ?_
  · rcases hcase with ⟨hdn, hun⟩ | ⟨hdn, hun⟩
    · have hu2 := hu.2 hdn
      subst hu2
      rw [hun] at hd3 hs3 hl3 ⊢
      subst hdn
      dsimp only at hd3 hs3 hl3 ⊢
      repeat (first | refine a1 ?_ | refine a3 ?_ | refine a4 ?_ | refine a5 ?_ | refine a6 ?_ | refine s_fieldB ?_ | refine s_loadB ?_ | refine s_len ?_ | refine s_neqB ?_ | refine a8 ?_)
      refine Runs.skip ?_
      refine Runs.weak (hj () trivial) (by repeat (first | exact trivial | refine And.intro rfl ?_)) (fun x hx => List.mem_cons_of_mem _ (SubH.h x hx)) (by repeat (first | exact List.nil_sublist _ | exact List.Sublist.refl _ | refine List.Sublist.cons_cons _ ?_ | refine List.Sublist.cons _ ?_))
    · have hu2 : u = false := by
        cases u with
        | false => rfl
        | true => exact absurd (hu.1 rfl) hdn
      subst hu2
      rw [hun] at hd3 hs3 hl3 ⊢
      dsimp only at hd3 hs3 hl3 ⊢
      have hll := List.length_pos_iff.2 hdn
      repeat (first | refine a1 ?_ | refine a4 ?_ | refine a6 ?_ | refine s_len ?_ | refine s_neqB ?_)
      rw [decide_eq_false (show ¬ ((L.length : Int) = 0) by omega)]
      repeat (first | refine a1 ?_ | refine s_fieldB ?_ | refine s_loadB ?_ | refine s_neqB ?_)
      refine RW.callV rfl (ints_c (H := H3) hl3 (hN.mono hle3)) rfl rfl ?_
      rintro _ _ rfl
      rw [decide_eq_true (show L = L from rfl)]
      repeat (first | refine a1 ?_ | refine a5 ?_ | refine a8 ?_)
      refine Runs.skip ?_
      refine Runs.weak (hj () trivial) (by repeat (first | exact trivial | refine And.intro rfl ?_)) (fun x hx => List.mem_cons_of_mem _ (SubH.h x hx)) (by repeat (first | exact List.nil_sublist _ | exact List.Sublist.refl _ | refine List.Sublist.cons_cons _ ?_ | refine List.Sublist.cons _ ?_))
  rintro ⟨⟩ _
  repeat (first | refine a1 ?_ | refine a4 ?_ | refine a5 ?_ | refine a6 ?_)
  refine Runs.loop (fun j : Nat => j ≤ L.length) (fun j => L.length - j) (fun _ => [H2, H1, H]) (fun _ => [.blk b6 27 [vd, vs]]) (fun j => [(5, .bool true), (6, .pointer (some ⟨b6, 0, none⟩)), (7, .int .i64 (k : Int)), (8, .int .i64 (a : Int)), (10, vn), (13, .bool u), (14, .int .i64 (j : Int))]) 0 (Nat.zero_le _) (fun h => by
    refine Runs.weak (h) (by repeat (first | exact trivial | refine And.intro rfl ?_)) (fun x hx => List.mem_cons_of_mem _ (SubH.h x hx)) (by repeat (first | exact List.nil_sublist _ | exact List.Sublist.refl _ | refine List.Sublist.cons_cons _ ?_ | refine List.Sublist.cons _ ?_))) ?_
  intro j hj ih
  repeat (first | refine a1 ?_ | refine a4 ?_ | refine a5 ?_ | refine a6 ?_ | refine s_len ?_)
  refine Runs.cond_d rfl (fun hlt => ?_) (fun hlt => ?_)
  · obtain ⟨x, hx1⟩ : ∃ x, L[j]? = some x := ⟨_, List.getElem?_eq_getElem (by omega)⟩
    obtain ⟨j', t, hB', rfl, hskt⟩ := hmemL x (List.mem_of_getElem? hx1)
    rw [List.getElem?_drop] at hB'
    have htl := (List.getElem?_eq_some_iff.1 hB').1
    have ht8 := hs.st hB'
    have hta : t.app = (a : Int) := by
      by_cases e : t.app = s.app
      · rw [e, ha]
      · exact absurd (.inl e) hskt
    have htu : t.un = false := by
      cases e : t.un with
      | false => rfl
      | true => exact absurd (.inr e) hskt
    have e0 : H1.cell (vat vs ((k + 1 + j') * 8 + 0)) = some (.int .i64 (a : Int)) := by rw [← hta]; exact ht8 0 _ rfl
    have e7 : H1.cell (vat vs ((k + 1 + j') * 8 + 7)) = some (.bool false) := by rw [← htu]; exact ht8 7 _ rfl
    repeat (first | refine a1 ?_ | refine a4 ?_ | refine a5 ?_ | refine a6 ?_ | refine s_loadH ?_ | refine s_index ?_)
    rw [decide_eq_false (show ¬ ((k + 1 + j' : Nat) : Int) ≤ (k : Int) by omega)]
    repeat (first | refine a1 ?_ | refine s_fieldB ?_ | refine s_loadB ?_ | refine s_len ?_)
    rw [decide_eq_false (show ¬ (p.ss.length : Int) ≤ ((k + 1 + j' : Nat) : Int) by omega)]
    repeat (first | refine a1 ?_ | refine s_fieldB ?_ | refine s_fieldV ?_ | refine s_loadB ?_ | refine s_loadH ?_ | refine s_index ?_)
    rw [show ∀ z : Int, decide (z ≠ z) = false from fun z => by simp]
    repeat (first | refine a1 ?_ | refine s_fieldB ?_ | refine s_fieldV ?_ | refine s_loadB ?_ | refine s_loadH ?_ | refine s_index ?_)
    by_cases hj0 : (0 : Int) < (j : Int)
    · rw [decide_eq_true hj0]
      obtain ⟨j1, rfl⟩ : ∃ j1, j = j1 + 1 := ⟨j - 1, by omega⟩
      obtain ⟨y, hy⟩ : ∃ y, L[j1]? = some y := ⟨_, List.getElem?_eq_getElem (by omega)⟩
      have hyx : y < ((k + 1 + j' : Nat) : Int) := by
        obtain ⟨g1, rfl⟩ := List.getElem?_eq_some_iff.1 hy
        obtain ⟨g2, g3⟩ := List.getElem?_eq_some_iff.1 hx1
        rw [← g3]
        exact List.pairwise_iff_getElem.1 hsort j1 (j1 + 1) g1 g2 (by omega)
      repeat (first | refine a1 ?_ | refine s_subI ?_ | refine s_indexT ?_)
      rw [show ((j1 + 1 : Nat) : Int) - 1 = (j1 : Int) by omega]
      repeat (first | refine a1 ?_ | refine a5 ?_ | refine s_loadH ?_)
      rw [decide_eq_false (show ¬ ((k + 1 + j' : Nat) : Int) ≤ y by omega)]
      repeat (first | refine a1 ?_ | refine a4 ?_ | refine a5 ?_ | refine a6 ?_ | refine s_addI ?_ | refine a8 ?_)
      refine Runs.weak (ih (j1 + 1 + 1) (by omega) (by omega)) (by repeat (first | exact trivial | refine And.intro rfl ?_)) (fun x hx => List.mem_cons_of_mem _ (SubH.h x hx)) (by repeat (first | exact List.nil_sublist _ | exact List.Sublist.refl _ | refine List.Sublist.cons_cons _ ?_ | refine List.Sublist.cons _ ?_))
    · rw [decide_eq_false hj0]
      repeat (first | refine a1 ?_ | refine a3 ?_ | refine a4 ?_ | refine a5 ?_ | refine a6 ?_ | refine s_addI ?_ | refine a8 ?_)
      refine Runs.weak (ih (j + 1) (by omega) (by omega)) (by repeat (first | exact trivial | refine And.intro rfl ?_)) (fun x hx => List.mem_cons_of_mem _ (SubH.h x hx)) (by repeat (first | exact List.nil_sublist _ | exact List.Sublist.refl _ | refine List.Sublist.cons_cons _ ?_ | refine List.Sublist.cons _ ?_))
  · cases u with
    | true =>
      repeat (first | refine a1 ?_ | refine a3 ?_ | refine a4 ?_ | refine a5 ?_ | refine a6 ?_ | refine a7 ?_)
      refine Runs.ret1 Try.func5 Try.results5 rfl (fun w hm => hR _ w _ H _ (List.mem_cons_self ..) (Snap.le.refl _) ?_ hm)
      rfl
    | false =>
      have hne : L ≠ [] := fun h => by cases hu.2 h
      obtain ⟨_, x, rest, dB, dA, hL, hxl, hrB, hrA, hvB, hvA, ⟨mB, hmB, hmi, hmw⟩, hnA⟩ := hB (fun h => hne (hni.2 h))
      have hx0 : L[0]? = some (x : Int) := by rw [hL]; rfl
      have hll : 0 < L.length := List.length_pos_iff.2 hne
      rw [ha] at hrB hrA
      have hs2 := hs.mono hle2
      repeat (first | refine a1 ?_ | refine a4 ?_ | refine a5 ?_ | refine a6 ?_ | refine s_len ?_)
      rw [decide_eq_false (show ¬ ((L.length : Int) = 0) by omega)]
      repeat (first | refine a4 ?_ | refine a8 ?_)
      refine Runs.regionD _ _ [7] (fun x hx => List.mem_cons_of_mem _ hx) (List.Sublist.refl _) (by kernel_rfl) ?_
      refine t_loadBs 0 ?_
      refine d1 1 2 ?_
      refine t_indexT 3 ?_
      refine t_loadH 4 ?_
      refine DW.float 6 rfl rfl ?_
      refine DWf.call 5 rfl rfl rfl (by kernel_rfl) (by kernel_rfl) rfl rfl rfl rfl rfl rfl (replay_c (H := H2) (a := (a : Int)) (m := x) ho1 hs2 hptx (by omega)) ?_
      rintro _ H4 hdrB hle4
      rw [hrB] at hdrB
      obtain ⟨vmB, rfl, hvmB⟩ := hdrB
      have oB := hvmB.isSl.one1
      have iB := hvmB.isSl
      refine DWf.take rfl (by kernel_rfl) rfl rfl rfl (fun b16 => ?_)
      simp only [List.cons_append, List.nil_append]
      refine DW.storeB 7 rfl (by kernel_rfl) rfl rfl rfl rfl (by first | rfl | (simp [allOne, cellsL, one1]; done) | (simp [allOne, cellsL, one1]; first | assumption | (refine ⟨?_, ?_⟩ <;> assumption) | (refine ⟨?_, ?_, ?_⟩ <;> assumption))) rfl ?_
      refine DW.done (by kernel_rfl) ?_
      repeat (refine a4 ?_)
      refine Runs.regionD _ _ [8] (fun x hx => List.mem_cons_of_mem _ hx) (List.Sublist.refl _) (by kernel_rfl) ?_
      refine t_loadBs 0 ?_
      refine d1 1 2 ?_
      refine t_indexT 3 ?_
      refine t_loadH 4 ?_
      refine t_addI 5 ?_
      rw [show (x : Int) + 1 = ((x + 1 : Nat) : Int) by omega]
      refine DW.float 7 rfl rfl ?_
      refine DWf.call 6 rfl rfl rfl (by kernel_rfl) (by kernel_rfl) rfl rfl rfl rfl rfl rfl (replay_c (H := H4) (a := (a : Int)) (m := x + 1) ho1 (hs2.mono hle4) hptx (by omega)) ?_
      rintro _ H5 hdrA hle5
      rw [hrA] at hdrA
      obtain ⟨vmA, rfl, hvmA⟩ := hdrA
      have oA := hvmA.isSl.one1
      have iA := hvmA.isSl
      refine DWf.take rfl (by kernel_rfl) rfl rfl rfl (fun b17 => ?_)
      simp only [List.cons_append, List.nil_append]
      refine DW.storeB 8 rfl (by kernel_rfl) rfl rfl rfl rfl (by first | rfl | (simp [allOne, cellsL, one1]; done) | (simp [allOne, cellsL, one1]; first | assumption | (refine ⟨?_, ?_⟩ <;> assumption) | (refine ⟨?_, ?_, ?_⟩ <;> assumption))) rfl ?_
      refine DW.done (by kernel_rfl) ?_
      repeat (refine a4 ?_)
      refine Runs.regionD _ _ [] (fun x hx => List.mem_cons_of_mem _ hx) (List.Sublist.refl _) (by kernel_rfl) ?_
      refine t_loadBs 0 ?_
      refine t_fieldB 1 ?_
      refine t_loadB 2 ?_
      refine d2 3 ?_
      refine t_index 4 ?_
      refine t_fieldV 5 ?_
      refine t_loadH 6 ?_
      refine t_loadBs 8 ?_
      refine t_fieldB 9 ?_
      refine t_loadB 10 ?_
      refine d2 11 ?_
      refine t_index 12 ?_
      refine t_fieldV 13 ?_
      refine t_loadH 14 ?_
      refine DW.callV 7 rfl (by kernel_rfl) rfl (rfind_c (H := H4) (s := dB.tx) (i := s.id) hvmB) rfl rfl ?_
      rintro vB HB hfB
      refine DW.callV 15 rfl (by kernel_rfl) rfl (rfind_c (H := H5) (s := dA.tx) (i := s.id) hvmA) rfl rfl ?_
      rintro vA HA hfA
      refine d1 16 2 ?_
      refine DW.done (by kernel_rfl) ?_
      rcases hfB with ⟨hf, _⟩ | ⟨q, m, hq, hqi, rfl⟩
      · exact absurd ⟨mB, hmB, hmi⟩ hf
      obtain ⟨q2, hq2⟩ := List.getElem?_of_mem hmB
      have hmm : m.wh = true := by
        rw [sorted_uniq hvB.2.2.2.2 hq hq2 (by rw [hqi, hmi])]
        exact hmw
      have hqlB := (List.getElem?_eq_some_iff.1 hq).1
      have hcB : H4.cell (vat vmB (q * 4 + 3)) = some (.bool true) := by rw [← hmm]; exact hvmB.mk hq 3 _ rfl
      repeat (first | refine a1 ?_ | refine a4 ?_ | refine a6 ?_ | refine s_fieldB ?_ | refine s_fieldV ?_ | refine s_loadB ?_ | refine s_loadH ?_ | refine s_index ?_)
      rw [decide_eq_true (show (0 : Int) ≤ (q : Int) by omega)]
      skip
      rcases hfA with ⟨_, rfl⟩ | ⟨q3, m3, hq3, hqi3, rfl⟩
      · repeat (first | refine a1 ?_ | refine a3 ?_ | refine a5 ?_)
        refine Runs.ret1 Try.func5 Try.results5 rfl (fun w hm => hR _ w _ H _ (List.mem_cons_self ..) (Snap.le.refl _) ?_ hm)
        rfl
      · have hqlA := (List.getElem?_eq_some_iff.1 hq3).1
        have hm3 := nw_find hnA hq3 hqi3
        have hcA : H5.cell (vat vmA (q3 * 4 + 3)) = some (.bool false) := by rw [← hm3]; exact hvmA.mk hq3 3 _ rfl
        repeat (first | refine a1 ?_ | refine a5 ?_ | refine s_fieldB ?_ | refine s_fieldV ?_ | refine s_loadB ?_ | refine s_loadH ?_ | refine s_index ?_)
        rw [decide_eq_false (show ¬ (q3 : Int) < 0 by omega)]
        skip
        refine Runs.ret1 Try.func5 Try.results5 rfl (fun w hm => hR _ w _ H _ (List.mem_cons_self ..) (Snap.le.refl _) ?_ hm)
        rfl
end Go.Proofs.Ytbiohkncdlhigaa

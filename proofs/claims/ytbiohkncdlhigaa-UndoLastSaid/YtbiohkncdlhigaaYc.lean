/-
  Contract: the past without a commit is one in which it never was. Conditions: bytes are bytes.
-/
import Derived.Test.YtbiohkncdlhigaaYc0
namespace Go.Proofs.Ytbiohkncdlhigaa
open Go Go.RowKit

theorem doV {H : Snap} {vd vs : Value} {p q : Pst} {s : Stp} {k : Int} (hd : SliceRep H DocL vd p.ds) (hs : SliceRep H StepL vs p.ss) (hdv : ∀ d ∈ p.ds, validD d) (hdl : p.ds.length ≤ 100) (hsl : p.ss.length ≤ 900) (ht : s.e.tx.length ≤ 100000) (he : doP p s = (q, k)) :
    Pure Try.prog 21 #[.agg #[vd, vs], stpV s] H (fun H' r => ∃ vd' vs', r = .tuple #[.agg #[vd', vs'], .int .i64 k] ∧ SliceRep H' DocL vd' q.ds ∧ SliceRep H' StepL vs' q.ss) := by
  have h := udo_c (s := s) hd hs hdv hdl hsl ht
  change Pure Try.prog 21 _ H (fun H' r => ∃ v, r = .tuple #[v, .int .i64 (doP p s).2] ∧ PastR H' v (doP p s).1) at h
  rw [he] at h
  refine h.mono ?_
  rintro H' r _ ⟨v, rfl, vd', vs', rfl, h1, h2⟩
  exact ⟨vd', vs', rfl, h1, h2⟩
theorem wutE {H : Snap} {vd vs : Value} {p q : Pst} {i k : Int} (hd : SliceRep H DocL vd p.ds) (hs : SliceRep H StepL vs p.ss) (hg : GoodP p) (he : withoutP p i = (q, k)) :
    Pure Try.prog 24 #[.agg #[vd, vs], .int .i64 i] H (fun H' r => ∃ vd' vs', r = .tuple #[.agg #[vd', vs'], .int .i64 k] ∧ SliceRep H' DocL vd' q.ds ∧ SliceRep H' StepL vs' q.ss) := by
  have h := uwithout_c (i := i) hd hs hg
  change Pure Try.prog 24 _ H (fun H' r => ∃ v, r = .tuple #[v, .int .i64 (withoutP p i).2] ∧ PastR H' v (withoutP p i).1) at h
  rw [he] at h
  refine h.mono ?_
  rintro H' r _ ⟨v, rfl, vd', vs', rfl, h1, h2⟩
  exact ⟨vd', vs', rfl, h1, h2⟩
theorem wut_good {p : Pst} {k : Nat} {s : Stp} (h : undoP p (k : Int) = (undP p k s, [], 0)) : withoutP p (k : Int) = (⟨(undP p k s).ds, cutS (undP p k s).ss k⟩, 0) := by
  unfold withoutP
  rw [h]
  rfl
theorem wut_bad {p : Pst} {k : Nat} {L : List Int} (h : undoP p (k : Int) = (nilP, L, 320)) : withoutP p (k : Int) = (nilP, 320) := by
  unfold withoutP
  rw [h]
  rfl
set_option maxHeartbeats 4000000 in
theorem forgets_c {H : Snap} {v : Value} {l : List Rq} {n : Int} (hv : SliceRep H RqL v l) (hx : ∀ x ∈ l, okRq x) (hn : isByte n) : Pure Try.prog 9 #[v, .int .u8 n] H (fun _ r => r = .bool true) := by
  obtain ⟨hg, hml⟩ := madeP_good l (min l.length 14) (by omega)
  have hl2 := madeP_len l (min l.length 14)
  have hmc := madeP_c hv hx
  generalize madeP l (min l.length 14) = p at *
  refine Pure.intro Try.func9 rfl Try.ntmps9 rfl (fun E R hM hR => ?_)
  repeat (first | refine a1 ?_ | refine a4 ?_ | refine a5 ?_ | refine a6 ?_)
  refine RW.callV rfl (usanity_c (H := H)) rfl rfl ?_
  rintro _ _ rfl
  repeat (first | refine a1 ?_ | refine a4 ?_ | refine a5 ?_ | refine a6 ?_)
  refine RW.call rfl (hmc) rfl rfl ?_
  rintro _ H1 ⟨vd, vs, rfl, hd, hs⟩ hle1
  have ho1 := hd.isSl.one1
  have ho2 := hs.isSl.one1
  have hid := hd.isSl
  have his := hs.isSl
  have hsz : p.ss.length ≤ 50 := hg.sz
  refine RW.alloc rfl rfl rfl (fun b6 => ?_)
  repeat (first | refine a1 ?_ | refine a4 ?_ | refine a5 ?_ | refine a6 ?_ | refine s_loadBs ?_ | refine a9 ?_)
  refine RW.callV rfl (chosen_c (H := H1) (n := n) hd hs (by omega) hn) rfl rfl ?_
  rintro _ _ rfl
  repeat (first | refine a1 ?_ | refine a4 ?_ | refine a5 ?_ | refine a6 ?_)
  rcases chosen_ok (ss := p.ss) (n := n) with hch | hch
  · rw [hch]
    repeat (first | refine a1 ?_ | refine a4 ?_ | refine a5 ?_ | refine a6 ?_ | refine a7 ?_)
    refine Runs.ret1 Try.func9 Try.results9 rfl (fun w hm => hR _ w _ H _ (List.mem_cons_self ..) (Snap.le.refl _) ?_ hm)
    rfl
  obtain ⟨k, s, hk, hsk, hs0, hsu⟩ := comB_some hch
  rw [hk]
  have hkl := (List.getElem?_eq_some_iff.1 hsk).1
  rcases undoP_cases hsk hs0 hsu with ⟨hdn, hun⟩ | ⟨hdn, hun⟩
  · have hw : allW s.app (markS s) (p.ss.drop (k + 1)) := (dep_nil rfl).1 hdn
    have hgq := undP_good hg hsk hs0 hsu hw
    have hql : (undP p k s).ds.length = 2 := by simp [undP, hl2]
    have hqs : (undP p k s).ss.length = p.ss.length := undS_length hsk
    obtain ⟨s', hs', _, _, _, _, hsu', _⟩ := undS_at hsk hsu hsk
    have hsu2 : s'.un = true := by rw [hsu', hsu, decide_eq_true rfl]; rfl
    have hwo := wut_good hun
    have hqk : (undP p k s).ss[k]? = some s' := hs'
    have hue := fun (HH : Snap) (hle : H1.le HH) => undE (H := HH) (p := p) (i := (k : Int)) (hd.mono hle) (hs.mono hle) hg
    rw [hun] at hue
    generalize undP p k s = q at *
    have hcl : (cutS q.ss k).length = p.ss.length - 1 := by rw [cutS_length (by omega), hqs]
    repeat (first | refine a1 ?_ | refine a4 ?_ | refine a6 ?_ | refine s_loadBs ?_ | refine a8 ?_)
    refine RW.call rfl (wutE (H := H1) hd hs hg hwo) rfl rfl ?_
    rintro _ H2 ⟨vd2, vs2, rfl, hd2', hs2'⟩ hle2
    dsimp only at hd2' hs2' ⊢
    have o1 := hd2'.isSl.one1
    have i1 := hd2'.isSl
    have i2 := hs2'.isSl
    have o2 := hs2'.isSl.one1
    repeat (refine a1 ?_)
    refine RW.alloc rfl rfl rfl (fun b8 => ?_)
    repeat (first | refine a1 ?_ | refine a4 ?_ | refine a5 ?_ | refine a6 ?_ | refine s_loadBs ?_ | refine a9 ?_)
    refine RW.call rfl (hue H2 hle2) rfl rfl ?_
    rintro _ H3 ⟨vd3, vs3, vl3, rfl, hd3', hs3', hl3'⟩ hle3
    dsimp only at hd3' hs3' hl3' ⊢
    have o3 := hd3'.isSl.one1
    have i3 := hd3'.isSl
    have o4 := hs3'.isSl.one1
    have o5 := hl3'.isSl.one1
    refine RW.alloc rfl rfl rfl (fun b10 => ?_)
    refine RW.storeB rfl rfl rfl (by simp [allOne, cellsL, one1]; exact ⟨o3, o4, o5⟩) rfl ?_
    repeat (first | refine a1 ?_ | refine a4 ?_ | refine a5 ?_ | refine a6 ?_ | refine s_fieldB ?_ | refine s_loadB ?_ | refine s_len ?_ | refine s_subI ?_ | refine a8 ?_)
    rw [decide_eq_false (show ¬ (((cutS q.ss k).length : Int) ≠ (p.ss.length : Int) - 1) by omega)]
    repeat (first | refine a1 ?_ | refine s_fieldB ?_ | refine s_loadB ?_ | refine s_len ?_)
    rw [hql, show decide (((2 : Nat) : Int) ≠ 2) = false by decide]
    repeat (first | refine a1 ?_ | refine a5 ?_ | refine s_fieldB ?_ | refine s_loadB ?_ | refine s_len ?_)
    rw [hql, show decide (((2 : Nat) : Int) ≠ 2) = false by decide]
    repeat (first | refine a4 ?_ | refine a6 ?_ | refine a8 ?_)
    have hd2 := hd2'.mono hle3
    have hs2 := hs2'.mono hle3
    refine RW.call rfl (new_c (H := H3) (n := 2) (by decide)) rfl rfl ?_
    rintro _ H4 ⟨vd4, vs4, rfl, hd4, hs4⟩ hle4
    have o6 := hd4.isSl.one1
    have o7 := hs4.isSl.one1
    refine RW.alloc rfl rfl rfl (fun b11 => ?_)
    repeat (first | refine a1 ?_ | refine a4 ?_ | refine a5 ?_ | refine a6 ?_ | refine a9 ?_)
    generalize hLe : cutS q.ss k = L at *
    refine Runs.loop (fun s : Nat × Snap × Pst × Value × Value => s.1 ≤ L.length ∧ H3.le s.2.1 ∧ DoneN s.2.2.1 (L.take s.1) ∧ SliceRep s.2.1 DocL s.2.2.2.1 s.2.2.1.ds ∧ SliceRep s.2.1 StepL s.2.2.2.2 s.2.2.1.ss) (fun s => L.length - s.1) (fun s => [s.2.1, H3, H]) (fun s => [.blk b11 27 [s.2.2.2.1, s.2.2.2.2], .blk b10 40 [vd3, vs3, vl3, .int .i64 0], .blk b8 27 [vd2, vs2]]) (fun s => [(5, .bool true), (8, .pointer (some ⟨b8, 0, none⟩)), (10, .pointer (some ⟨b10, 0, none⟩)), (11, .pointer (some ⟨b11, 0, none⟩)), (12, .int .i64 (s.1 : Int))]) (0, H4, newP 2, vd4, vs4) ⟨Nat.zero_le _, hle4, done_nil, hd4, hs4⟩ (fun h => by
      refine Runs.weak (h) (by repeat (first | exact trivial | refine And.intro rfl ?_)) (fun x hx => List.mem_cons_of_mem _ (SubH.h x hx)) (by repeat (first | exact List.nil_sublist _ | exact List.Sublist.refl _ | refine List.Sublist.cons_cons _ ?_ | refine List.Sublist.cons _ ?_))) ?_
    rintro ⟨j, Hk, N, vd5, vs5⟩ ⟨hj, hleK, hN, hd5, hs5⟩ ih
    dsimp only at hj hleK hN hd5 hs5 ih ⊢
    have o8 := hd5.isSl.one1
    have o9 := hs5.isSl.one1
    repeat (first | refine a1 ?_ | refine a4 ?_ | refine a5 ?_ | refine a6 ?_ | refine s_fieldB ?_ | refine s_loadB ?_ | refine s_len ?_)
    refine Runs.cond_d rfl (fun hlt => ?_) (fun hlt => ?_)
    · obtain ⟨t, ht⟩ : ∃ t, L[j]? = some t := ⟨_, List.getElem?_eq_getElem (by omega)⟩
      have ht8 := hs2.st ht
      have ht7 : H3.cell (vat vs2 (j * 8 + 7)) = some (.bool t.un) := ht8 7 _ rfl
      have hcut := cut_step (N := N) (j := j) (t := t) hgq hql hqk hsu2 (by rw [hLe]; exact hN) (by rw [hLe]; exact ht)
      rw [hLe] at hcut
      repeat (first | refine a1 ?_ | refine a4 ?_ | refine a5 ?_ | refine a6 ?_ | refine s_fieldB ?_ | refine s_fieldV ?_ | refine s_loadB ?_ | refine s_loadH ?_ | refine s_index ?_)
      cases hun7 : t.un with
      | true =>
        repeat (first | refine a1 ?_ | refine a4 ?_ | refine a5 ?_ | refine a6 ?_ | refine s_addI ?_ | refine a7 ?_)
        refine Runs.weak (ih (j + 1, Hk, N, vd5, vs5) ⟨by dsimp only; omega, hleK, hcut.1 hun7, hd5, hs5⟩ (by dsimp only; omega)) (by repeat (first | exact trivial | refine And.intro rfl ?_)) (fun x hx => List.mem_cons_of_mem _ (SubH.h x hx)) (by repeat (first | exact List.nil_sublist _ | exact List.Sublist.refl _ | refine List.Sublist.cons_cons _ ?_ | refine List.Sublist.cons _ ?_))
      | false =>
        obtain ⟨N', hdo, hN'⟩ := hcut.2 hun7
        have htx : t.e.tx.length ≤ 100000 := by
          obtain ⟨i, hi, _⟩ := cutS_get (ss := q.ss) (k := k) (j := j) (by omega) (by rw [hLe]; exact ht)
          have := hgq.tx t (List.mem_of_getElem? hi)
          omega
        have hNl : N.ds.length ≤ 100 := by have := hN.1; omega
        have hNs : N.ss.length ≤ 900 := by have := hN.2.1; rw [List.length_take] at this; have := hgq.sz; omega
        repeat (first | refine a4 ?_ | refine a8 ?_)
        refine Runs.regionD _ _ [11] (fun x hx => List.mem_cons_of_mem _ hx) (List.Sublist.refl _) (by kernel_rfl) ?_
        refine t_loadBs 0 ?_
        refine t_fieldB 1 ?_
        refine t_loadB 2 ?_
        refine d2 3 ?_
        refine t_index 4 ?_
        refine t_loadHs 5 ?_
        refine DW.float 10 rfl rfl ?_
        refine DWf.call 6 rfl rfl rfl (by kernel_rfl) (by kernel_rfl) rfl rfl rfl rfl rfl rfl (doV (H := Hk) (s := t) hd5 hs5 (done_valid hN) hNl hNs htx hdo) ?_
        rintro _ H6 ⟨vd6, vs6, rfl, hd6, hs6⟩ hle6
        have oA := hd6.isSl.one1
        have oB := hs6.isSl.one1
        refine DWf.qF 7 rfl rfl (by kernel_rfl) (qev_eq rfl) (fun _ => qev_eq rfl) rfl rfl ?_
        refine DWf.qF 8 rfl rfl (by kernel_rfl) (qev_eq rfl) (fun _ => qev_eq rfl) rfl rfl ?_
        refine DWf.qF 9 rfl rfl (by kernel_rfl) (qev_eq rfl) (fun _ => qev_eq rfl) rfl rfl ?_
        refine DWf.take rfl (by kernel_rfl) rfl rfl rfl (fun b13 => ?_)
        simp only [List.cons_append, List.nil_append]
        refine DW.storeB 11 rfl (by kernel_rfl) rfl rfl rfl rfl (by first | rfl | (simp [allOne, cellsL, one1]; done) | (simp [allOne, cellsL, one1]; first | assumption | (refine ⟨?_, ?_⟩ <;> assumption) | (refine ⟨?_, ?_, ?_⟩ <;> assumption))) rfl ?_
        refine d2 12 ?_
        refine DW.done (by kernel_rfl) ?_
        repeat (first | refine a1 ?_ | refine a4 ?_ | refine a5 ?_ | refine a6 ?_ | refine s_loadBs ?_ | refine s_addI ?_ | refine a8 ?_ | refine a9 ?_)
        refine Runs.weak (ih (j + 1, H6, N', vd6, vs6) ⟨by dsimp only; omega, hleK.trans hle6, hN', hd6, hs6⟩ (by dsimp only; omega)) (by repeat (first | exact trivial | refine And.intro rfl ?_)) (fun x hx => List.mem_cons_of_mem _ (SubH.h x hx)) (by repeat (first | exact List.nil_sublist _ | exact List.Sublist.refl _ | refine List.Sublist.cons_cons _ ?_ | refine List.Sublist.cons _ ?_))
    · have hjl : j = L.length := by omega
      subst hjl
      rw [List.take_length] at hN
      have iN := hd5.isSl
      rw [hN.1] at iN
      repeat (first | refine a1 ?_ | refine a4 ?_ | refine a5 ?_ | refine a6 ?_ | refine s_fieldB ?_ | refine s_loadB ?_ | refine s_len ?_ | refine a8 ?_)
      refine Runs.loop (fun b : Nat => b ≤ 2) (fun b => 2 - b) (fun _ => [Hk, H3, H]) (fun _ => [.blk b11 27 [vd5, vs5], .blk b10 40 [vd3, vs3, vl3, .int .i64 0], .blk b8 27 [vd2, vs2]]) (fun b => [(5, .bool true), (8, .pointer (some ⟨b8, 0, none⟩)), (10, .pointer (some ⟨b10, 0, none⟩)), (11, .pointer (some ⟨b11, 0, none⟩)), (15, .int .i64 (b : Int))]) 0 (by omega) (fun h => by
        refine Runs.weak (h) (by repeat (first | exact trivial | refine And.intro rfl ?_)) (fun x hx => List.mem_cons_of_mem _ (SubH.h x hx)) (by repeat (first | exact List.nil_sublist _ | exact List.Sublist.refl _ | refine List.Sublist.cons_cons _ ?_ | refine List.Sublist.cons _ ?_))) ?_
      intro b hb ih2
      repeat (first | refine a1 ?_ | refine a4 ?_ | refine a5 ?_ | refine a6 ?_)
      refine Runs.cond_d rfl (fun hlt2 => ?_) (fun hlt2 => ?_)
      · have hNq := cut_docs hgq hql hqk hsu2 (by rw [hLe]; exact hN) (b := b) (by omega)
        obtain ⟨x, hx2⟩ : ∃ x, q.ds[b]? = some x := ⟨_, List.getElem?_eq_getElem (by omega)⟩
        rw [hx2] at hNq
        obtain ⟨vx, hvx, hcx⟩ := hd2.dc hx2
        obtain ⟨vy, hvy, hcy⟩ := hd3'.dc hx2
        obtain ⟨vz, hvz, hcz⟩ := hd5.dc hNq
        repeat (refine a4 ?_)
        refine Runs.regionD _ _ [] (fun x hx => List.mem_cons_of_mem _ hx) (List.Sublist.refl _) (by kernel_rfl) ?_
        refine t_fieldB 0 ?_
        refine t_loadB 1 ?_
        refine d2 2 ?_
        refine t_index 3 ?_
        refine t_loadHs 4 ?_
        refine t_fieldB 5 ?_
        refine t_loadB 6 ?_
        refine d2 7 ?_
        refine t_index 8 ?_
        refine t_loadHs 9 ?_
        refine DW.callV 10 rfl (by kernel_rfl) rfl (same_c (H := Hk) (a := x) (b := x) ⟨vz, rfl, hvz⟩ ⟨vx, rfl, hvx.mono hleK⟩) rfl rfl ?_
        rintro _ _ rfl
        rw [decide_eq_true (show x = x from rfl)]
        refine d1 11 2 ?_
        refine t_fieldB 13 ?_
        refine t_loadB 14 ?_
        refine d2 15 ?_
        refine t_index 16 ?_
        refine t_loadHs 17 ?_
        refine t_fieldB 18 ?_
        refine t_fieldB 19 ?_
        refine t_loadB 20 ?_
        refine d2 21 ?_
        refine t_index 22 ?_
        refine t_loadHs 23 ?_
        refine DW.callV 24 rfl (by kernel_rfl) rfl (same_c (H := Hk) (a := x) (b := x) ⟨vx, rfl, hvx.mono hleK⟩ ⟨vy, rfl, hvy.mono hleK⟩) rfl rfl ?_
        rintro _ _ rfl
        rw [decide_eq_true (show x = x from rfl)]
        refine d1 25 2 ?_
        refine DW.done (by kernel_rfl) ?_
        repeat (first | refine a1 ?_ | refine a4 ?_ | refine a5 ?_ | refine a6 ?_ | refine s_addI ?_ | refine a8 ?_)
        refine Runs.weak (ih2 (b + 1) (by omega) (by omega)) (by repeat (first | exact trivial | refine And.intro rfl ?_)) (fun x hx => List.mem_cons_of_mem _ (SubH.h x hx)) (by repeat (first | exact List.nil_sublist _ | exact List.Sublist.refl _ | refine List.Sublist.cons_cons _ ?_ | refine List.Sublist.cons _ ?_))
      · repeat (first | refine a1 ?_ | refine a4 ?_ | refine a5 ?_ | refine a6 ?_)
        refine Runs.ret1 Try.func9 Try.results9 rfl (fun w hm => hR _ w _ H _ (List.mem_cons_self ..) (Snap.le.refl _) ?_ hm)
        rfl
  · have hwo := wut_bad hun
    have hue := undE (H := H1) (p := p) (i := (k : Int)) hd hs hg
    rw [hun] at hue
    repeat (first | refine a1 ?_ | refine a4 ?_ | refine a6 ?_ | refine s_loadBs ?_ | refine a8 ?_)
    refine RW.call rfl (wutE (H := H1) hd hs hg hwo) rfl rfl ?_
    rintro _ H2 ⟨vd2, vs2, rfl, hd2', hs2'⟩ hle2
    have o1 := hd2'.isSl.one1
    have o2 := hs2'.isSl.one1
    repeat (refine a1 ?_)
    refine RW.alloc rfl rfl rfl (fun b8 => ?_)
    repeat (first | refine a1 ?_ | refine a4 ?_ | refine a5 ?_ | refine a6 ?_ | refine s_loadBs ?_ | refine a9 ?_)
    refine RW.call rfl ((hue : Pure _ _ _ H1 _)) rfl rfl ?_
    rintro _ H3 ⟨vd3, vs3, vl3, rfl, hd3', hs3', hl3'⟩ hle3
    have o3 := hd3'.isSl.one1
    have o4 := hs3'.isSl.one1
    have o5 := hl3'.isSl.one1
    refine RW.alloc rfl rfl rfl (fun b10 => ?_)
    refine RW.storeB rfl rfl rfl (by simp [allOne, cellsL, one1]; exact ⟨o3, o4, o5⟩) rfl ?_
    repeat (first | refine a1 ?_ | refine a3 ?_ | refine a4 ?_ | refine a5 ?_ | refine a6 ?_ | refine s_fieldB ?_ | refine s_loadB ?_ | refine a7 ?_)
    refine Runs.ret1 Try.func9 Try.results9 rfl (fun w hm => hR _ w _ H _ (List.mem_cons_self ..) (Snap.le.refl _) ?_ hm)
    rfl
end Go.Proofs.Ytbiohkncdlhigaa

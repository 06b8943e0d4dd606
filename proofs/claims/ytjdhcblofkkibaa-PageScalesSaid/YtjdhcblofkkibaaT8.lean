/-
  All ways of the reference. Conditions: the graph is valid, and the ways are not more than asked for.
-/
import Derived.Test.YtjdhcblofkkibaaT7
namespace Go.Proofs.Ytjdhcblofkkibaa
open Go Go.RowKit

def ext (i c : Int) (w : Cand) : Cand := ⟨i :: w.links, w.cost + c⟩
/-- All ways from a node on, in the order in which the reference finds them. -/
def waysG (gl : List Lnk) (N : Int) : Nat → Int → List Cand
  | 0, _ => []
  | fu + 1, n => if n = N - 1 then [⟨[], 0⟩] else gl.zipIdx.flatMap fun p => if p.1.f = n then (waysG gl N fu p.1.t).map (ext p.2 p.1.c) else []
def waysTo (gl : List Lnk) (N : Int) (fu : Nat) (n : Int) (k : Nat) : List Cand :=
  (gl.zipIdx.take k).flatMap fun p => if p.1.f = n then (waysG gl N fu p.1.t).map (ext p.2 p.1.c) else []
theorem waysTo_succ {gl : List Lnk} {N : Int} {fu : Nat} {n : Int} {k : Nat} {x : Lnk} (hx : gl[k]? = some x) :
    waysTo gl N fu n (k + 1) = waysTo gl N fu n k ++ if x.f = n then (waysG gl N fu x.t).map (ext k x.c) else [] := by
  unfold waysTo
  rw [take_snoc_of (x := (x, k)) (by simp [hx]), List.flatMap_append]
  simp
theorem waysTo_le {gl : List Lnk} {N : Int} {fu : Nat} {n : Int} (k : Nat) : (waysTo gl N fu n k).length ≤ (gl.zipIdx.flatMap fun p => if p.1.f = n then (waysG gl N fu p.1.t).map (ext p.2 p.1.c) else []).length := by
  conv => rhs; rw [← List.take_append_drop k gl.zipIdx, List.flatMap_append, List.length_append]
  exact Nat.le_add_right _ _
theorem waysTo_all {gl : List Lnk} {N : Int} {fu : Nat} {n : Int} {k : Nat} (h : gl.length ≤ k) : waysTo gl N fu n k = gl.zipIdx.flatMap fun p => if p.1.f = n then (waysG gl N fu p.1.t).map (ext p.2 p.1.c) else [] := by
  unfold waysTo
  rw [List.take_of_length_le (by simpa using h)]
theorem waysG_bound {gl : List Lnk} {N : Int} (hg : ∀ x ∈ gl, okL N x) : ∀ fu n, ∀ w ∈ waysG gl N fu n, w.links.length ≤ fu ∧ 0 ≤ w.cost ∧ w.cost ≤ fu * 1000000
  | 0, n, w, hw => by simp [waysG] at hw
  | fu + 1, n, w, hw => by
    unfold waysG at hw
    split at hw
    · simp at hw; subst hw; simp; omega
    · obtain ⟨p, hp, hw⟩ := List.mem_flatMap.1 hw
      have hpo := hg p.1 (by
        obtain ⟨i, hi⟩ := List.getElem?_of_mem hp
        rw [List.getElem?_zipIdx] at hi
        simp at hi
        obtain ⟨a, ha, rfl⟩ := hi
        exact List.mem_of_getElem? ha)
      unfold okL at hpo
      split at hw
      · obtain ⟨u, hu, rfl⟩ := List.mem_map.1 hw
        have := waysG_bound hg fu _ u hu
        simp only [ext, List.length_cons]
        omega
      · simp at hw

set_option maxHeartbeats 2000000 in
theorem ways_c {vl : Value} {N most : Nat} {gl : List Lnk} (hmost : most ≤ 1000000) (hg : validG N gl) : ∀ (fu : Nat) (n : Int) (H : Snap), SliceRep H LinkL vl gl → fu ≤ 4000 → 0 ≤ n → n < N → (N : Int) ≤ n + fu → (waysG gl N fu n).length ≤ most →
    Pure Try.prog 32 #[.agg #[.int .i64 (N : Int), vl], .int .i64 n, .int .i64 (most : Int)] H (fun H' r => SliceRep H' CandL r (waysG gl N fu n)) := by
  intro fu
  induction fu with
  | zero => intro n H hl h h0 h1 h2; omega
  | succ fu IH =>
  intro n H hl hfu4 hn0 hnN hfu hm
  have hb := hl.isSl.bound
  have hg' := hg
  obtain ⟨hN1, hN2, hlen, hall⟩ := hg
  have hwb := waysG_bound hall fu
  unfold waysG at hm ⊢
  refine Pure.intro Try.func32 rfl Try.ntmps32 rfl (fun E R hM hR => ?_)
  repeat (first | refine a1 ?_ | refine a3 ?_ | refine a4 ?_ | refine a5 ?_ | refine a6 ?_ | refine s_fieldB ?_ | refine s_fieldV ?_ | refine s_loadB ?_ | refine s_loadH ?_ | refine s_loadR ?_ | refine s_subI ?_ | refine s_build ?_ | refine s_len ?_ | refine s_lenR ?_ | refine s_index ?_ | refine s_indexR ?_ | refine s_loadBs ?_ | refine s_loadHs ?_ | refine s_addI ?_ | refine a7 ?_ | refine a8 ?_)
  refine RW.box rfl rfl rfl rfl (fun b3 => ?_)
  repeat (first | refine a1 ?_ | refine a3 ?_ | refine a4 ?_ | refine a5 ?_ | refine a6 ?_ | refine s_fieldB ?_ | refine s_fieldV ?_ | refine s_loadB ?_ | refine s_loadH ?_ | refine s_loadR ?_ | refine s_subI ?_ | refine s_build ?_ | refine s_len ?_ | refine s_lenR ?_ | refine s_index ?_ | refine s_indexR ?_ | refine s_loadBs ?_ | refine s_loadHs ?_ | refine s_addI ?_ | refine a7 ?_ | refine a8 ?_)
  refine RW.buildSlice rfl rfl rfl rfl rfl rfl rfl (fun v7 hv7 => ?_)
  repeat (first | refine a1 ?_ | refine a3 ?_ | refine a4 ?_ | refine a5 ?_ | refine a6 ?_ | refine s_fieldB ?_ | refine s_fieldV ?_ | refine s_loadB ?_ | refine s_loadH ?_ | refine s_loadR ?_ | refine s_subI ?_ | refine s_build ?_ | refine s_len ?_ | refine s_lenR ?_ | refine s_index ?_ | refine s_indexR ?_ | refine s_loadBs ?_ | refine s_loadHs ?_ | refine s_addI ?_ | refine a7 ?_ | refine a8 ?_)
  refine Runs.cond_d rfl (fun heq => ?_) (fun heq => ?_)
  · rw [if_pos heq] at hR
    repeat (first | refine a1 ?_ | refine a3 ?_ | refine a4 ?_ | refine a5 ?_ | refine a6 ?_ | refine s_fieldB ?_ | refine s_fieldV ?_ | refine s_loadB ?_ | refine s_loadH ?_ | refine s_loadR ?_ | refine s_subI ?_ | refine s_build ?_ | refine s_len ?_ | refine s_lenR ?_ | refine s_index ?_ | refine s_indexR ?_ | refine s_loadBs ?_ | refine s_loadHs ?_ | refine s_addI ?_ | refine a7 ?_ | refine a8 ?_)
    refine RW.buildSlice rfl rfl rfl rfl rfl rfl rfl (fun v20 hv20 => ?_)
    refine RW.appendR rfl rfl (by assumption) rfl rfl rfl (by decide) (by omega) (by omega) (fun _ => inferInstance) rfl rfl (fun v21 hv21 => ?_)
    repeat (first | refine a1 ?_ | refine a3 ?_ | refine a4 ?_ | refine a5 ?_ | refine a6 ?_ | refine s_fieldB ?_ | refine s_fieldV ?_ | refine s_loadB ?_ | refine s_loadH ?_ | refine s_loadR ?_ | refine s_subI ?_ | refine s_build ?_ | refine s_len ?_ | refine s_lenR ?_ | refine s_index ?_ | refine s_indexR ?_ | refine s_loadBs ?_ | refine s_loadHs ?_ | refine s_addI ?_ | refine a7 ?_ | refine a8 ?_)
    refine Runs.freeze (H := H) v21 hM (fun H2 hle2 hs2 hc2 => ?_)
    refine Runs.ret1 Try.func32 Try.results32 rfl (fun w hm => hR _ w _ H2 _ (by simp) (hle2) ?_ hm)
    refine SliceRep.of_row hs2 rfl ?_ (Snap.le.refl _) hc2
    exact ⟨[.slice none 0 0, .int .i64 0], [], rfl, ⟨_, rfl, SliceRep.nil⟩, rfl⟩
  · rw [if_neg heq] at hm hR
    repeat (first | refine a1 ?_ | refine a3 ?_ | refine a4 ?_ | refine a5 ?_ | refine a6 ?_ | refine s_fieldB ?_ | refine s_fieldV ?_ | refine s_loadB ?_ | refine s_loadH ?_ | refine s_loadR ?_ | refine s_subI ?_ | refine s_build ?_ | refine s_len ?_ | refine s_lenR ?_ | refine s_index ?_ | refine s_indexR ?_ | refine s_loadBs ?_ | refine s_loadHs ?_ | refine s_addI ?_ | refine a7 ?_ | refine a8 ?_)
    refine Runs.loop (fun (s : Nat × Snap × Value × List Value) => s.1 ≤ gl.length ∧ H.le s.2.1 ∧ CellsRep s.2.1 CandL (waysTo gl N fu n s.1) s.2.2.2) (fun s => gl.length - s.1) (fun s => [s.2.1, H])
      (fun s => [.row 60 2 s.2.2.1 (waysTo gl N fu n s.1).length s.2.2.2, .blk b3 29 [.int .i64 (N : Int), vl]])
      (fun s => [(1, .int .i64 n), (2, .int .i64 (most : Int)), (3, .pointer (some ⟨b3, 0, none⟩)), (7, s.2.2.1), (8, .int .i64 (s.1 : Int))]) (0, H, v7, []) ⟨Nat.zero_le _, Snap.le.refl _, rfl⟩ (fun h => by
        refine Runs.weak (h) (by repeat (first | exact trivial | refine And.intro rfl ?_)) (fun x hx => List.mem_cons_of_mem _ (SubH.h x hx)) (by repeat (first | exact List.nil_sublist _ | exact List.Sublist.refl _ | refine List.Sublist.cons_cons _ ?_ | refine List.Sublist.cons _ ?_))) ?_
    rintro ⟨k, Hc, v, cs⟩ ⟨hk, hle, hcs⟩ ih
    dsimp only at hk hle hcs ⊢
    have htk := waysTo_le (gl := gl) (N := (N : Int)) (fu := fu) (n := n) k
    repeat (first | refine a1 ?_ | refine a3 ?_ | refine a4 ?_ | refine a5 ?_ | refine a6 ?_ | refine s_fieldB ?_ | refine s_fieldV ?_ | refine s_loadB ?_ | refine s_loadH ?_ | refine s_loadR ?_ | refine s_subI ?_ | refine s_build ?_ | refine s_len ?_ | refine s_lenR ?_ | refine s_index ?_ | refine s_indexR ?_ | refine s_loadBs ?_ | refine s_loadHs ?_ | refine s_addI ?_ | refine a7 ?_ | refine a8 ?_)
    refine Runs.cond_d rfl (fun hlt => ?_) (fun hlt => ?_)
    · obtain ⟨x, hx⟩ : ∃ x, gl[k]? = some x := ⟨_, List.getElem?_eq_getElem (by omega)⟩
      have hxo := hall x (List.mem_of_getElem? hx)
      unfold okL at hxo
      have hnext := waysTo_succ (N := (N : Int)) (fu := fu) (n := n) hx
      have htot := waysTo_le (gl := gl) (N := (N : Int)) (fu := fu) (n := n) (k + 1)
      rw [hnext] at htot
      repeat (first | refine a1 ?_ | refine a3 ?_ | refine a4 ?_ | refine a5 ?_ | refine a6 ?_ | refine s_fieldB ?_ | refine s_fieldV ?_ | refine s_loadB ?_ | refine s_loadH ?_ | refine s_loadR ?_ | refine s_subI ?_ | refine s_build ?_ | refine s_len ?_ | refine s_lenR ?_ | refine s_index ?_ | refine s_indexR ?_ | refine s_loadBs ?_ | refine s_loadHs ?_ | refine s_addI ?_ | refine a7 ?_ | refine a8 ?_)
      refine Runs.cond_d rfl (fun hne => ?_) (fun hne => ?_)
      · rw [if_neg hne, List.append_nil] at hnext
        repeat (first | refine a1 ?_ | refine a3 ?_ | refine a4 ?_ | refine a5 ?_ | refine a6 ?_ | refine s_fieldB ?_ | refine s_fieldV ?_ | refine s_loadB ?_ | refine s_loadH ?_ | refine s_loadR ?_ | refine s_subI ?_ | refine s_build ?_ | refine s_len ?_ | refine s_lenR ?_ | refine s_index ?_ | refine s_indexR ?_ | refine s_loadBs ?_ | refine s_loadHs ?_ | refine s_addI ?_ | refine a7 ?_ | refine a8 ?_)
        have h := ih (k + 1, Hc, v, cs) ⟨by dsimp only; omega, hle, by dsimp only; rw [hnext]; exact hcs⟩ (by dsimp only; omega)
        dsimp only at h
        rw [hnext] at h
        refine Runs.weak (h) (by repeat (first | exact trivial | refine And.intro rfl ?_)) (fun x hx => List.mem_cons_of_mem _ (SubH.h x hx)) (by repeat (first | exact List.nil_sublist _ | exact List.Sublist.refl _ | refine List.Sublist.cons_cons _ ?_ | refine List.Sublist.cons _ ?_))
      · have hxf : x.f = n := by omega
        rw [if_pos hxf] at hnext htot
        rw [List.length_append, List.length_map] at htot
        have hc8 := IH x.t H hl (by omega) (by omega) (by omega) (by omega) (by omega)
        repeat (first | refine a1 ?_ | refine a3 ?_ | refine a4 ?_ | refine a5 ?_ | refine a6 ?_ | refine s_fieldB ?_ | refine s_fieldV ?_ | refine s_loadB ?_ | refine s_loadH ?_ | refine s_loadR ?_ | refine s_subI ?_ | refine s_build ?_ | refine s_len ?_ | refine s_lenR ?_ | refine s_index ?_ | refine s_indexR ?_ | refine s_loadBs ?_ | refine s_loadHs ?_ | refine s_addI ?_ | refine a7 ?_ | refine a8 ?_)
        refine Runs.regionD _ _ [] (fun x hx => List.mem_cons_of_mem _ hx) (List.Sublist.refl _) (by kernel_rfl) ?_
        (first | refine t_loadBs 0 ?_ | refine t_loadHs 0 ?_)
        (first | refine t_fieldB 1 ?_ | refine t_fieldV 1 ?_)
        (first | refine t_loadB 2 ?_ | refine t_loadH 2 ?_ | refine t_loadR 2 ?_)
        refine d2 3 ?_
        (first | refine t_index 4 ?_ | refine t_indexR 4 ?_)
        (first | refine t_fieldB 5 ?_ | refine t_fieldV 5 ?_)
        (first | refine t_loadB 6 ?_ | refine t_loadH 6 ?_ | refine t_loadR 6 ?_)
        refine d2 7 ?_
        refine DW.call 8 rfl (by kernel_rfl) rfl (hc8) rfl rfl ?_
        rintro vr Hr hvr hler
        refine d2 9 ?_
        refine DW.done (by kernel_rfl) ?_
        repeat (first | refine a1 ?_ | refine a3 ?_ | refine a4 ?_ | refine a5 ?_ | refine a6 ?_ | refine s_fieldB ?_ | refine s_fieldV ?_ | refine s_loadB ?_ | refine s_loadH ?_ | refine s_loadR ?_ | refine s_subI ?_ | refine s_build ?_ | refine s_len ?_ | refine s_lenR ?_ | refine s_index ?_ | refine s_indexR ?_ | refine s_loadBs ?_ | refine s_loadHs ?_ | refine s_addI ?_ | refine a7 ?_ | refine a8 ?_)
        have hbr := hvr.isSl.bound
        have hwx := hwb x.t
        generalize waysG gl (N : Int) fu x.t = rest at *
        refine Runs.loop (fun (s : Nat × Snap × Value × List Value) => s.1 ≤ rest.length ∧ H.le s.2.1 ∧ CellsRep s.2.1 CandL (waysTo gl N fu n k ++ (rest.take s.1).map (ext k x.c)) s.2.2.2) (fun s => rest.length - s.1) (fun s => [s.2.1, Hr, H])
          (fun s => [.row 60 2 s.2.2.1 ((waysTo gl N fu n k).length + s.1) s.2.2.2, .blk b3 29 [.int .i64 (N : Int), vl]])
          (fun s => [(1, .int .i64 n), (2, .int .i64 (most : Int)), (3, .pointer (some ⟨b3, 0, none⟩)), (7, s.2.2.1), (8, .int .i64 (k : Int)), (9, vr), (10, .int .i64 (s.1 : Int))]) (0, Hc, v, cs) ⟨Nat.zero_le _, hle, by simpa using hcs⟩ (fun h => by
            refine Runs.weak (h) (by repeat (first | exact trivial | refine And.intro rfl ?_)) (fun x hx => List.mem_cons_of_mem _ (SubH.h x hx)) (by repeat (first | exact List.nil_sublist _ | exact List.Sublist.refl _ | refine List.Sublist.cons_cons _ ?_ | refine List.Sublist.cons _ ?_))) ?_
        clear hcs hle
        rintro ⟨k2, Hc2, v2, cs2⟩ ⟨hk2, hle, hcs⟩ ih2
        dsimp only at hk2 hle hcs ⊢
        repeat (first | refine a1 ?_ | refine a3 ?_ | refine a4 ?_ | refine a5 ?_ | refine a6 ?_ | refine s_fieldB ?_ | refine s_fieldV ?_ | refine s_loadB ?_ | refine s_loadH ?_ | refine s_loadR ?_ | refine s_subI ?_ | refine s_build ?_ | refine s_len ?_ | refine s_lenR ?_ | refine s_index ?_ | refine s_indexR ?_ | refine s_loadBs ?_ | refine s_loadHs ?_ | refine s_addI ?_ | refine a7 ?_ | refine a8 ?_)
        refine RW.dec 50 rfl (fun hk2l => ?_) (fun hk2l => ?_)
        · obtain ⟨w, hw⟩ : ∃ w, rest[k2]? = some w := ⟨_, List.getElem?_eq_getElem (by omega)⟩
          obtain ⟨vx, hvx, hx0, hx1, _⟩ := hvr.cand hw
          have hwbw := hwx w (List.mem_of_getElem? hw)
          repeat (first | refine a1 ?_ | refine a3 ?_ | refine a4 ?_ | refine a5 ?_ | refine a6 ?_ | refine s_fieldB ?_ | refine s_fieldV ?_ | refine s_loadB ?_ | refine s_loadH ?_ | refine s_loadR ?_ | refine s_subI ?_ | refine s_build ?_ | refine s_len ?_ | refine s_lenR ?_ | refine s_index ?_ | refine s_indexR ?_ | refine s_loadBs ?_ | refine s_loadHs ?_ | refine s_addI ?_ | refine a7 ?_ | refine a8 ?_)
          refine Runs.cond_d rfl (fun hmst => ?_) (fun hmst => ?_)
          · repeat (first | refine a1 ?_ | refine a3 ?_ | refine a4 ?_ | refine a5 ?_ | refine a6 ?_ | refine s_fieldB ?_ | refine s_fieldV ?_ | refine s_loadB ?_ | refine s_loadH ?_ | refine s_loadR ?_ | refine s_subI ?_ | refine s_build ?_ | refine s_len ?_ | refine s_lenR ?_ | refine s_index ?_ | refine s_indexR ?_ | refine s_loadBs ?_ | refine s_loadHs ?_ | refine s_addI ?_ | refine a7 ?_ | refine a8 ?_)
            refine RW.buildSlice rfl rfl rfl rfl rfl rfl rfl (fun v59 hv59 => ?_)
            repeat (first | refine a1 ?_ | refine a3 ?_ | refine a4 ?_ | refine a5 ?_ | refine a6 ?_ | refine s_fieldB ?_ | refine s_fieldV ?_ | refine s_loadB ?_ | refine s_loadH ?_ | refine s_loadR ?_ | refine s_subI ?_ | refine s_build ?_ | refine s_len ?_ | refine s_lenR ?_ | refine s_index ?_ | refine s_indexR ?_ | refine s_loadBs ?_ | refine s_loadHs ?_ | refine s_addI ?_ | refine a7 ?_ | refine a8 ?_)
            refine RW.appendH rfl rfl (hvx) (by rfl) rfl (by decide) (by omega) (by omega) (fun _ _ => inferInstance) rfl rfl (fun ds v65 hds hv65 => ?_)
            repeat (first | refine a1 ?_ | refine a3 ?_ | refine a4 ?_ | refine a5 ?_ | refine a6 ?_ | refine s_fieldB ?_ | refine s_fieldV ?_ | refine s_loadB ?_ | refine s_loadH ?_ | refine s_loadR ?_ | refine s_subI ?_ | refine s_build ?_ | refine s_len ?_ | refine s_lenR ?_ | refine s_index ?_ | refine s_indexR ?_ | refine s_loadBs ?_ | refine s_loadHs ?_ | refine s_addI ?_ | refine a7 ?_ | refine a8 ?_)
            have hds' := i64_cells hds
            subst hds'
            refine Runs.freeze (H := Hc2) v65 hM (fun H1 hle1 hs1 hc1 => ?_)
            have hone := hs1.one1
            have hcv := hcs.length
            have hrow : SliceRep H1 I64 v65 (k :: w.links) := SliceRep.of_row hs1 (by simp; omega) (ints_rep H1 _) (Snap.le.refl _) hc1
            obtain ⟨A65, cap65, rfl, _, _⟩ := hs1
            have hload : H.cell (vat vl (k * 4 + 3)) = some (.int .i64 x.c) := hl.flat hx (j := 3) rfl
            refine Runs.regionD _ ([.blk b3 29 [.int .i64 (N : Int), vl]]) [] (fun x hx => List.mem_cons_of_mem _ hx) SubO.h (by kernel_rfl) ?_
            refine d1 0 4 ?_
            (first | refine t_index 4 ?_ | refine t_indexR 4 ?_)
            (first | refine t_fieldB 5 ?_ | refine t_fieldV 5 ?_)
            (first | refine t_loadB 6 ?_ | refine t_loadH 6 ?_ | refine t_loadR 6 ?_)
            (first | refine t_fieldB 7 ?_ | refine t_fieldV 7 ?_)
            (first | refine t_loadB 8 ?_ | refine t_loadH 8 ?_ | refine t_loadR 8 ?_)
            refine d2 9 ?_
            (first | refine t_index 10 ?_ | refine t_indexR 10 ?_)
            (first | refine t_fieldB 11 ?_ | refine t_fieldV 11 ?_)
            (first | refine t_loadB 12 ?_ | refine t_loadH 12 ?_ | refine t_loadR 12 ?_)
            refine t_addI 13 ?_
            refine t_build 14 ?_
            refine DW.buildSlice 15 rfl (by kernel_rfl) rfl rfl rfl rfl rfl rfl rfl (fun v81 hv81 => ?_)
            refine DW.appendR 16 rfl (by kernel_rfl) rfl rfl (by assumption) rfl rfl rfl (by decide) (by omega) (by omega) (fun _ => inferInstance) rfl rfl (fun _ => inferInstance) inferInstance (fun v82 hv82 => ?_)
            refine d2 17 ?_
            refine DW.done (by kernel_rfl) ?_
            repeat (first | refine a1 ?_ | refine a3 ?_ | refine a4 ?_ | refine a5 ?_ | refine a6 ?_ | refine s_fieldB ?_ | refine s_fieldV ?_ | refine s_loadB ?_ | refine s_loadH ?_ | refine s_loadR ?_ | refine s_subI ?_ | refine s_build ?_ | refine s_len ?_ | refine s_lenR ?_ | refine s_index ?_ | refine s_indexR ?_ | refine s_loadBs ?_ | refine s_loadHs ?_ | refine s_addI ?_ | refine a7 ?_ | refine a8 ?_)
            refine Runs.weak (ih2 (k2 + 1, H1, v82, _) ⟨by dsimp only; omega, hle.trans hle1, ?_⟩ (by dsimp only; omega)) (by repeat (first | exact trivial | refine And.intro rfl ?_)) (fun x hx => List.mem_cons_of_mem _ (SubH.h x hx)) (by repeat (first | exact List.nil_sublist _ | exact List.Sublist.refl _ | refine List.Sublist.cons_cons _ ?_ | refine List.Sublist.cons _ ?_))
            dsimp only
            rw [take_snoc_of hw, List.map_append, ← List.append_assoc]
            exact (hcs.mono hle1).append (CellsRep.one ⟨_, rfl, hrow⟩)
          · exfalso; omega
        · have hke : rest.take k2 = rest := List.take_of_length_le (by omega)
          rw [hke] at hcs
          repeat (first | refine a1 ?_ | refine a3 ?_ | refine a4 ?_ | refine a5 ?_ | refine a6 ?_ | refine s_fieldB ?_ | refine s_fieldV ?_ | refine s_loadB ?_ | refine s_loadH ?_ | refine s_loadR ?_ | refine s_subI ?_ | refine s_build ?_ | refine s_len ?_ | refine s_lenR ?_ | refine s_index ?_ | refine s_indexR ?_ | refine s_loadBs ?_ | refine s_loadHs ?_ | refine s_addI ?_ | refine a7 ?_ | refine a8 ?_)
          have hkl : k2 = rest.length := by omega
          subst hkl
          have h := ih (k + 1, Hc2, v2, cs2) ⟨by dsimp only; omega, hle, by dsimp only; rw [hnext]; exact hcs⟩ (by dsimp only; omega)
          dsimp only at h
          rw [hnext, List.length_append, List.length_map] at h
          refine Runs.weak (h) (by repeat (first | exact trivial | refine And.intro rfl ?_)) (fun x hx => List.mem_cons_of_mem _ (SubH.h x hx)) (by repeat (first | exact List.nil_sublist _ | exact List.Sublist.refl _ | refine List.Sublist.cons_cons _ ?_ | refine List.Sublist.cons _ ?_))
    · rw [waysTo_all (by omega)] at hcs
      repeat (first | refine a1 ?_ | refine a3 ?_ | refine a4 ?_ | refine a5 ?_ | refine a6 ?_ | refine s_fieldB ?_ | refine s_fieldV ?_ | refine s_loadB ?_ | refine s_loadH ?_ | refine s_loadR ?_ | refine s_subI ?_ | refine s_build ?_ | refine s_len ?_ | refine s_lenR ?_ | refine s_index ?_ | refine s_indexR ?_ | refine s_loadBs ?_ | refine s_loadHs ?_ | refine s_addI ?_ | refine a7 ?_ | refine a8 ?_)
      rw [waysTo_all (by omega)]
      refine Runs.freeze (H := Hc) v hM (fun H2 hle2 hs2 hc2 => ?_)
      refine Runs.ret1 Try.func32 Try.results32 rfl (fun w hm => hR _ w _ H2 _ (by simp) (hle.trans hle2) ?_ hm)
      exact SliceRep.of_row hs2 rfl hcs hle2 hc2

end Go.Proofs.Ytjdhcblofkkibaa

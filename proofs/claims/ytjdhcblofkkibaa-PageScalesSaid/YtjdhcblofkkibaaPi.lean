/-
  The contract of Check. Conditions: a page of at most 1000000 candidates.
-/
import Derived.Test.YtjdhcblofkkibaaPh
import Derived.Test.YtjdhcblofkkibaaSu
namespace Go.Proofs.Ytjdhcblofkkibaa
open Go Go.RowKit

/-- The tree as Check holds it. -/
def IsK (bc N : Nat) (vl vh vo : Value) (B : Nat) (known : List Cand) (K : AT) : Prop :=
  K.ok B ∧ K.head = (bc, 84, [.int .i64 (N : Int), vl, vh, vo]) ∧ K.has = hasK known ∧ K.isWh = whK known
theorem IsK.start (bc N : Nat) (vl vh vo : Value) : IsK bc N vl vh vo 0 [] (.mk bc 84 [.int .i64 (N : Int), vl, vh, vo] (.slice none 0 0) (.slice none 0 0) [] [] false) := by
  refine ⟨⟨rfl, Nat.le_refl _, trivial⟩, rfl, funext fun p => ?_, funext fun p => ?_⟩
  · cases p <;> simp [AT.has, AT.sub, AT.at, ix, hasK]
  · cases p <;> simp [AT.isWh, AT.sub, AT.at, ix, whK, AT.wh]
theorem IsK.mk {bc N : Nat} {vl vh vo : Value} {B : Nat} {known : List Cand} {K : AT} (h : IsK bc N vl vh vo B known K) : ∃ vk vb ls ks wh, K = .mk bc 84 [.int .i64 (N : Int), vl, vh, vo] vk vb ls ks wh := by
  cases K with
  | mk b T pre vk vb ls ks wh =>
    have := h.2.1
    simp only [AT.head, Prod.mk.injEq] at this
    obtain ⟨rfl, rfl, rfl⟩ := this
    exact ⟨_, _, _, _, _, rfl⟩

theorem checkN_step {gl : List Lnk} {h : List Int} {N : Nat} {L : List Cand} {k : Nat} {x : Cand} (hx : L[k]? = some x) :
    checkN gl h N (L.take k) (L.drop k) = if accR gl h N (L.take k) x then checkN gl h N (L.take (k + 1)) (L.drop (k + 1)) else k := by
  have hk := (List.getElem?_eq_some_iff.1 hx).1
  rw [drop_cons_of hx, checkN, take_snoc_of hx]
  split
  · rfl
  · simp; omega
theorem runY_false : ∀ (L : List (Int × List Int)), (runY (fun (s : Unit) _ => (false, s)) L ()).1 = L.isEmpty
  | [] => rfl
  | _ :: _ => rfl

theorem costOf_links {gl : List Lnk} {N : Nat} (hg : ∀ x ∈ gl, okL (N : Int) x) (hN : 0 < N) {way : List Int} {c : Int} (h : costOf N gl way = some c) : way.length ≤ N ∧ (∀ i ∈ way, 0 ≤ i ∧ i < gl.length) ∧ (⟨way, c⟩ : Cand) ∈ waysG gl N N 0 := by
  unfold costOf at h
  split at h
  · rename_i at_ sum he
    split at h
    · rename_i hat
      cases h
      subst hat
      have h1 := ways_all hg way N 0 0 c (by omega) (by omega) he
      rw [Int.sub_zero] at h1
      exact ⟨(waysG_bound hg N 0 _ h1).1, waysG_links N 0 _ h1, h1⟩
    · cases h
  · cases h

set_option maxHeartbeats 8000000 in
theorem bcheck_c {H : Snap} {vl vh vp : Value} {N : Int} {gl : List Lnk} {h : List Int} {L : List Cand} {w : Bool} (hl : SliceRep H LinkL vl gl) (hh : SliceRep H I64 vh h) (hp : SliceRep H CandL vp L) (hlen : L.length ≤ 1000000) (hxs : ∀ x ∈ L, x.links.length ≤ 1000000) :
    Pure Try.prog 20 #[.agg #[.int .i64 N, vl], vh, .agg #[vp, .bool w]] H (fun _ r => r = .tuple #[.int .i64 (checkR N gl h L w).1, .int .i64 (checkR N gl h L w).2]) := by
  have hbl := hl.isSl.bound
  by_cases hg : validG N gl
  case neg =>
    have e : checkR N gl h L w = (0, 150) := by unfold checkR; rw [if_pos hg]
    rw [e]
    refine Pure.intro Try.func20 rfl Try.ntmps20 rfl (fun E R hM hR => ?_)
    repeat (first | refine a1 ?_ | refine a3 ?_ | refine a4 ?_ | refine a5 ?_ | refine a6 ?_ | refine s_loadBs ?_ | refine s_loadHs ?_ | refine s_build ?_ | refine s_fieldB ?_ | refine s_fieldV ?_ | refine s_loadB ?_ | refine s_loadH ?_ | refine s_loadR ?_ | refine s_len ?_ | refine s_lenR ?_ | refine s_index ?_ | refine s_indexR ?_ | refine s_makeFunc ?_ | refine s_addI ?_ | refine s_neqB ?_ | refine a7 ?_ | refine a8 ?_ | refine a9 ?_ | refine RW.storeR rfl rfl rfl rfl (by first | rfl | (simp [allOne, cellsL, one1]; done) | (simp [allOne, cellsL, one1]; first | assumption | (refine ⟨?_, ?_⟩ <;> assumption))) rfl ?_ | refine a10 ?_ | refine RW.storeR1 rfl rfl (by first | rfl | exact IsSl.one1 (by assumption) | exact IsSl.one1 (SliceRep.isSl (by assumption))) rfl rfl ?_)
    refine RW.box rfl rfl rfl rfl (fun b3 => ?_)
    refine RW.box rfl rfl rfl rfl (fun b5 => ?_)
    repeat (first | refine a1 ?_ | refine a3 ?_ | refine a4 ?_ | refine a5 ?_ | refine a6 ?_ | refine s_loadBs ?_ | refine s_loadHs ?_ | refine s_build ?_ | refine s_fieldB ?_ | refine s_fieldV ?_ | refine s_loadB ?_ | refine s_loadH ?_ | refine s_loadR ?_ | refine s_len ?_ | refine s_lenR ?_ | refine s_index ?_ | refine s_indexR ?_ | refine s_makeFunc ?_ | refine s_addI ?_ | refine s_neqB ?_ | refine a7 ?_ | refine a8 ?_ | refine a9 ?_ | refine RW.storeR rfl rfl rfl rfl (by first | rfl | (simp [allOne, cellsL, one1]; done) | (simp [allOne, cellsL, one1]; first | assumption | (refine ⟨?_, ?_⟩ <;> assumption))) rfl ?_ | refine a10 ?_ | refine RW.storeR1 rfl rfl (by first | rfl | exact IsSl.one1 (by assumption) | exact IsSl.one1 (SliceRep.isSl (by assumption))) rfl rfl ?_)
    refine RW.callV rfl (bvalid_c hl) rfl rfl ?_
    rintro _ _ rfl
    rw [decide_eq_false hg]
    repeat (first | refine a1 ?_ | refine a3 ?_ | refine a4 ?_ | refine a5 ?_ | refine a6 ?_ | refine s_loadBs ?_ | refine s_loadHs ?_ | refine s_build ?_ | refine s_fieldB ?_ | refine s_fieldV ?_ | refine s_loadB ?_ | refine s_loadH ?_ | refine s_loadR ?_ | refine s_len ?_ | refine s_lenR ?_ | refine s_index ?_ | refine s_indexR ?_ | refine s_makeFunc ?_ | refine s_addI ?_ | refine s_neqB ?_ | refine a7 ?_ | refine a8 ?_ | refine a9 ?_ | refine RW.storeR rfl rfl rfl rfl (by first | rfl | (simp [allOne, cellsL, one1]; done) | (simp [allOne, cellsL, one1]; first | assumption | (refine ⟨?_, ?_⟩ <;> assumption))) rfl ?_ | refine a10 ?_ | refine RW.storeR1 rfl rfl (by first | rfl | exact IsSl.one1 (by assumption) | exact IsSl.one1 (SliceRep.isSl (by assumption))) rfl rfl ?_)
    refine Runs.ret2 Try.func20 Try.results20 rfl rfl (fun w hm => hR _ w _ H _ (List.mem_cons_self ..) (Snap.le.refl _) ?_ hm)
    rfl
  by_cases hr : rightP N gl h
  case neg =>
    have e : checkR N gl h L w = (-1, 160) := by unfold checkR; rw [if_neg (fun h => h hg), if_pos hr]
    rw [e]
    refine Pure.intro Try.func20 rfl Try.ntmps20 rfl (fun E R hM hR => ?_)
    repeat (first | refine a1 ?_ | refine a3 ?_ | refine a4 ?_ | refine a5 ?_ | refine a6 ?_ | refine s_loadBs ?_ | refine s_loadHs ?_ | refine s_build ?_ | refine s_fieldB ?_ | refine s_fieldV ?_ | refine s_loadB ?_ | refine s_loadH ?_ | refine s_loadR ?_ | refine s_len ?_ | refine s_lenR ?_ | refine s_index ?_ | refine s_indexR ?_ | refine s_makeFunc ?_ | refine s_addI ?_ | refine s_neqB ?_ | refine a7 ?_ | refine a8 ?_ | refine a9 ?_ | refine RW.storeR rfl rfl rfl rfl (by first | rfl | (simp [allOne, cellsL, one1]; done) | (simp [allOne, cellsL, one1]; first | assumption | (refine ⟨?_, ?_⟩ <;> assumption))) rfl ?_ | refine a10 ?_ | refine RW.storeR1 rfl rfl (by first | rfl | exact IsSl.one1 (by assumption) | exact IsSl.one1 (SliceRep.isSl (by assumption))) rfl rfl ?_)
    refine RW.box rfl rfl rfl rfl (fun b3 => ?_)
    refine RW.box rfl rfl rfl rfl (fun b5 => ?_)
    repeat (first | refine a1 ?_ | refine a3 ?_ | refine a4 ?_ | refine a5 ?_ | refine a6 ?_ | refine s_loadBs ?_ | refine s_loadHs ?_ | refine s_build ?_ | refine s_fieldB ?_ | refine s_fieldV ?_ | refine s_loadB ?_ | refine s_loadH ?_ | refine s_loadR ?_ | refine s_len ?_ | refine s_lenR ?_ | refine s_index ?_ | refine s_indexR ?_ | refine s_makeFunc ?_ | refine s_addI ?_ | refine s_neqB ?_ | refine a7 ?_ | refine a8 ?_ | refine a9 ?_ | refine RW.storeR rfl rfl rfl rfl (by first | rfl | (simp [allOne, cellsL, one1]; done) | (simp [allOne, cellsL, one1]; first | assumption | (refine ⟨?_, ?_⟩ <;> assumption))) rfl ?_ | refine a10 ?_ | refine RW.storeR1 rfl rfl (by first | rfl | exact IsSl.one1 (by assumption) | exact IsSl.one1 (SliceRep.isSl (by assumption))) rfl rfl ?_)
    refine RW.callV rfl (bvalid_c hl) rfl rfl ?_
    rintro _ _ rfl
    rw [decide_eq_true hg]
    repeat (first | refine a1 ?_ | refine a3 ?_ | refine a4 ?_ | refine a5 ?_ | refine a6 ?_ | refine s_loadBs ?_ | refine s_loadHs ?_ | refine s_build ?_ | refine s_fieldB ?_ | refine s_fieldV ?_ | refine s_loadB ?_ | refine s_loadH ?_ | refine s_loadR ?_ | refine s_len ?_ | refine s_lenR ?_ | refine s_index ?_ | refine s_indexR ?_ | refine s_makeFunc ?_ | refine s_addI ?_ | refine s_neqB ?_ | refine a7 ?_ | refine a8 ?_ | refine a9 ?_ | refine RW.storeR rfl rfl rfl rfl (by first | rfl | (simp [allOne, cellsL, one1]; done) | (simp [allOne, cellsL, one1]; first | assumption | (refine ⟨?_, ?_⟩ <;> assumption))) rfl ?_ | refine a10 ?_ | refine RW.storeR1 rfl rfl (by first | rfl | exact IsSl.one1 (by assumption) | exact IsSl.one1 (SliceRep.isSl (by assumption))) rfl rfl ?_)
    refine RW.callV rfl (bright_c hl hh) rfl rfl ?_
    rintro _ _ rfl
    rw [decide_eq_false hr]
    repeat (first | refine a1 ?_ | refine a3 ?_ | refine a4 ?_ | refine a5 ?_ | refine a6 ?_ | refine s_loadBs ?_ | refine s_loadHs ?_ | refine s_build ?_ | refine s_fieldB ?_ | refine s_fieldV ?_ | refine s_loadB ?_ | refine s_loadH ?_ | refine s_loadR ?_ | refine s_len ?_ | refine s_lenR ?_ | refine s_index ?_ | refine s_indexR ?_ | refine s_makeFunc ?_ | refine s_addI ?_ | refine s_neqB ?_ | refine a7 ?_ | refine a8 ?_ | refine a9 ?_ | refine RW.storeR rfl rfl rfl rfl (by first | rfl | (simp [allOne, cellsL, one1]; done) | (simp [allOne, cellsL, one1]; first | assumption | (refine ⟨?_, ?_⟩ <;> assumption))) rfl ?_ | refine a10 ?_ | refine RW.storeR1 rfl rfl (by first | rfl | exact IsSl.one1 (by assumption) | exact IsSl.one1 (SliceRep.isSl (by assumption))) rfl rfl ?_)
    refine Runs.ret2 Try.func20 Try.results20 rfl rfl (fun w hm => hR _ w _ H _ (List.mem_cons_self ..) (Snap.le.refl _) ?_ hm)
    rfl
  have hg' := hg
  obtain ⟨hN1, hN2, hlen2, hall⟩ := hg
  obtain ⟨N, rfl⟩ : ∃ M : Nat, N = (M : Int) := ⟨N.toNat, by omega⟩
  have hpot := pot_is hall (by omega)
  have hhe : h = pot gl N := by have := hr.2; rwa [Int.toNat_natCast] at this
  have hhl : h.length = N := by rw [hhe]; exact hpot.1
  have hhb : ∀ j : Int, 0 ≤ j → j < N → -1 ≤ tv h j ∧ tv h j ≤ 2000000000 := fun j h0 h1 => by
    rw [hhe]; have := hpot.2.1 j h0 h1; omega
  have e : checkR N gl h L w = if checkN gl h N [] L < L.length ∨ (leftL gl h N (L.take (checkN gl h N [] L))).isEmpty ≠ w then (((checkN gl h N [] L : Nat) : Int), 160) else (((checkN gl h N [] L : Nat) : Int), 0) := by
    unfold checkR; rw [if_neg (fun h => h hg'), if_neg (fun h => h hr), Int.toNat_natCast]
  rw [e]
  refine Pure.intro Try.func20 rfl Try.ntmps20 rfl (fun E R hM hR => ?_)
  repeat (first | refine a1 ?_ | refine a3 ?_ | refine a4 ?_ | refine a5 ?_ | refine a6 ?_ | refine s_loadBs ?_ | refine s_loadHs ?_ | refine s_build ?_ | refine s_fieldB ?_ | refine s_fieldV ?_ | refine s_loadB ?_ | refine s_loadH ?_ | refine s_loadR ?_ | refine s_len ?_ | refine s_lenR ?_ | refine s_index ?_ | refine s_indexR ?_ | refine s_makeFunc ?_ | refine s_addI ?_ | refine s_neqB ?_ | refine a7 ?_ | refine a8 ?_ | refine a9 ?_ | refine RW.storeR rfl rfl rfl rfl (by first | rfl | (simp [allOne, cellsL, one1]; done) | (simp [allOne, cellsL, one1]; first | assumption | (refine ⟨?_, ?_⟩ <;> assumption))) rfl ?_ | refine a10 ?_ | refine RW.storeR1 rfl rfl (by first | rfl | exact IsSl.one1 (by assumption) | exact IsSl.one1 (SliceRep.isSl (by assumption))) rfl rfl ?_)
  refine RW.box rfl rfl rfl rfl (fun b3 => ?_)
  refine RW.box rfl rfl rfl rfl (fun b5 => ?_)
  repeat (first | refine a1 ?_ | refine a3 ?_ | refine a4 ?_ | refine a5 ?_ | refine a6 ?_ | refine s_loadBs ?_ | refine s_loadHs ?_ | refine s_build ?_ | refine s_fieldB ?_ | refine s_fieldV ?_ | refine s_loadB ?_ | refine s_loadH ?_ | refine s_loadR ?_ | refine s_len ?_ | refine s_lenR ?_ | refine s_index ?_ | refine s_indexR ?_ | refine s_makeFunc ?_ | refine s_addI ?_ | refine s_neqB ?_ | refine a7 ?_ | refine a8 ?_ | refine a9 ?_ | refine RW.storeR rfl rfl rfl rfl (by first | rfl | (simp [allOne, cellsL, one1]; done) | (simp [allOne, cellsL, one1]; first | assumption | (refine ⟨?_, ?_⟩ <;> assumption))) rfl ?_ | refine a10 ?_ | refine RW.storeR1 rfl rfl (by first | rfl | exact IsSl.one1 (by assumption) | exact IsSl.one1 (SliceRep.isSl (by assumption))) rfl rfl ?_)
  refine RW.callV rfl (bvalid_c hl) rfl rfl ?_
  rintro _ _ rfl
  rw [decide_eq_true hg']
  repeat (first | refine a1 ?_ | refine a3 ?_ | refine a4 ?_ | refine a5 ?_ | refine a6 ?_ | refine s_loadBs ?_ | refine s_loadHs ?_ | refine s_build ?_ | refine s_fieldB ?_ | refine s_fieldV ?_ | refine s_loadB ?_ | refine s_loadH ?_ | refine s_loadR ?_ | refine s_len ?_ | refine s_lenR ?_ | refine s_index ?_ | refine s_indexR ?_ | refine s_makeFunc ?_ | refine s_addI ?_ | refine s_neqB ?_ | refine a7 ?_ | refine a8 ?_ | refine a9 ?_ | refine RW.storeR rfl rfl rfl rfl (by first | rfl | (simp [allOne, cellsL, one1]; done) | (simp [allOne, cellsL, one1]; first | assumption | (refine ⟨?_, ?_⟩ <;> assumption))) rfl ?_ | refine a10 ?_ | refine RW.storeR1 rfl rfl (by first | rfl | exact IsSl.one1 (by assumption) | exact IsSl.one1 (SliceRep.isSl (by assumption))) rfl rfl ?_)
  refine RW.callV rfl (bright_c hl hh) rfl rfl ?_
  rintro _ _ rfl
  rw [decide_eq_true hr]
  repeat (first | refine a1 ?_ | refine a3 ?_ | refine a4 ?_ | refine a5 ?_ | refine a6 ?_ | refine s_loadBs ?_ | refine s_loadHs ?_ | refine s_build ?_ | refine s_fieldB ?_ | refine s_fieldV ?_ | refine s_loadB ?_ | refine s_loadH ?_ | refine s_loadR ?_ | refine s_len ?_ | refine s_lenR ?_ | refine s_index ?_ | refine s_indexR ?_ | refine s_makeFunc ?_ | refine s_addI ?_ | refine s_neqB ?_ | refine a7 ?_ | refine a8 ?_ | refine a9 ?_ | refine RW.storeR rfl rfl rfl rfl (by first | rfl | (simp [allOne, cellsL, one1]; done) | (simp [allOne, cellsL, one1]; first | assumption | (refine ⟨?_, ?_⟩ <;> assumption))) rfl ?_ | refine a10 ?_ | refine RW.storeR1 rfl rfl (by first | rfl | exact IsSl.one1 (by assumption) | exact IsSl.one1 (SliceRep.isSl (by assumption))) rfl rfl ?_)
  refine Runs.regionD _ _ [] (fun x hx => List.mem_cons_of_mem _ hx) (List.Sublist.refl _) (by kernel_rfl) ?_
  (first | refine t_loadBs 0 ?_ | refine t_loadHs 0 ?_)
  refine d2 1 ?_
  (first | refine t_loadBs 2 ?_ | refine t_loadHs 2 ?_)
  refine DW.call 3 rfl (by kernel_rfl) rfl (leaving_c hl hg') rfl rfl ?_
  rintro vo H1 hvo hle1
  obtain ⟨Ah, ch, rfl, _, _⟩ := hh.isSl
  obtain ⟨Ao, co, rfl, _, _⟩ := hvo.isSl
  refine t_build 4 ?_
  refine DW.box 5 rfl (by kernel_rfl) rfl rfl rfl rfl (fun b8 => ?_)
  refine d2 6 ?_
  refine DW.done (by kernel_rfl) ?_
  try dsimp only [cellsL]
  generalize Value.slice Ah h.length ch = vh at hh ⊢
  generalize Value.slice Ao (outsOf N gl).length co = vo at hvo ⊢
  have hl1 := hl.mono hle1
  have hh1 := hh.mono hle1
  have hp1 := hp.mono hle1
  have hbp := hp.isSl.bound
  repeat (first | refine a1 ?_ | refine a3 ?_ | refine a4 ?_ | refine a5 ?_ | refine a6 ?_ | refine s_loadBs ?_ | refine s_loadHs ?_ | refine s_build ?_ | refine s_fieldB ?_ | refine s_fieldV ?_ | refine s_loadB ?_ | refine s_loadH ?_ | refine s_loadR ?_ | refine s_len ?_ | refine s_lenR ?_ | refine s_index ?_ | refine s_indexR ?_ | refine s_makeFunc ?_ | refine s_addI ?_ | refine s_neqB ?_ | refine a7 ?_ | refine a8 ?_ | refine a9 ?_ | refine RW.storeR rfl rfl rfl rfl (by first | rfl | (simp [allOne, cellsL, one1]; done) | (simp [allOne, cellsL, one1]; first | assumption | (refine ⟨?_, ?_⟩ <;> assumption))) rfl ?_ | refine a10 ?_ | refine RW.storeR1 rfl rfl (by first | rfl | exact IsSl.one1 (by assumption) | exact IsSl.one1 (SliceRep.isSl (by assumption))) rfl rfl ?_)
  refine Runs.addNil 3 1 ?_
  refine Runs.addNil 96 1 ?_
  refine Runs.joinF (α := Nat × AT) (fun s => s.1 ≤ L.length ∧ IsK b8 N vl vh vo s.1 (L.take s.1) s.2 ∧ checkN gl h N [] L = s.1) (fun _ => [H1]) (fun s => .blk b5 33 [vp, .bool w] :: .blk b3 29 [.int .i64 (N : Int), vl] :: s.2.own) (fun s => [(5, .pointer (some ⟨b5, 0, none⟩)), (8, .pointer (some ⟨b8, 0, none⟩)), (9, .int .i64 (s.1 : Int))]) (fun hj => ?_) ?_
  · refine Runs.loop (fun (s : Nat × AT) => s.1 ≤ L.length ∧ IsK b8 N vl vh vo s.1 (L.take s.1) s.2 ∧ checkN gl h N [] L = checkN gl h N (L.take s.1) (L.drop s.1)) (fun s => L.length - s.1) (fun _ => [H1]) (fun s => .blk b5 33 [vp, .bool w] :: .blk b3 29 [.int .i64 (N : Int), vl] :: s.2.own)
      (fun s => [(3, .pointer (some ⟨b3, 0, none⟩)), (5, .pointer (some ⟨b5, 0, none⟩)), (8, .pointer (some ⟨b8, 0, none⟩)), (9, .int .i64 (s.1 : Int)), (30, vp), (31, .int .i64 (L.length : Int)), (32, .int .i64 (s.1 : Int))]) (0, .mk b8 84 [.int .i64 (N : Int), vl, vh, vo] (.slice none 0 0) (.slice none 0 0) [] [] false) ⟨Nat.zero_le _, IsK.start b8 N vl vh vo, rfl⟩ (fun h => by
        refine Runs.perm (O' := .blk b5 33 [vp, .bool w] :: .blk b3 29 [.int .i64 (N : Int), vl] :: AT.own (.mk b8 84 [.int .i64 (N : Int), vl, vh, vo] (.slice none 0 0) (.slice none 0 0) [] [] false)) ?_ ?_
        · refine (List.perm_append_comm (l₁ := [_, _, _]) (l₂ := [_, _])).trans ?_
          refine List.Perm.cons _ (List.Perm.cons _ ?_)
          rw [AT.own]
          simp only [List.cons_append, List.nil_append, AT.owns, encI, List.map_nil, List.length_nil]
          exact ((List.Perm.swap ..).trans (List.Perm.cons _ (List.Perm.swap ..))).trans (List.Perm.swap ..)
        · refine Runs.weak (h) (by repeat (first | exact trivial | refine And.intro rfl ?_)) (fun x hx => List.mem_cons_of_mem _ (SubH.h x hx)) (by repeat (first | exact List.nil_sublist _ | exact List.Sublist.refl _ | refine List.Sublist.cons_cons _ ?_ | refine List.Sublist.cons _ ?_))) ?_
    rintro ⟨k, K⟩ ⟨hk, hK, hn⟩ ih
    dsimp only at hk hK hn ⊢
    repeat (first | refine a1 ?_ | refine a3 ?_ | refine a4 ?_ | refine a5 ?_ | refine a6 ?_ | refine s_loadBs ?_ | refine s_loadHs ?_ | refine s_build ?_ | refine s_fieldB ?_ | refine s_fieldV ?_ | refine s_loadB ?_ | refine s_loadH ?_ | refine s_loadR ?_ | refine s_len ?_ | refine s_lenR ?_ | refine s_index ?_ | refine s_indexR ?_ | refine s_makeFunc ?_ | refine s_addI ?_ | refine s_neqB ?_ | refine a7 ?_ | refine a8 ?_ | refine a9 ?_ | refine RW.storeR rfl rfl rfl rfl (by first | rfl | (simp [allOne, cellsL, one1]; done) | (simp [allOne, cellsL, one1]; first | assumption | (refine ⟨?_, ?_⟩ <;> assumption))) rfl ?_ | refine a10 ?_ | refine RW.storeR1 rfl rfl (by first | rfl | exact IsSl.one1 (by assumption) | exact IsSl.one1 (SliceRep.isSl (by assumption))) rfl rfl ?_)
    refine Runs.cond_d rfl (fun hlt => ?_) (fun hlt => ?_)
    · obtain ⟨x, hx⟩ : ∃ x, L[k]? = some x := ⟨_, List.getElem?_eq_getElem (by omega)⟩
      obtain ⟨vx, hvx, hx0, hx1, hx2⟩ := hp1.cand hx
      have hvx1 := hvx.isSl.one1
      have hxl := hxs x (List.mem_of_getElem? hx)
      rw [checkN_step hx] at hn
      repeat (first | refine a1 ?_ | refine a3 ?_ | refine a4 ?_ | refine a5 ?_ | refine a6 ?_ | refine s_loadBs ?_ | refine s_loadHs ?_ | refine s_build ?_ | refine s_fieldB ?_ | refine s_fieldV ?_ | refine s_loadB ?_ | refine s_loadH ?_ | refine s_loadR ?_ | refine s_len ?_ | refine s_lenR ?_ | refine s_index ?_ | refine s_indexR ?_ | refine s_makeFunc ?_ | refine s_addI ?_ | refine s_neqB ?_ | refine a7 ?_ | refine a8 ?_ | refine a9 ?_ | refine RW.storeR rfl rfl rfl rfl (by first | rfl | (simp [allOne, cellsL, one1]; done) | (simp [allOne, cellsL, one1]; first | assumption | (refine ⟨?_, ?_⟩ <;> assumption))) rfl ?_ | refine a10 ?_ | refine RW.storeR1 rfl rfl (by first | rfl | exact IsSl.one1 (by assumption) | exact IsSl.one1 (SliceRep.isSl (by assumption))) rfl rfl ?_)
      refine RW.alloc rfl rfl rfl (fun b11 => ?_)
      repeat (first | refine a1 ?_ | refine a3 ?_ | refine a4 ?_ | refine a5 ?_ | refine a6 ?_ | refine s_loadBs ?_ | refine s_loadHs ?_ | refine s_build ?_ | refine s_fieldB ?_ | refine s_fieldV ?_ | refine s_loadB ?_ | refine s_loadH ?_ | refine s_loadR ?_ | refine s_len ?_ | refine s_lenR ?_ | refine s_index ?_ | refine s_indexR ?_ | refine s_makeFunc ?_ | refine s_addI ?_ | refine s_neqB ?_ | refine a7 ?_ | refine a8 ?_ | refine a9 ?_ | refine RW.storeR rfl rfl rfl rfl (by first | rfl | (simp [allOne, cellsL, one1]; done) | (simp [allOne, cellsL, one1]; first | assumption | (refine ⟨?_, ?_⟩ <;> assumption))) rfl ?_ | refine a10 ?_ | refine RW.storeR1 rfl rfl (by first | rfl | exact IsSl.one1 (by assumption) | exact IsSl.one1 (SliceRep.isSl (by assumption))) rfl rfl ?_)
      refine RW.callV rfl (bcost_c (N := (N : Int)) hl1 hvx (fun x hx => by have := hall x hx; unfold okL at this; omega) (by omega) (by omega)) rfl rfl ?_
      rintro _ _ rfl
      cases hco : costOf (N : Int) gl x.links with
      | none =>
        have hno : checkN gl h N [] L = k := by rw [hn, if_neg (fun h => by have := h.1; rw [hco] at this; cases this)]
        dsimp only [costVal]
        repeat (first | refine a1 ?_ | refine a3 ?_ | refine a4 ?_ | refine a5 ?_ | refine a6 ?_ | refine s_loadBs ?_ | refine s_loadHs ?_ | refine s_build ?_ | refine s_fieldB ?_ | refine s_fieldV ?_ | refine s_loadB ?_ | refine s_loadH ?_ | refine s_loadR ?_ | refine s_len ?_ | refine s_lenR ?_ | refine s_index ?_ | refine s_indexR ?_ | refine s_makeFunc ?_ | refine s_addI ?_ | refine s_neqB ?_ | refine a7 ?_ | refine a8 ?_ | refine a9 ?_ | refine RW.storeR rfl rfl rfl rfl (by first | rfl | (simp [allOne, cellsL, one1]; done) | (simp [allOne, cellsL, one1]; first | assumption | (refine ⟨?_, ?_⟩ <;> assumption))) rfl ?_ | refine a10 ?_ | refine RW.storeR1 rfl rfl (by first | rfl | exact IsSl.one1 (by assumption) | exact IsSl.one1 (SliceRep.isSl (by assumption))) rfl rfl ?_)
        refine RW.alloc rfl rfl rfl (fun b12 => ?_)
        repeat (first | refine a1 ?_ | refine a3 ?_ | refine a4 ?_ | refine a5 ?_ | refine a6 ?_ | refine s_loadBs ?_ | refine s_loadHs ?_ | refine s_build ?_ | refine s_fieldB ?_ | refine s_fieldV ?_ | refine s_loadB ?_ | refine s_loadH ?_ | refine s_loadR ?_ | refine s_len ?_ | refine s_lenR ?_ | refine s_index ?_ | refine s_indexR ?_ | refine s_makeFunc ?_ | refine s_addI ?_ | refine s_neqB ?_ | refine a7 ?_ | refine a8 ?_ | refine a9 ?_ | refine RW.storeR rfl rfl rfl rfl (by first | rfl | (simp [allOne, cellsL, one1]; done) | (simp [allOne, cellsL, one1]; first | assumption | (refine ⟨?_, ?_⟩ <;> assumption))) rfl ?_ | refine a10 ?_ | refine RW.storeR1 rfl rfl (by first | rfl | exact IsSl.one1 (by assumption) | exact IsSl.one1 (SliceRep.isSl (by assumption))) rfl rfl ?_)
        refine Runs.weak ((hj (k, K) ⟨hk, hK, hno⟩).uncode) (by repeat (first | exact trivial | refine And.intro rfl ?_)) (fun x hx => List.mem_cons_of_mem _ (SubH.h x hx)) (by repeat (first | exact List.nil_sublist _ | exact List.Sublist.refl _ | refine List.Sublist.cons_cons _ ?_ | refine List.Sublist.cons _ ?_))
      | some c =>
        obtain ⟨hwl, hwi, _⟩ := costOf_links hall (by omega) hco
        dsimp only [costVal, Option.getD, Option.isSome]
        repeat (first | refine a1 ?_ | refine a3 ?_ | refine a4 ?_ | refine a5 ?_ | refine a6 ?_ | refine s_loadBs ?_ | refine s_loadHs ?_ | refine s_build ?_ | refine s_fieldB ?_ | refine s_fieldV ?_ | refine s_loadB ?_ | refine s_loadH ?_ | refine s_loadR ?_ | refine s_len ?_ | refine s_lenR ?_ | refine s_index ?_ | refine s_indexR ?_ | refine s_makeFunc ?_ | refine s_addI ?_ | refine s_neqB ?_ | refine a7 ?_ | refine a8 ?_ | refine a9 ?_ | refine RW.storeR rfl rfl rfl rfl (by first | rfl | (simp [allOne, cellsL, one1]; done) | (simp [allOne, cellsL, one1]; first | assumption | (refine ⟨?_, ?_⟩ <;> assumption))) rfl ?_ | refine a10 ?_ | refine RW.storeR1 rfl rfl (by first | rfl | exact IsSl.one1 (by assumption) | exact IsSl.one1 (SliceRep.isSl (by assumption))) rfl rfl ?_)
        refine RW.alloc rfl rfl rfl (fun b12 => ?_)
        repeat (first | refine a1 ?_ | refine a3 ?_ | refine a4 ?_ | refine a5 ?_ | refine a6 ?_ | refine s_loadBs ?_ | refine s_loadHs ?_ | refine s_build ?_ | refine s_fieldB ?_ | refine s_fieldV ?_ | refine s_loadB ?_ | refine s_loadH ?_ | refine s_loadR ?_ | refine s_len ?_ | refine s_lenR ?_ | refine s_index ?_ | refine s_indexR ?_ | refine s_makeFunc ?_ | refine s_addI ?_ | refine s_neqB ?_ | refine a7 ?_ | refine a8 ?_ | refine a9 ?_ | refine RW.storeR rfl rfl rfl rfl (by first | rfl | (simp [allOne, cellsL, one1]; done) | (simp [allOne, cellsL, one1]; first | assumption | (refine ⟨?_, ?_⟩ <;> assumption))) rfl ?_ | refine a10 ?_ | refine RW.storeR1 rfl rfl (by first | rfl | exact IsSl.one1 (by assumption) | exact IsSl.one1 (SliceRep.isSl (by assumption))) rfl rfl ?_)
        refine Runs.cond_d rfl (fun hcx => ?_) (fun hcx => ?_)
        · have hno : checkN gl h N [] L = k := by rw [hn, if_neg (fun h => by have := h.1; rw [hco] at this; exact hcx (Option.some.inj this))]
          repeat (first | refine a1 ?_ | refine a3 ?_ | refine a4 ?_ | refine a5 ?_ | refine a6 ?_ | refine s_loadBs ?_ | refine s_loadHs ?_ | refine s_build ?_ | refine s_fieldB ?_ | refine s_fieldV ?_ | refine s_loadB ?_ | refine s_loadH ?_ | refine s_loadR ?_ | refine s_len ?_ | refine s_lenR ?_ | refine s_index ?_ | refine s_indexR ?_ | refine s_makeFunc ?_ | refine s_addI ?_ | refine s_neqB ?_ | refine a7 ?_ | refine a8 ?_ | refine a9 ?_ | refine RW.storeR rfl rfl rfl rfl (by first | rfl | (simp [allOne, cellsL, one1]; done) | (simp [allOne, cellsL, one1]; first | assumption | (refine ⟨?_, ?_⟩ <;> assumption))) rfl ?_ | refine a10 ?_ | refine RW.storeR1 rfl rfl (by first | rfl | exact IsSl.one1 (by assumption) | exact IsSl.one1 (SliceRep.isSl (by assumption))) rfl rfl ?_)
          refine Runs.weak ((hj (k, K) ⟨hk, hK, hno⟩).uncode) (by repeat (first | exact trivial | refine And.intro rfl ?_)) (fun x hx => List.mem_cons_of_mem _ (SubH.h x hx)) (by repeat (first | exact List.nil_sublist _ | exact List.Sublist.refl _ | refine List.Sublist.cons_cons _ ?_ | refine List.Sublist.cons _ ?_))
        · have hcx : c = x.cost := by omega
          subst hcx
          obtain ⟨vk, vb, ls, ks, wh, hKe⟩ := hK.mk
          have iK : GetBlk K.own b8 84 [.int .i64 (N : Int), vl, vh, vo, vk, vb, .bool wh] := ⟨by rw [hKe]; simp [AT.own]⟩
          repeat (first | refine a1 ?_ | refine a3 ?_ | refine a4 ?_ | refine a5 ?_ | refine a6 ?_ | refine s_loadBs ?_ | refine s_loadHs ?_ | refine s_build ?_ | refine s_fieldB ?_ | refine s_fieldV ?_ | refine s_loadB ?_ | refine s_loadH ?_ | refine s_loadR ?_ | refine s_len ?_ | refine s_lenR ?_ | refine s_index ?_ | refine s_indexR ?_ | refine s_makeFunc ?_ | refine s_addI ?_ | refine s_neqB ?_ | refine a7 ?_ | refine a8 ?_ | refine a9 ?_ | refine RW.storeR rfl rfl rfl rfl (by first | rfl | (simp [allOne, cellsL, one1]; done) | (simp [allOne, cellsL, one1]; first | assumption | (refine ⟨?_, ?_⟩ <;> assumption))) rfl ?_ | refine a10 ?_ | refine RW.storeR1 rfl rfl (by first | rfl | exact IsSl.one1 (by assumption) | exact IsSl.one1 (SliceRep.isSl (by assumption))) rfl rfl ?_)
          refine RW.alloc rfl rfl rfl (fun b14 => ?_)
          repeat (first | refine a1 ?_ | refine a3 ?_ | refine a4 ?_ | refine a5 ?_ | refine a6 ?_ | refine s_loadBs ?_ | refine s_loadHs ?_ | refine s_build ?_ | refine s_fieldB ?_ | refine s_fieldV ?_ | refine s_loadB ?_ | refine s_loadH ?_ | refine s_loadR ?_ | refine s_len ?_ | refine s_lenR ?_ | refine s_index ?_ | refine s_indexR ?_ | refine s_makeFunc ?_ | refine s_addI ?_ | refine s_neqB ?_ | refine a7 ?_ | refine a8 ?_ | refine a9 ?_ | refine RW.storeR rfl rfl rfl rfl (by first | rfl | (simp [allOne, cellsL, one1]; done) | (simp [allOne, cellsL, one1]; first | assumption | (refine ⟨?_, ?_⟩ <;> assumption))) rfl ?_ | refine a10 ?_ | refine RW.storeR1 rfl rfl (by first | rfl | exact IsSl.one1 (by assumption) | exact IsSl.one1 (SliceRep.isSl (by assumption))) rfl rfl ?_)
          refine RW.alloc rfl rfl rfl (fun b15 => ?_)
          repeat (first | refine a1 ?_ | refine a3 ?_ | refine a4 ?_ | refine a5 ?_ | refine a6 ?_ | refine s_loadBs ?_ | refine s_loadHs ?_ | refine s_build ?_ | refine s_fieldB ?_ | refine s_fieldV ?_ | refine s_loadB ?_ | refine s_loadH ?_ | refine s_loadR ?_ | refine s_len ?_ | refine s_lenR ?_ | refine s_index ?_ | refine s_indexR ?_ | refine s_makeFunc ?_ | refine s_addI ?_ | refine s_neqB ?_ | refine a7 ?_ | refine a8 ?_ | refine a9 ?_ | refine RW.storeR rfl rfl rfl rfl (by first | rfl | (simp [allOne, cellsL, one1]; done) | (simp [allOne, cellsL, one1]; first | assumption | (refine ⟨?_, ?_⟩ <;> assumption))) rfl ?_ | refine a10 ?_ | refine RW.storeR1 rfl rfl (by first | rfl | exact IsSl.one1 (by assumption) | exact IsSl.one1 (SliceRep.isSl (by assumption))) rfl rfl ?_)
          obtain ⟨FF, hFF⟩ : ∃ FF : List Own, FF = .blk b14 88 [.func (.func 37) #[] #[.pointer (some ⟨b12, 0, none⟩), .pointer (some ⟨b11, 0, none⟩)]] :: .blk b12 3 [.int .i64 x.cost] :: .blk b11 60 [vx, .int .i64 x.cost] :: .blk b5 33 [vp, .bool w] :: .blk b3 29 [.int .i64 (N : Int), vl] :: K.own := ⟨_, rfl⟩
          have j11 : GetBlk FF b11 60 [vx, .int .i64 x.cost] := by rw [hFF]; infer_instance
          have j12 : GetBlk FF b12 3 [.int .i64 x.cost] := by rw [hFF]; infer_instance
          have j14 : GetBlk FF b14 88 [.func (.func 37) #[] #[.pointer (some ⟨b12, 0, none⟩), .pointer (some ⟨b11, 0, none⟩)]] := by rw [hFF]; infer_instance
          have hot := others_c (H := H1) (Y := fun s => [.blk b15 3 [.int .i64 s]]) (F := FF) (step := stepC x) (yf := 40) (ycap := [.pointer (some ⟨b11, 0, none⟩), .pointer (some ⟨b15, 0, none⟩), .pointer (some ⟨b14, 0, none⟩)])
            K hKe hg' hl1 hh1 hvo hhl hhb hK.1 (fun o ho => by rw [hFF]; simp [ho]) (fun _ _ => rfl) (fun H' s c v b hle hv _ => check2_c (F := FF) (from_ := s) hv (hvx.mono hle)) (-1)
          clear j11 j12 j14
          subst hFF
          generalize hre : runY (stepC x) (visitL gl h N K.has K.isWh N [] 0 0) (-1) = res at hot
          obtain ⟨b, fr⟩ := res
          have hleft : runY (stepC x) (leftL gl h N (L.take k)) (-1) = (b, fr) := by unfold leftL; rw [← hK.2.2.1, ← hK.2.2.2]; exact hre
          dsimp only [List.cons_append, List.nil_append] at hot
          refine RW.callD (cap := []) rfl rfl hot (List.Sublist.refl _) rfl rfl ?_
          rintro _ H3 _ ⟨rfl, rfl⟩ hle3
          cases b with
          | false =>
            have hno : checkN gl h N [] L = k := by rw [hn, if_neg (fun h => by have := h.2.1; rw [hleft] at this; cases this)]
            repeat (first | refine a1 ?_ | refine a3 ?_ | refine a4 ?_ | refine a5 ?_ | refine a6 ?_ | refine s_loadBs ?_ | refine s_loadHs ?_ | refine s_build ?_ | refine s_fieldB ?_ | refine s_fieldV ?_ | refine s_loadB ?_ | refine s_loadH ?_ | refine s_loadR ?_ | refine s_len ?_ | refine s_lenR ?_ | refine s_index ?_ | refine s_indexR ?_ | refine s_makeFunc ?_ | refine s_addI ?_ | refine s_neqB ?_ | refine a7 ?_ | refine a8 ?_ | refine a9 ?_ | refine RW.storeR rfl rfl rfl rfl (by first | rfl | (simp [allOne, cellsL, one1]; done) | (simp [allOne, cellsL, one1]; first | assumption | (refine ⟨?_, ?_⟩ <;> assumption))) rfl ?_ | refine a10 ?_ | refine RW.storeR1 rfl rfl (by first | rfl | exact IsSl.one1 (by assumption) | exact IsSl.one1 (SliceRep.isSl (by assumption))) rfl rfl ?_)
            refine Runs.weak ((hj (k, K) ⟨hk, hK, hno⟩).uncode) (by repeat (first | exact trivial | refine And.intro rfl ?_)) (fun x hx => List.mem_cons_of_mem _ (SubH.h x hx)) (by repeat (first | exact List.nil_sublist _ | exact List.Sublist.refl _ | refine List.Sublist.cons_cons _ ?_ | refine List.Sublist.cons _ ?_))
          | true =>
            repeat (first | refine a1 ?_ | refine a3 ?_ | refine a4 ?_ | refine a5 ?_ | refine a6 ?_ | refine s_loadBs ?_ | refine s_loadHs ?_ | refine s_build ?_ | refine s_fieldB ?_ | refine s_fieldV ?_ | refine s_loadB ?_ | refine s_loadH ?_ | refine s_loadR ?_ | refine s_len ?_ | refine s_lenR ?_ | refine s_index ?_ | refine s_indexR ?_ | refine s_makeFunc ?_ | refine s_addI ?_ | refine s_neqB ?_ | refine a7 ?_ | refine a8 ?_ | refine a9 ?_ | refine RW.storeR rfl rfl rfl rfl (by first | rfl | (simp [allOne, cellsL, one1]; done) | (simp [allOne, cellsL, one1]; first | assumption | (refine ⟨?_, ?_⟩ <;> assumption))) rfl ?_ | refine a10 ?_ | refine RW.storeR1 rfl rfl (by first | rfl | exact IsSl.one1 (by assumption) | exact IsSl.one1 (SliceRep.isSl (by assumption))) rfl rfl ?_)
            refine RW.dec 60 rfl (fun hfr => ?_) (fun hfr => ?_)
            · have hno : checkN gl h N [] L = k := by rw [hn, if_neg (fun h => by have := h.2.2.1; rw [hleft] at this; exact this hfr)]
              repeat (first | refine a1 ?_ | refine a3 ?_ | refine a4 ?_ | refine a5 ?_ | refine a6 ?_ | refine s_loadBs ?_ | refine s_loadHs ?_ | refine s_build ?_ | refine s_fieldB ?_ | refine s_fieldV ?_ | refine s_loadB ?_ | refine s_loadH ?_ | refine s_loadR ?_ | refine s_len ?_ | refine s_lenR ?_ | refine s_index ?_ | refine s_indexR ?_ | refine s_makeFunc ?_ | refine s_addI ?_ | refine s_neqB ?_ | refine a7 ?_ | refine a8 ?_ | refine a9 ?_ | refine RW.storeR rfl rfl rfl rfl (by first | rfl | (simp [allOne, cellsL, one1]; done) | (simp [allOne, cellsL, one1]; first | assumption | (refine ⟨?_, ?_⟩ <;> assumption))) rfl ?_ | refine a10 ?_ | refine RW.storeR1 rfl rfl (by first | rfl | exact IsSl.one1 (by assumption) | exact IsSl.one1 (SliceRep.isSl (by assumption))) rfl rfl ?_)
              refine Runs.weak ((hj (k, K) ⟨hk, hK, hno⟩).uncode) (by repeat (first | exact trivial | refine And.intro rfl ?_)) (fun x hx => List.mem_cons_of_mem _ (SubH.h x hx)) (by repeat (first | exact List.nil_sublist _ | exact List.Sublist.refl _ | refine List.Sublist.cons_cons _ ?_ | refine List.Sublist.cons _ ?_))
            · repeat (first | refine a1 ?_ | refine a3 ?_ | refine a4 ?_ | refine a5 ?_ | refine a6 ?_ | refine s_loadBs ?_ | refine s_loadHs ?_ | refine s_build ?_ | refine s_fieldB ?_ | refine s_fieldV ?_ | refine s_loadB ?_ | refine s_loadH ?_ | refine s_loadR ?_ | refine s_len ?_ | refine s_lenR ?_ | refine s_index ?_ | refine s_indexR ?_ | refine s_makeFunc ?_ | refine s_addI ?_ | refine s_neqB ?_ | refine a7 ?_ | refine a8 ?_ | refine a9 ?_ | refine RW.storeR rfl rfl rfl rfl (by first | rfl | (simp [allOne, cellsL, one1]; done) | (simp [allOne, cellsL, one1]; first | assumption | (refine ⟨?_, ?_⟩ <;> assumption))) rfl ?_ | refine a10 ?_ | refine RW.storeR1 rfl rfl (by first | rfl | exact IsSl.one1 (by assumption) | exact IsSl.one1 (SliceRep.isSl (by assumption))) rfl rfl ?_)
              refine RW.callL (cap := []) rfl rfl (leads_c (H := H1) (from_ := fr) (x := x) hg' hl1 hh1 hvo hhl hhb hvx (by omega) hwi) (List.Sublist.refl _) rfl rfl ?_
              rintro _ H4 rfl hle4
              cases e2 : leadsR gl h x.cost fr 0 0 x.links with
              | false =>
                have hno : checkN gl h N [] L = k := by rw [hn, if_neg (fun h => by have := h.2.2.2; rw [hleft] at this; dsimp only at this; rw [e2] at this; cases this)]
                repeat (first | refine a1 ?_ | refine a3 ?_ | refine a4 ?_ | refine a5 ?_ | refine a6 ?_ | refine s_loadBs ?_ | refine s_loadHs ?_ | refine s_build ?_ | refine s_fieldB ?_ | refine s_fieldV ?_ | refine s_loadB ?_ | refine s_loadH ?_ | refine s_loadR ?_ | refine s_len ?_ | refine s_lenR ?_ | refine s_index ?_ | refine s_indexR ?_ | refine s_makeFunc ?_ | refine s_addI ?_ | refine s_neqB ?_ | refine a7 ?_ | refine a8 ?_ | refine a9 ?_ | refine RW.storeR rfl rfl rfl rfl (by first | rfl | (simp [allOne, cellsL, one1]; done) | (simp [allOne, cellsL, one1]; first | assumption | (refine ⟨?_, ?_⟩ <;> assumption))) rfl ?_ | refine a10 ?_ | refine RW.storeR1 rfl rfl (by first | rfl | exact IsSl.one1 (by assumption) | exact IsSl.one1 (SliceRep.isSl (by assumption))) rfl rfl ?_)
                refine Runs.weak ((hj (k, K) ⟨hk, hK, hno⟩).uncode) (by repeat (first | exact trivial | refine And.intro rfl ?_)) (fun x hx => List.mem_cons_of_mem _ (SubH.h x hx)) (by repeat (first | exact List.nil_sublist _ | exact List.Sublist.refl _ | refine List.Sublist.cons_cons _ ?_ | refine List.Sublist.cons _ ?_))
              | true =>
                rw [if_pos ⟨hco, by rw [hleft], by rw [hleft]; exact hfr, by rw [hleft]; exact e2⟩] at hn
                repeat (first | refine a1 ?_ | refine a3 ?_ | refine a4 ?_ | refine a5 ?_ | refine a6 ?_ | refine s_loadBs ?_ | refine s_loadHs ?_ | refine s_build ?_ | refine s_fieldB ?_ | refine s_fieldV ?_ | refine s_loadB ?_ | refine s_loadH ?_ | refine s_loadR ?_ | refine s_len ?_ | refine s_lenR ?_ | refine s_index ?_ | refine s_indexR ?_ | refine s_makeFunc ?_ | refine s_addI ?_ | refine s_neqB ?_ | refine a7 ?_ | refine a8 ?_ | refine a9 ?_ | refine RW.storeR rfl rfl rfl rfl (by first | rfl | (simp [allOne, cellsL, one1]; done) | (simp [allOne, cellsL, one1]; first | assumption | (refine ⟨?_, ?_⟩ <;> assumption))) rfl ?_ | refine a10 ?_ | refine RW.storeR1 rfl rfl (by first | rfl | exact IsSl.one1 (by assumption) | exact IsSl.one1 (SliceRep.isSl (by assumption))) rfl rfl ?_)
                have hpt : K.ptr = .pointer (some ⟨b8, 4, none⟩) := by rw [hKe]; rfl
                have hput := put_c (H := H1) hvx hK.1 (by omega)
                rw [hpt] at hput
                refine Runs.regionD _ [.blk b15 3 [.int .i64 fr], .blk b14 88 [.func (.func 37) #[] #[.pointer (some ⟨b12, 0, none⟩), .pointer (some ⟨b11, 0, none⟩)]], .blk b12 3 [.int .i64 x.cost], .blk b11 60 [vx, .int .i64 x.cost], .blk b5 33 [vp, .bool w], .blk b3 29 [.int .i64 (N : Int), vl]] [] (fun x hx => List.mem_cons_of_mem _ hx) (List.sublist_append_left [_, _, _, _, _, _] K.own) (by kernel_rfl) ?_
                refine d1 0 2 ?_
                (first | refine t_fieldB 2 ?_ | refine t_fieldV 2 ?_)
                (first | refine t_fieldB 3 ?_ | refine t_fieldV 3 ?_)
                (first | refine t_loadB 4 ?_ | refine t_loadH 4 ?_ | refine t_loadR 4 ?_)
                refine DW.callM 5 (cap := []) (F := [.blk b15 3 [.int .i64 fr], .blk b14 88 [.func (.func 37) #[] #[.pointer (some ⟨b12, 0, none⟩), .pointer (some ⟨b11, 0, none⟩)]], .blk b12 3 [.int .i64 x.cost], .blk b11 60 [vx, .int .i64 x.cost], .blk b5 33 [vp, .bool w], .blk b3 29 [.int .i64 (N : Int), vl]]) rfl (by kernel_rfl) rfl rfl hput (List.perm_append_comm (l₁ := [_, _, _, _, _, _])) rfl rfl ?_ ?_
                · rintro _ H' _ ⟨rfl, W, rfl, _⟩ w hm
                  exact (hm.perm List.perm_append_comm).sub (fun x hx => List.mem_cons_of_mem _ (List.mem_cons_of_mem _ hx)) (List.sublist_append_left ..)
                rintro _ H5 _ ⟨rfl, W, rfl, hWk, hWh, hWg⟩ hle5
                refine DW.done (by kernel_rfl) ?_
                repeat (first | refine a1 ?_ | refine a3 ?_ | refine a4 ?_ | refine a5 ?_ | refine a6 ?_ | refine s_loadBs ?_ | refine s_loadHs ?_ | refine s_build ?_ | refine s_fieldB ?_ | refine s_fieldV ?_ | refine s_loadB ?_ | refine s_loadH ?_ | refine s_loadR ?_ | refine s_len ?_ | refine s_lenR ?_ | refine s_index ?_ | refine s_indexR ?_ | refine s_makeFunc ?_ | refine s_addI ?_ | refine s_neqB ?_ | refine a7 ?_ | refine a8 ?_ | refine a9 ?_ | refine RW.storeR rfl rfl rfl rfl (by first | rfl | (simp [allOne, cellsL, one1]; done) | (simp [allOne, cellsL, one1]; first | assumption | (refine ⟨?_, ?_⟩ <;> assumption))) rfl ?_ | refine a10 ?_ | refine RW.storeR1 rfl rfl (by first | rfl | exact IsSl.one1 (by assumption) | exact IsSl.one1 (SliceRep.isSl (by assumption))) rfl rfl ?_)
                have hKn : IsK b8 N vl vh vo (k + 1) (L.take (k + 1)) W := by
                  obtain ⟨g1, g2⟩ := hWg.known hK.2.2.1 hK.2.2.2
                  rw [take_snoc_of hx]
                  exact ⟨hWk, hWh.trans hK.2.1, g1, g2⟩
                refine Runs.perm List.perm_append_comm ?_
                refine Runs.weak (ih (k + 1, W) ⟨by dsimp only; omega, hKn, hn⟩ (by dsimp only; omega)) (by repeat (first | exact trivial | refine And.intro rfl ?_)) (fun x hx => List.mem_cons_of_mem _ (SubH.h x hx)) (by repeat (first | exact List.nil_sublist _ | exact List.Sublist.refl _ | refine List.Sublist.cons_cons _ ?_ | refine List.Sublist.cons _ ?_))
    · have hkl : k = L.length := by omega
      have hno : checkN gl h N [] L = k := by
        rw [hn, hkl, List.drop_length, List.take_length, checkN]
      repeat (first | refine a1 ?_ | refine a3 ?_ | refine a4 ?_ | refine a5 ?_ | refine a6 ?_ | refine s_loadBs ?_ | refine s_loadHs ?_ | refine s_build ?_ | refine s_fieldB ?_ | refine s_fieldV ?_ | refine s_loadB ?_ | refine s_loadH ?_ | refine s_loadR ?_ | refine s_len ?_ | refine s_lenR ?_ | refine s_index ?_ | refine s_indexR ?_ | refine s_makeFunc ?_ | refine s_addI ?_ | refine s_neqB ?_ | refine a7 ?_ | refine a8 ?_ | refine a9 ?_ | refine RW.storeR rfl rfl rfl rfl (by first | rfl | (simp [allOne, cellsL, one1]; done) | (simp [allOne, cellsL, one1]; first | assumption | (refine ⟨?_, ?_⟩ <;> assumption))) rfl ?_ | refine a10 ?_ | refine RW.storeR1 rfl rfl (by first | rfl | exact IsSl.one1 (by assumption) | exact IsSl.one1 (SliceRep.isSl (by assumption))) rfl rfl ?_)
      refine Runs.weak ((hj (k, K) ⟨hk, hK, hno⟩).uncode) (by repeat (first | exact trivial | refine And.intro rfl ?_)) (fun x hx => List.mem_cons_of_mem _ (SubH.h x hx)) (by repeat (first | exact List.nil_sublist _ | exact List.Sublist.refl _ | refine List.Sublist.cons_cons _ ?_ | refine List.Sublist.cons _ ?_))
  · rintro ⟨k, K⟩ ⟨hk, hK, hn⟩
    dsimp only at hk hK hn ⊢
    obtain ⟨vk, vb, ls, ks, wh, hKe⟩ := hK.mk
    rw [hn] at hR
    repeat (first | refine a1 ?_ | refine a3 ?_ | refine a4 ?_ | refine a5 ?_ | refine a6 ?_ | refine s_loadBs ?_ | refine s_loadHs ?_ | refine s_build ?_ | refine s_fieldB ?_ | refine s_fieldV ?_ | refine s_loadB ?_ | refine s_loadH ?_ | refine s_loadR ?_ | refine s_len ?_ | refine s_lenR ?_ | refine s_index ?_ | refine s_indexR ?_ | refine s_makeFunc ?_ | refine s_addI ?_ | refine s_neqB ?_ | refine a7 ?_ | refine a8 ?_ | refine a9 ?_ | refine RW.storeR rfl rfl rfl rfl (by first | rfl | (simp [allOne, cellsL, one1]; done) | (simp [allOne, cellsL, one1]; first | assumption | (refine ⟨?_, ?_⟩ <;> assumption))) rfl ?_ | refine a10 ?_ | refine RW.storeR1 rfl rfl (by first | rfl | exact IsSl.one1 (by assumption) | exact IsSl.one1 (SliceRep.isSl (by assumption))) rfl rfl ?_)
    refine Runs.regionD _ _ [] (fun x hx => List.mem_cons_of_mem _ hx) (List.Sublist.refl _) (by kernel_rfl) ?_
    refine d2 0 ?_
    (first | refine t_fieldB 1 ?_ | refine t_fieldV 1 ?_)
    (first | refine t_loadB 2 ?_ | refine t_loadH 2 ?_ | refine t_loadR 2 ?_)
    (first | refine t_len 3 ?_ | refine t_lenR 3 ?_)
    refine d1 4 2 ?_
    refine DW.dec 81 rfl (fun hkl => ?_) (fun hkl => ?_)
    · rw [if_pos (.inl (by omega))] at hR
      refine d3 6 ?_
      refine d3 7 ?_
      refine d3 8 ?_
      refine d3 9 ?_
      refine d3 10 ?_
      refine d2 11 ?_
      refine DW.done (by kernel_rfl) ?_
      repeat (first | refine a1 ?_ | refine a3 ?_ | refine a4 ?_ | refine a5 ?_ | refine a6 ?_ | refine s_loadBs ?_ | refine s_loadHs ?_ | refine s_build ?_ | refine s_fieldB ?_ | refine s_fieldV ?_ | refine s_loadB ?_ | refine s_loadH ?_ | refine s_loadR ?_ | refine s_len ?_ | refine s_lenR ?_ | refine s_index ?_ | refine s_indexR ?_ | refine s_makeFunc ?_ | refine s_addI ?_ | refine s_neqB ?_ | refine a7 ?_ | refine a8 ?_ | refine a9 ?_ | refine RW.storeR rfl rfl rfl rfl (by first | rfl | (simp [allOne, cellsL, one1]; done) | (simp [allOne, cellsL, one1]; first | assumption | (refine ⟨?_, ?_⟩ <;> assumption))) rfl ?_ | refine a10 ?_ | refine RW.storeR1 rfl rfl (by first | rfl | exact IsSl.one1 (by assumption) | exact IsSl.one1 (SliceRep.isSl (by assumption))) rfl rfl ?_)
      refine Runs.ret2 Try.func20 Try.results20 rfl rfl (fun w hm => hR _ w _ H _ (List.mem_cons_self ..) (Snap.le.refl _) ?_ hm)
      rfl
    · have hot := others_c (H := H1) (Y := fun (_ : Unit) => []) (F := .blk b5 33 [vp, .bool w] :: .blk b3 29 [.int .i64 (N : Int), vl] :: K.own) (step := fun s _ => (false, s)) (yf := 43) (ycap := [])
        K hKe hg' hl1 hh1 hvo hhl hhb hK.1 (fun o ho => by simp [ho]) (fun _ _ => rfl) (fun H' s c v b hle hv _ => check3_c) ()
      rw [runY_false, hK.2.2.1, hK.2.2.2] at hot
      have hle : visitL gl h N (hasK (L.take k)) (whK (L.take k)) N [] 0 0 = leftL gl h N (L.take k) := rfl
      rw [hle] at hot
      refine d2 6 ?_
      (first | refine t_fieldB 8 ?_ | refine t_fieldV 8 ?_)
      (first | refine t_loadB 9 ?_ | refine t_loadH 9 ?_ | refine t_loadR 9 ?_)
      refine DW.callL 7 (cap := []) (O1 := .blk b5 33 [vp, .bool w] :: .blk b3 29 [.int .i64 (N : Int), vl] :: K.own) rfl (by kernel_rfl) rfl rfl hot (List.Sublist.refl _) rfl rfl ?_
      rintro _ H4 rfl hle4
      refine t_neqB 10 ?_
      refine d2 11 ?_
      refine DW.done (by kernel_rfl) ?_
      cases hb : ((leftL gl h N (L.take k)).isEmpty != w) with
      | true =>
        rw [if_pos (.inr (by simpa using hb))] at hR
        repeat (first | refine a1 ?_ | refine a3 ?_ | refine a4 ?_ | refine a5 ?_ | refine a6 ?_ | refine s_loadBs ?_ | refine s_loadHs ?_ | refine s_build ?_ | refine s_fieldB ?_ | refine s_fieldV ?_ | refine s_loadB ?_ | refine s_loadH ?_ | refine s_loadR ?_ | refine s_len ?_ | refine s_lenR ?_ | refine s_index ?_ | refine s_indexR ?_ | refine s_makeFunc ?_ | refine s_addI ?_ | refine s_neqB ?_ | refine a7 ?_ | refine a8 ?_ | refine a9 ?_ | refine RW.storeR rfl rfl rfl rfl (by first | rfl | (simp [allOne, cellsL, one1]; done) | (simp [allOne, cellsL, one1]; first | assumption | (refine ⟨?_, ?_⟩ <;> assumption))) rfl ?_ | refine a10 ?_ | refine RW.storeR1 rfl rfl (by first | rfl | exact IsSl.one1 (by assumption) | exact IsSl.one1 (SliceRep.isSl (by assumption))) rfl rfl ?_)
        refine Runs.ret2 Try.func20 Try.results20 rfl rfl (fun w hm => hR _ w _ H _ (List.mem_cons_self ..) (Snap.le.refl _) ?_ hm)
        rfl
      | false =>
        rw [if_neg (fun h1 => h1.elim (fun h2 => by omega) (fun h2 => h2 (by simpa using hb)))] at hR
        repeat (first | refine a1 ?_ | refine a3 ?_ | refine a4 ?_ | refine a5 ?_ | refine a6 ?_ | refine s_loadBs ?_ | refine s_loadHs ?_ | refine s_build ?_ | refine s_fieldB ?_ | refine s_fieldV ?_ | refine s_loadB ?_ | refine s_loadH ?_ | refine s_loadR ?_ | refine s_len ?_ | refine s_lenR ?_ | refine s_index ?_ | refine s_indexR ?_ | refine s_makeFunc ?_ | refine s_addI ?_ | refine s_neqB ?_ | refine a7 ?_ | refine a8 ?_ | refine a9 ?_ | refine RW.storeR rfl rfl rfl rfl (by first | rfl | (simp [allOne, cellsL, one1]; done) | (simp [allOne, cellsL, one1]; first | assumption | (refine ⟨?_, ?_⟩ <;> assumption))) rfl ?_ | refine a10 ?_ | refine RW.storeR1 rfl rfl (by first | rfl | exact IsSl.one1 (by assumption) | exact IsSl.one1 (SliceRep.isSl (by assumption))) rfl rfl ?_)
        refine Runs.ret2 Try.func20 Try.results20 rfl rfl (fun w hm => hR _ w _ H _ (List.mem_cons_self ..) (Snap.le.refl _) ?_ hm)
        rfl
end Go.Proofs.Ytjdhcblofkkibaa

/-
  Raw edits: their plain side; words and edits of the reference. Conditions: bytes are bytes.
-/
import Derived.Test.YtcikciefaggckaaD9
namespace Go.Proofs.Ytcikciefaggckaa
open Go Go.RowKit

structure Rw where
  k : Int
  a : Int
  l : Int
  t : Int
  tx : List Int
  deriving DecidableEq
def okRw (x : Rw) : Prop := isByte x.k ∧ isByte x.a ∧ isByte x.l ∧ isByte x.t ∧ ∀ b ∈ x.tx, isByte b
def RwL : Lay Rw where
  sz := 5
  rep H x c := ∃ v, c = [.int .u8 x.k, .int .u8 x.a, .int .u8 x.l, .int .u8 x.t, v] ∧ SliceRep H U8 v x.tx
  mono := by rintro H H' x c hle ⟨v, h1, h2⟩; exact ⟨v, h1, h2.mono hle⟩
  len := by rintro H x c ⟨v, rfl, _⟩; rfl
  one := by
    rintro H x c ⟨v, rfl, ⟨⟨A, cap, rfl, _⟩, _⟩⟩ u hu
    simp at hu
    rcases hu with rfl | rfl | rfl | rfl | rfl <;> rfl
theorem SliceRep.rw {H : Snap} {v : Value} {xs : List Rw} (h : SliceRep H RwL v xs) {k : Nat} {x : Rw} (hx : xs[k]? = some x) :
    ∃ vl, SliceRep H U8 vl x.tx ∧ ∀ j u, [.int .u8 x.k, .int .u8 x.a, .int .u8 x.l, .int .u8 x.t, vl][j]? = some u → H.cell (vat v (k * 5 + j)) = some u := by
  obtain ⟨c, ⟨vl, rfl, h1⟩, h2⟩ := h.at hx
  exact ⟨vl, h1, h2⟩

def chT (x : Int) : UInt8 := UInt8.ofNat (97 + x % 26).toNat
def wordT (l : List Int) : List UInt8 := if l = [] then [45] else (l.take 4).map chT
theorem chT_plain {x : Int} : 32 ≤ (chT x).toNat ∧ (chT x).toNat ≤ 126 := by
  unfold chT
  have h : (97 + x % 26).toNat < 256 := by omega
  rw [UInt8.toNat_ofNat_of_lt' (by simpa using h)]
  omega
theorem wordT_plain (l : List Int) : plainP (wordT l) := by
  unfold wordT
  split
  · intro b hb
    rw [List.mem_singleton] at hb
    subst hb
    decide
  · intro b hb
    obtain ⟨x, _, rfl⟩ := List.mem_map.1 hb
    exact chT_plain
theorem wordT_length (l : List Int) : 1 ≤ (wordT l).length ∧ (wordT l).length ≤ 4 := by
  unfold wordT
  split
  · simp
  · rename_i h
    have : l.length ≠ 0 := fun h0 => h (List.eq_nil_of_length_eq_zero h0)
    rw [List.length_map, List.length_take]
    omega
def editE (x : Rw) (n : Int) : Ed :=
  if x.k % 4 = 0 then ⟨1, x.a % (n + 1), 0, 0, wordT x.tx⟩
  else if x.k % 4 = 2 then ⟨3, x.a % (n + 1), x.l % (n - x.a % (n + 1) + 1) % 8, x.t % (n - x.l % (n - x.a % (n + 1) + 1) % 8 + 1), []⟩
  else ⟨1 + x.k % 4, x.a % (n + 1), x.l % (n - x.a % (n + 1) + 1) % 8, 0, []⟩
theorem editE_poss {x : Rw} (hx : okRw x) {n : Int} (hn : 0 ≤ n) : possE (editE x n) n := by
  obtain ⟨⟨h1, h2⟩, ⟨h3, h4⟩, ⟨h5, h6⟩, ⟨h7, h8⟩, _⟩ := hx
  have a1 := Int.emod_nonneg x.a (by omega : n + 1 ≠ 0)
  have a2 := Int.emod_lt_of_pos x.a (by omega : 0 < n + 1)
  have w1 := wordT_length x.tx
  have w2 := wordT_plain x.tx
  unfold editE
  generalize x.a % (n + 1) = A at *
  have b1 := Int.emod_nonneg x.l (by omega : n - A + 1 ≠ 0)
  have b2 := Int.emod_lt_of_pos x.l (by omega : 0 < n - A + 1)
  generalize x.l % (n - A + 1) = B at *
  have c1 := Int.emod_nonneg x.t (by omega : n - B % 8 + 1 ≠ 0)
  have c2 := Int.emod_lt_of_pos x.t (by omega : 0 < n - B % 8 + 1)
  generalize x.t % (n - B % 8 + 1) = C at *
  split
  · refine ⟨by dsimp only; omega, by dsimp only; omega, .inl ⟨rfl, fun h => ?_, by dsimp only; omega, w2⟩⟩
    dsimp only at h
    rw [h] at w1
    simp at w1
  · split
    · exact ⟨by dsimp only; omega, by dsimp only; omega, .inr (.inr ⟨rfl, by dsimp only; omega, by dsimp only; omega, by dsimp only; omega, by dsimp only; omega⟩)⟩
    · refine ⟨by dsimp only; omega, by dsimp only; omega, .inr (.inl ⟨by dsimp only; omega, by dsimp only; omega, by dsimp only; omega⟩)⟩
theorem editE_tx (x : Rw) (n : Int) : (editE x n).tx.length ≤ 4 := by
  unfold editE
  have w1 := wordT_length x.tx
  split
  · exact w1.2
  · split <;> simp

theorem word_c {H : Snap} {v : Value} {l : List Int} (hv : SliceRep H U8 v l) (hb : ∀ b ∈ l, isByte b) : Pure Try.prog 42 #[v] H (fun _ r => r = str (wordT l)) := by
  have hvs := hv.isSl
  have hba := hvs.bound
  refine Pure.intro Try.func42 rfl Try.ntmps42 rfl (fun E R hM hR => ?_)
  repeat (first | refine a1 ?_ | refine a3 ?_ | refine a4 ?_ | refine a5 ?_ | refine a6 ?_ | refine s_len ?_ | refine s_lenR ?_ | refine s_index ?_ | refine s_indexR ?_ | refine s_loadB ?_ | refine s_loadH ?_ | refine s_loadR ?_ | refine s_rem ?_ | refine s_addU8 ?_ | refine s_addS ?_ | refine s_addI ?_ | refine s_eqlS ?_ | refine a7 ?_ | refine a8 ?_)
  refine Runs.loop (fun k : Nat => k ≤ l.length ∧ k ≤ 4) (fun k => l.length - k) (fun _ => [H]) (fun _ => []) (fun k => [(0, v), (3, str ((l.take k).map chT)), (4, .int .i64 (k : Int))]) 0 ⟨Nat.zero_le _, by decide⟩ (fun h => by
    refine Runs.weak (h) (by repeat (first | exact trivial | refine And.intro rfl ?_)) (fun x hx => List.mem_cons_of_mem _ (SubH.h x hx)) (by repeat (first | exact List.nil_sublist _ | exact List.Sublist.refl _ | refine List.Sublist.cons_cons _ ?_ | refine List.Sublist.cons _ ?_))) ?_
  rintro k ⟨hk, hk4⟩ ih
  repeat (first | refine a1 ?_ | refine a3 ?_ | refine a4 ?_ | refine a5 ?_ | refine a6 ?_ | refine s_len ?_ | refine s_lenR ?_ | refine s_index ?_ | refine s_indexR ?_ | refine s_loadB ?_ | refine s_loadH ?_ | refine s_loadR ?_ | refine s_rem ?_ | refine s_addU8 ?_ | refine s_addS ?_ | refine s_addI ?_ | refine s_eqlS ?_ | refine a7 ?_ | refine a8 ?_)
  refine RW.dec 9 rfl (fun h1 => ?_) (fun h1 => ?_)
  · obtain ⟨x, hx⟩ : ∃ x, l[k]? = some x := ⟨_, List.getElem?_eq_getElem (by omega)⟩
    have hxb := hb x (List.mem_of_getElem? hx)
    unfold isByte at hxb
    repeat (first | refine a1 ?_ | refine a3 ?_ | refine a4 ?_ | refine a5 ?_ | refine a6 ?_ | refine s_len ?_ | refine s_lenR ?_ | refine s_index ?_ | refine s_indexR ?_ | refine s_loadB ?_ | refine s_loadH ?_ | refine s_loadR ?_ | refine s_rem ?_ | refine s_addU8 ?_ | refine s_addS ?_ | refine s_addI ?_ | refine s_eqlS ?_ | refine a7 ?_ | refine a8 ?_)
    refine Runs.cond_d rfl (fun h2 => ?_) (fun h2 => ?_)
    · have htk : ((l.take k).map chT).length = k := by simp; omega
      have hx1 : H.cell (vat v (k * 1)) = some (.int .u8 x) := hv.flat1 hx rfl
      repeat (first | refine a1 ?_ | refine a3 ?_ | refine a4 ?_ | refine a5 ?_ | refine a6 ?_ | refine s_len ?_ | refine s_lenR ?_ | refine s_index ?_ | refine s_indexR ?_ | refine s_loadB ?_ | refine s_loadH ?_ | refine s_loadR ?_ | refine s_rem ?_ | refine s_addU8 ?_ | refine s_addS ?_ | refine s_addI ?_ | refine s_eqlS ?_ | refine a7 ?_ | refine a8 ?_)
      refine RW.buildSlice rfl rfl rfl rfl rfl rfl rfl (fun v22 hv22 => ?_)
      refine RW.q (QV.convBytes (ns := [97 + x % 26]) rfl rfl) rfl rfl ?_
      rw [show ([97 + x % 26].map fun n => UInt8.ofNat n.toNat) = [chT x] from rfl]
      have hl1 : [chT x].length = 1 := rfl
      repeat (first | refine a1 ?_ | refine a3 ?_ | refine a4 ?_ | refine a5 ?_ | refine a6 ?_ | refine s_len ?_ | refine s_lenR ?_ | refine s_index ?_ | refine s_indexR ?_ | refine s_loadB ?_ | refine s_loadH ?_ | refine s_loadR ?_ | refine s_rem ?_ | refine s_addU8 ?_ | refine s_addS ?_ | refine s_addI ?_ | refine s_eqlS ?_ | refine a7 ?_ | refine a8 ?_)
      have h := ih (k + 1) ⟨by omega, by omega⟩ (by omega)
      rw [take_snoc_of hx, List.map_append] at h
      refine Runs.weak (h) (by repeat (first | exact trivial | refine And.intro rfl ?_)) (fun x hx => List.mem_cons_of_mem _ (SubH.h x hx)) (by repeat (first | exact List.nil_sublist _ | exact List.Sublist.refl _ | refine List.Sublist.cons_cons _ ?_ | refine List.Sublist.cons _ ?_))
    · have hk : k = 4 := by omega
      subst hk
      have hn : wordT l = (l.take 4).map chT := by
        unfold wordT
        rw [if_neg]
        rintro rfl
        simp at hk
      have hn2 : (l.take 4).map chT ≠ [] := by
        rw [← hn]
        intro h0
        have := wordT_length l
        rw [h0] at this
        simp at this
      repeat (first | refine a1 ?_ | refine a3 ?_ | refine a4 ?_ | refine a5 ?_ | refine a6 ?_ | refine s_len ?_ | refine s_lenR ?_ | refine s_index ?_ | refine s_indexR ?_ | refine s_loadB ?_ | refine s_loadH ?_ | refine s_loadR ?_ | refine s_rem ?_ | refine s_addU8 ?_ | refine s_addS ?_ | refine s_addI ?_ | refine s_eqlS ?_ | refine a7 ?_ | refine a8 ?_)
      rw [decide_eq_false hn2]
      repeat (first | refine a1 ?_ | refine a3 ?_ | refine a4 ?_ | refine a5 ?_ | refine a6 ?_ | refine s_len ?_ | refine s_lenR ?_ | refine s_index ?_ | refine s_indexR ?_ | refine s_loadB ?_ | refine s_loadH ?_ | refine s_loadR ?_ | refine s_rem ?_ | refine s_addU8 ?_ | refine s_addS ?_ | refine s_addI ?_ | refine s_eqlS ?_ | refine a7 ?_ | refine a8 ?_)
      refine Runs.ret1 Try.func42 Try.results42 rfl (fun w hm => hR _ w _ H _ (List.mem_cons_self ..) (Snap.le.refl _) ?_ hm)
      rw [hn]
  · have hk : k = l.length := by omega
    subst hk
    rw [List.take_length]
    by_cases hl : l = []
    · subst hl
      repeat (first | refine a1 ?_ | refine a3 ?_ | refine a4 ?_ | refine a5 ?_ | refine a6 ?_ | refine s_len ?_ | refine s_lenR ?_ | refine s_index ?_ | refine s_indexR ?_ | refine s_loadB ?_ | refine s_loadH ?_ | refine s_loadR ?_ | refine s_rem ?_ | refine s_addU8 ?_ | refine s_addS ?_ | refine s_addI ?_ | refine s_eqlS ?_ | refine a7 ?_ | refine a8 ?_)
      refine Runs.ret1 Try.func42 Try.results42 rfl (fun w hm => hR _ w _ H _ (List.mem_cons_self ..) (Snap.le.refl _) ?_ hm)
      rfl
    · have hn : wordT l = l.map chT := by
        unfold wordT
        rw [if_neg hl, List.take_of_length_le hk4]
      have hn2 : l.map chT ≠ [] := by simpa using hl
      repeat (first | refine a1 ?_ | refine a3 ?_ | refine a4 ?_ | refine a5 ?_ | refine a6 ?_ | refine s_len ?_ | refine s_lenR ?_ | refine s_index ?_ | refine s_indexR ?_ | refine s_loadB ?_ | refine s_loadH ?_ | refine s_loadR ?_ | refine s_rem ?_ | refine s_addU8 ?_ | refine s_addS ?_ | refine s_addI ?_ | refine s_eqlS ?_ | refine a7 ?_ | refine a8 ?_)
      rw [decide_eq_false hn2]
      repeat (first | refine a1 ?_ | refine a3 ?_ | refine a4 ?_ | refine a5 ?_ | refine a6 ?_ | refine s_len ?_ | refine s_lenR ?_ | refine s_index ?_ | refine s_indexR ?_ | refine s_loadB ?_ | refine s_loadH ?_ | refine s_loadR ?_ | refine s_rem ?_ | refine s_addU8 ?_ | refine s_addS ?_ | refine s_addI ?_ | refine s_eqlS ?_ | refine a7 ?_ | refine a8 ?_)
      refine Runs.ret1 Try.func42 Try.results42 rfl (fun w hm => hR _ w _ H _ (List.mem_cons_self ..) (Snap.le.refl _) ?_ hm)
      rw [hn]

set_option maxHeartbeats 1000000 in
theorem edit_c {H : Snap} {v : Value} {x : Rw} {n : Int} (hv : SliceRep H U8 v x.tx) (hx : okRw x) (hn : 0 ≤ n ∧ n ≤ 100000) : Pure Try.prog 24 #[.agg #[.int .u8 x.k, .int .u8 x.a, .int .u8 x.l, .int .u8 x.t, v], .int .i64 n] H (fun _ r => r = edV (editE x n)) := by
  have hvs := hv.isSl
  have hvo := hvs.one1
  obtain ⟨⟨g1, g2⟩, ⟨g3, g4⟩, ⟨g5, g6⟩, ⟨g7, g8⟩, hb⟩ := hx
  refine Pure.intro Try.func24 rfl Try.ntmps24 rfl (fun E R hM hR => ?_)
  repeat (first | refine a1 ?_ | refine a3 ?_ | refine a4 ?_ | refine a5 ?_ | refine a6 ?_ | refine s_fieldB ?_ | refine s_fieldV ?_ | refine s_loadB ?_ | refine s_loadH ?_ | refine s_loadR ?_ | refine s_rem ?_ | refine s_convI ?_ | refine s_addI ?_ | refine s_build ?_ | refine s_loadBs ?_ | refine s_loadHs ?_ | refine s_subI ?_ | refine a7 ?_ | refine a8 ?_ | refine a9 ?_ | refine RW.storeR rfl rfl rfl rfl (by first | rfl | (simp [allOne, cellsL, one1]; done) | (simp [allOne, cellsL, one1]; first | assumption | (refine ⟨?_, ?_⟩ <;> assumption))) rfl ?_ | refine a10 ?_ | refine RW.storeR1 rfl rfl (by first | rfl | exact IsSl.one1 (by assumption) | exact IsSl.one1 (SliceRep.isSl (by assumption))) rfl rfl ?_)
  refine RW.box rfl rfl rfl rfl (fun b2 => ?_)
  refine RW.alloc rfl rfl rfl (fun b4 => ?_)
  repeat (first | refine a1 ?_ | refine a3 ?_ | refine a4 ?_ | refine a5 ?_ | refine a6 ?_ | refine s_fieldB ?_ | refine s_fieldV ?_ | refine s_loadB ?_ | refine s_loadH ?_ | refine s_loadR ?_ | refine s_rem ?_ | refine s_convI ?_ | refine s_addI ?_ | refine s_build ?_ | refine s_loadBs ?_ | refine s_loadHs ?_ | refine s_subI ?_ | refine a7 ?_ | refine a8 ?_ | refine a9 ?_ | refine RW.storeR rfl rfl rfl rfl (by first | rfl | (simp [allOne, cellsL, one1]; done) | (simp [allOne, cellsL, one1]; first | assumption | (refine ⟨?_, ?_⟩ <;> assumption))) rfl ?_ | refine a10 ?_ | refine RW.storeR1 rfl rfl (by first | rfl | exact IsSl.one1 (by assumption) | exact IsSl.one1 (SliceRep.isSl (by assumption))) rfl rfl ?_)
  refine Runs.regionD _ _ [13] (fun x hx => List.mem_cons_of_mem _ hx) (List.Sublist.refl _) (by kernel_rfl) ?_
  (first | refine t_fieldB 0 ?_ | refine t_fieldV 0 ?_)
  (first | refine t_loadB 1 ?_ | refine t_loadH 1 ?_ | refine t_loadR 1 ?_)
  refine t_rem 2 ?_
  refine t_convI 3 ?_
  refine t_addI 4 ?_
  (first | refine t_fieldB 5 ?_ | refine t_fieldV 5 ?_)
  (first | refine t_loadB 6 ?_ | refine t_loadH 6 ?_ | refine t_loadR 6 ?_)
  refine t_convI 7 ?_
  refine d2 8 ?_
  refine t_addI 9 ?_
  refine t_rem 10 ?_
  refine t_build 11 ?_
  refine DW.alloc 12 rfl (by kernel_rfl) rfl rfl rfl (fun b5 => ?_)
  (first | refine DW.storeB 13 rfl (by kernel_rfl) rfl rfl rfl rfl (by first | rfl | (simp [allOne, cellsL, one1]; done) | (simp [allOne, cellsL, one1]; first | assumption | (refine ⟨?_, ?_⟩ <;> assumption))) rfl ?_ | refine DW.storeB1 13 rfl (by kernel_rfl) rfl rfl rfl (by first | rfl | exact IsSl.one1 (by assumption) | exact IsSl.one1 (SliceRep.isSl (by assumption))) rfl rfl ?_)
  refine DW.done (by kernel_rfl) ?_
  have p1 := Int.emod_nonneg x.a (by omega : n + 1 ≠ 0)
  have p2 := Int.emod_lt_of_pos x.a (by omega : 0 < n + 1)
  have w1 := wordT_length x.tx
  unfold editE at hR
  generalize x.a % (n + 1) = A at *
  repeat (first | refine a1 ?_ | refine a3 ?_ | refine a4 ?_ | refine a5 ?_ | refine a6 ?_ | refine s_fieldB ?_ | refine s_fieldV ?_ | refine s_loadB ?_ | refine s_loadH ?_ | refine s_loadR ?_ | refine s_rem ?_ | refine s_convI ?_ | refine s_addI ?_ | refine s_build ?_ | refine s_loadBs ?_ | refine s_loadHs ?_ | refine s_subI ?_ | refine a7 ?_ | refine a8 ?_ | refine a9 ?_ | refine RW.storeR rfl rfl rfl rfl (by first | rfl | (simp [allOne, cellsL, one1]; done) | (simp [allOne, cellsL, one1]; first | assumption | (refine ⟨?_, ?_⟩ <;> assumption))) rfl ?_ | refine a10 ?_ | refine RW.storeR1 rfl rfl (by first | rfl | exact IsSl.one1 (by assumption) | exact IsSl.one1 (SliceRep.isSl (by assumption))) rfl rfl ?_)
  refine Runs.cond_d rfl (fun hk1 => ?_) (fun hk1 => ?_)
  · rw [if_pos (by omega)] at hR
    repeat (first | refine a1 ?_ | refine a3 ?_ | refine a4 ?_ | refine a5 ?_ | refine a6 ?_ | refine s_fieldB ?_ | refine s_fieldV ?_ | refine s_loadB ?_ | refine s_loadH ?_ | refine s_loadR ?_ | refine s_rem ?_ | refine s_convI ?_ | refine s_addI ?_ | refine s_build ?_ | refine s_loadBs ?_ | refine s_loadHs ?_ | refine s_subI ?_ | refine a7 ?_ | refine a8 ?_ | refine a9 ?_ | refine RW.storeR rfl rfl rfl rfl (by first | rfl | (simp [allOne, cellsL, one1]; done) | (simp [allOne, cellsL, one1]; first | assumption | (refine ⟨?_, ?_⟩ <;> assumption))) rfl ?_ | refine a10 ?_ | refine RW.storeR1 rfl rfl (by first | rfl | exact IsSl.one1 (by assumption) | exact IsSl.one1 (SliceRep.isSl (by assumption))) rfl rfl ?_)
    refine RW.callV rfl (word_c hv hb) rfl rfl ?_
    rintro _ _ rfl
    repeat (first | refine a1 ?_ | refine a3 ?_ | refine a4 ?_ | refine a5 ?_ | refine a6 ?_ | refine s_fieldB ?_ | refine s_fieldV ?_ | refine s_loadB ?_ | refine s_loadH ?_ | refine s_loadR ?_ | refine s_rem ?_ | refine s_convI ?_ | refine s_addI ?_ | refine s_build ?_ | refine s_loadBs ?_ | refine s_loadHs ?_ | refine s_subI ?_ | refine a7 ?_ | refine a8 ?_ | refine a9 ?_ | refine RW.storeR rfl rfl rfl rfl (by first | rfl | (simp [allOne, cellsL, one1]; done) | (simp [allOne, cellsL, one1]; first | assumption | (refine ⟨?_, ?_⟩ <;> assumption))) rfl ?_ | refine a10 ?_ | refine RW.storeR1 rfl rfl (by first | rfl | exact IsSl.one1 (by assumption) | exact IsSl.one1 (SliceRep.isSl (by assumption))) rfl rfl ?_)
    refine Runs.retC Try.func24 Try.results24 rfl (fun w hm => hR _ w _ H _ (List.mem_cons_self ..) (Snap.le.refl _) ?_ hm)
    rw [hk1]
  rw [if_neg (by omega)] at hR
  have b1 := Int.emod_nonneg x.l (by omega : n - A + 1 ≠ 0)
  have b2 := Int.emod_lt_of_pos x.l (by omega : 0 < n - A + 1)
  generalize hB : x.l % (n - A + 1) = B at *
  repeat (first | refine a1 ?_ | refine a3 ?_ | refine a4 ?_ | refine a5 ?_ | refine a6 ?_ | refine s_fieldB ?_ | refine s_fieldV ?_ | refine s_loadB ?_ | refine s_loadH ?_ | refine s_loadR ?_ | refine s_rem ?_ | refine s_convI ?_ | refine s_addI ?_ | refine s_build ?_ | refine s_loadBs ?_ | refine s_loadHs ?_ | refine s_subI ?_ | refine a7 ?_ | refine a8 ?_ | refine a9 ?_ | refine RW.storeR rfl rfl rfl rfl (by first | rfl | (simp [allOne, cellsL, one1]; done) | (simp [allOne, cellsL, one1]; first | assumption | (refine ⟨?_, ?_⟩ <;> assumption))) rfl ?_ | refine a10 ?_ | refine RW.storeR1 rfl rfl (by first | rfl | exact IsSl.one1 (by assumption) | exact IsSl.one1 (SliceRep.isSl (by assumption))) rfl rfl ?_)
  rw [hB]
  repeat (first | refine a1 ?_ | refine a3 ?_ | refine a4 ?_ | refine a5 ?_ | refine a6 ?_ | refine s_fieldB ?_ | refine s_fieldV ?_ | refine s_loadB ?_ | refine s_loadH ?_ | refine s_loadR ?_ | refine s_rem ?_ | refine s_convI ?_ | refine s_addI ?_ | refine s_build ?_ | refine s_loadBs ?_ | refine s_loadHs ?_ | refine s_subI ?_ | refine a7 ?_ | refine a8 ?_ | refine a9 ?_ | refine RW.storeR rfl rfl rfl rfl (by first | rfl | (simp [allOne, cellsL, one1]; done) | (simp [allOne, cellsL, one1]; first | assumption | (refine ⟨?_, ?_⟩ <;> assumption))) rfl ?_ | refine a10 ?_ | refine RW.storeR1 rfl rfl (by first | rfl | exact IsSl.one1 (by assumption) | exact IsSl.one1 (SliceRep.isSl (by assumption))) rfl rfl ?_)
  refine Runs.cond_d rfl (fun hk3 => ?_) (fun hk3 => ?_)
  · rw [if_pos (by omega)] at hR
    have c1 := Int.emod_nonneg x.t (by omega : n - B % 8 + 1 ≠ 0)
    have c2 := Int.emod_lt_of_pos x.t (by omega : 0 < n - B % 8 + 1)
    repeat (first | refine a1 ?_ | refine a3 ?_ | refine a4 ?_ | refine a5 ?_ | refine a6 ?_ | refine s_fieldB ?_ | refine s_fieldV ?_ | refine s_loadB ?_ | refine s_loadH ?_ | refine s_loadR ?_ | refine s_rem ?_ | refine s_convI ?_ | refine s_addI ?_ | refine s_build ?_ | refine s_loadBs ?_ | refine s_loadHs ?_ | refine s_subI ?_ | refine a7 ?_ | refine a8 ?_ | refine a9 ?_ | refine RW.storeR rfl rfl rfl rfl (by first | rfl | (simp [allOne, cellsL, one1]; done) | (simp [allOne, cellsL, one1]; first | assumption | (refine ⟨?_, ?_⟩ <;> assumption))) rfl ?_ | refine a10 ?_ | refine RW.storeR1 rfl rfl (by first | rfl | exact IsSl.one1 (by assumption) | exact IsSl.one1 (SliceRep.isSl (by assumption))) rfl rfl ?_)
    refine Runs.retC Try.func24 Try.results24 rfl (fun w hm => hR _ w _ H _ (List.mem_cons_self ..) (Snap.le.refl _) ?_ hm)
    rw [hk3]
  · rw [if_neg (by omega)] at hR
    repeat (first | refine a1 ?_ | refine a3 ?_ | refine a4 ?_ | refine a5 ?_ | refine a6 ?_ | refine s_fieldB ?_ | refine s_fieldV ?_ | refine s_loadB ?_ | refine s_loadH ?_ | refine s_loadR ?_ | refine s_rem ?_ | refine s_convI ?_ | refine s_addI ?_ | refine s_build ?_ | refine s_loadBs ?_ | refine s_loadHs ?_ | refine s_subI ?_ | refine a7 ?_ | refine a8 ?_ | refine a9 ?_ | refine RW.storeR rfl rfl rfl rfl (by first | rfl | (simp [allOne, cellsL, one1]; done) | (simp [allOne, cellsL, one1]; first | assumption | (refine ⟨?_, ?_⟩ <;> assumption))) rfl ?_ | refine a10 ?_ | refine RW.storeR1 rfl rfl (by first | rfl | exact IsSl.one1 (by assumption) | exact IsSl.one1 (SliceRep.isSl (by assumption))) rfl rfl ?_)
    refine Runs.retC Try.func24 Try.results24 rfl (fun w hm => hR _ w _ H _ (List.mem_cons_self ..) (Snap.le.refl _) ?_ hm)
    rfl
end Go.Proofs.Ytcikciefaggckaa

/-
  The law ProofLinks. Conditions: the arguments' form.
-/
import Derived.Test.YthlolpckgffebaaPo
namespace Go.Proofs.Ythlolpckgffebaa
open Go Go.RowKit

/-! ### One more link -/
def leI (b a : Int) : Prop := a = -1 ∨ b ≠ -1 ∧ b ≤ a
theorem leI.refl (a : Int) : leI a a := by unfold leI; omega
theorem stepP_mono {ta tb : List Int} {b a : Int} {x : Lnk} (h : leI b a) (ht : leI (tv tb x.t) (tv ta x.t)) (hb : -1 ≤ tv tb x.t) (ha : -1 ≤ tv ta x.t) (hc : 0 ≤ x.c) : leI (stepP tb b x) (stepP ta a x) := by
  unfold stepP leI at *
  split <;> split <;> (try split) <;> (try split) <;> omega
theorem stepP_less {t : List Int} {a : Int} {x : Lnk} (ha : -1 ≤ tv t x.t) (hc : 0 ≤ x.c) : leI (stepP t a x) a := by
  unfold stepP leI
  split
  · omega
  · split <;> omega
theorem foldP_mono {ta tb : List Int} {n : Int} : ∀ (gl : List Lnk) (b a : Int), leI b a → (∀ x ∈ gl, x.f = n → leI (tv tb x.t) (tv ta x.t) ∧ -1 ≤ tv tb x.t ∧ -1 ≤ tv ta x.t ∧ 0 ≤ x.c) →
    leI (gl.foldl (fun a x => if x.f = n then stepP tb a x else a) b) (gl.foldl (fun a x => if x.f = n then stepP ta a x else a) a)
  | [], _, _, h, _ => h
  | x :: r, b, a, h, hx => by
    rw [List.foldl_cons, List.foldl_cons]
    refine foldP_mono r _ _ ?_ fun y hy => hx y (List.mem_cons_of_mem _ hy)
    split
    · rename_i hf
      obtain ⟨h1, h2, h3, h4⟩ := hx x (List.mem_cons_self ..) hf
      exact stepP_mono h h1 h2 h3 h4
    · exact h
theorem potT_congr {ta tb : List Int} {n : Int} {gl : List Lnk} (hx : ∀ x ∈ gl, x.f = n → tv tb x.t = tv ta x.t) : potT gl tb n = potT gl ta n := by
  unfold potT
  refine foldl_congr _ _ fun a x h => ?_
  by_cases hf : x.f = n
  · rw [if_pos hf, if_pos hf, stepP, stepP, hx x h hf]
  · rw [if_neg hf, if_neg hf]
theorem potT_snoc (gl : List Lnk) (x : Lnk) (t : List Int) (n : Int) : potT (gl ++ [x]) t n = if x.f = n then stepP t (potT gl t n) x else potT gl t n := by
  unfold potT; rw [List.foldl_append]; rfl
section
variable {N : Nat} {gl : List Lnk} {x : Lnk} {a b : List Int}
theorem pot_link_le (hg : ∀ y ∈ gl, okL (N : Int) y) (hx : okL (N : Int) x) (ha : IsPot N gl 0 a) (hb : IsPot N (gl ++ [x]) 0 b) : ∀ (d n : Nat), n + d + 1 = N → leI (tv b n) (tv a n) := by
  intro d
  induction d using Nat.strongRecOn with
  | _ d ih =>
    intro n hn
    by_cases hd : d = 0
    · have e : (n : Int) = N - 1 := by omega
      rw [e, ha.2.2.2, hb.2.2.2]; exact leI.refl _
    · rw [ha.2.2.1 n (Nat.zero_le _) (by omega), hb.2.2.1 n (Nat.zero_le _) (by omega), potT_snoc]
      have key : leI (potT gl b n) (potT gl a n) := by
        refine foldP_mono gl _ _ (leI.refl _) fun y hy hf => ?_
        have hyo := hg y hy
        unfold okL at hyo
        obtain ⟨m, hm⟩ : ∃ m : Nat, y.t = (m : Int) := ⟨y.t.toNat, by omega⟩
        rw [hm]
        exact ⟨ih (N - 1 - m) (by omega) m (by omega), (hb.2.1 m (by omega) (by omega)).1, (ha.2.1 m (by omega) (by omega)).1, by omega⟩
      split
      · unfold okL at hx
        have h1 := stepP_less (t := b) (a := potT gl b n) (x := x) (hb.2.1 x.t (by omega) (by omega)).1 (by omega)
        unfold leI at *
        omega
      · exact key
theorem pot_link_above (hg : ∀ y ∈ gl, okL (N : Int) y) (ha : IsPot N gl 0 a) (hb : IsPot N (gl ++ [x]) 0 b) : ∀ (d n : Nat), n + d + 1 = N → x.f < n → tv b n = tv a n := by
  intro d
  induction d using Nat.strongRecOn with
  | _ d ih =>
    intro n hn hxn
    by_cases hd : d = 0
    · have e : (n : Int) = N - 1 := by omega
      rw [e, ha.2.2.2, hb.2.2.2]
    · rw [ha.2.2.1 n (Nat.zero_le _) (by omega), hb.2.2.1 n (Nat.zero_le _) (by omega), potT_snoc, if_neg (by omega)]
      refine potT_congr fun y hy hf => ?_
      have hyo := hg y hy
      unfold okL at hyo
      obtain ⟨m, hm⟩ : ∃ m : Nat, y.t = (m : Int) := ⟨y.t.toNat, by omega⟩
      rw [hm]
      exact ih (N - 1 - m) (by omega) m (by omega) (by omega)
theorem pot_link_at (hg : ∀ y ∈ gl, okL (N : Int) y) (hx : okL (N : Int) x) (ha : IsPot N gl 0 a) (hb : IsPot N (gl ++ [x]) 0 b) : tv b x.f = stepP a (tv a x.f) x := by
  unfold okL at hx
  obtain ⟨n, hn⟩ : ∃ n : Nat, x.f = (n : Int) := ⟨x.f.toNat, by omega⟩
  have hab : ∀ y, (y ∈ gl ∨ y = x) → y.f = n → tv b y.t = tv a y.t := by
    intro y hy hf
    have hyo : okL (N : Int) y := by
      rcases hy with h | rfl
      · exact hg y h
      · exact hx
    unfold okL at hyo
    obtain ⟨m, hm⟩ : ∃ m : Nat, y.t = (m : Int) := ⟨y.t.toNat, by omega⟩
    rw [hm]
    exact pot_link_above hg ha hb (N - 1 - m) m (by omega) (by omega)
  rw [hn, hb.2.2.1 n (Nat.zero_le _) (by omega), potT_snoc, if_pos hn, potT_congr (fun y hy hf => hab y (.inl hy) hf), ha.2.2.1 n (Nat.zero_le _) (by omega)]
  unfold stepP
  rw [hab x (.inr rfl) hn]
theorem pot_link_same (hg : ∀ y ∈ gl, okL (N : Int) y) (ha : IsPot N gl 0 a) (hb : IsPot N (gl ++ [x]) 0 b) (he : tv b x.f = tv a x.f) : ∀ (d n : Nat), n + d + 1 = N → tv b n = tv a n := by
  intro d
  induction d using Nat.strongRecOn with
  | _ d ih =>
    intro n hn
    by_cases hxn : x.f = n
    · rw [← hxn]; exact he
    · by_cases hd : d = 0
      · have e : (n : Int) = N - 1 := by omega
        rw [e, ha.2.2.2, hb.2.2.2]
      · rw [ha.2.2.1 n (Nat.zero_le _) (by omega), hb.2.2.1 n (Nat.zero_le _) (by omega), potT_snoc, if_neg hxn]
        refine potT_congr fun y hy hf => ?_
        have hyo := hg y hy
        unfold okL at hyo
        obtain ⟨m, hm⟩ : ∃ m : Nat, y.t = (m : Int) := ⟨y.t.toNat, by omega⟩
        rw [hm]
        exact ih (N - 1 - m) (by omega) m (by omega)
/-- Useless: the link does not lead to the last node, or costs more than the potentials differ by. -/
def useless (a : List Int) (x : Lnk) : Prop := tv a x.t < 0 ∨ 0 ≤ tv a x.f ∧ tv a x.f ≤ tv a x.t + x.c
instance (a : List Int) (x : Lnk) : Decidable (useless a x) := inferInstanceAs (Decidable (_ ∨ _))
theorem useless_iff (hg : ∀ y ∈ gl, okL (N : Int) y) (hx : okL (N : Int) x) (ha : IsPot N gl 0 a) (hb : IsPot N (gl ++ [x]) 0 b) : useless a x ↔ ∀ j, j < N → tv b (j : Int) = tv a (j : Int) := by
  have h1 := pot_link_at hg hx ha hb
  have hx' := hx
  unfold okL at hx'
  have ht := ha.2.1 x.t (by omega) (by omega)
  have hf := ha.2.1 x.f (by omega) (by omega)
  have key : useless a x ↔ tv b x.f = tv a x.f := by
    rw [h1]
    unfold useless stepP
    split
    · omega
    · split <;> omega
  rw [key]
  constructor
  · intro he j hj
    exact pot_link_same hg ha hb he (N - 1 - j) j (by omega)
  · intro h
    obtain ⟨n, hn⟩ : ∃ n : Nat, x.f = (n : Int) := ⟨x.f.toNat, by omega⟩
    rw [hn]
    exact h n (by omega)
end

set_option maxHeartbeats 8000000 in
theorem links16_c {H : Snap} {n : Int} {vL : Value} {xs : List (Int × Int × Int)} {l : Int × Int × Int} (hl : SliceRep H TriL vL xs) (hn : isByte n) (hx : ∀ x ∈ xs, triOk x) (hlo : triOk l) :
    Pure Try.prog 7 #[.agg #[.int .u8 n, vL], .agg #[.int .u8 l.1, .int .u8 l.2.1, .int .u8 l.2.2]] H (fun _ r => r = .bool true) := by
  have hg := made_valid n hx
  have hgl14 := madeL_length n xs
  obtain ⟨l0, l1, l2⟩ := l
  obtain ⟨hl0, hl1, hl2⟩ := hlo
  dsimp only at hl0 hl1 hl2 ⊢
  unfold isByte at hl0 hl1 hl2
  refine Pure.intro Try.func7 rfl Try.ntmps7 rfl (fun E R hM hR => ?_)
  repeat (first | refine a1 ?_ | refine a3 ?_ | refine a4 ?_ | refine a5 ?_ | refine a6 ?_ | refine s_loadBs ?_ | refine s_loadHs ?_ | refine s_fieldB ?_ | refine s_fieldV ?_ | refine s_loadB ?_ | refine s_loadH ?_ | refine s_loadR ?_ | refine s_indexArrT ?_ | refine s_indexArrB ?_ | refine s_convI ?_ | refine s_subI ?_ | refine s_rem ?_ | refine s_addI ?_ | refine s_build ?_ | refine s_len ?_ | refine s_lenR ?_ | refine s_index ?_ | refine s_indexR ?_ | refine s_eqlB ?_ | refine a7 ?_ | refine a8 ?_ | refine a9 ?_ | refine RW.storeR rfl rfl rfl rfl (by first | rfl | (simp [allOne, cellsL, one1]; done) | (simp [allOne, cellsL, one1]; first | assumption | (refine ⟨?_, ?_⟩ <;> assumption))) rfl ?_ | refine a10 ?_ | refine RW.storeR1 rfl rfl (by first | rfl | exact IsSl.one1 (by assumption) | exact IsSl.one1 (SliceRep.isSl (by assumption))) rfl rfl ?_)
  refine RW.box rfl rfl rfl rfl (fun b2 => ?_)
  refine RW.box rfl rfl rfl rfl (fun b3 => ?_)
  repeat (first | refine a1 ?_ | refine a3 ?_ | refine a4 ?_ | refine a5 ?_ | refine a6 ?_ | refine s_loadBs ?_ | refine s_loadHs ?_ | refine s_fieldB ?_ | refine s_fieldV ?_ | refine s_loadB ?_ | refine s_loadH ?_ | refine s_loadR ?_ | refine s_indexArrT ?_ | refine s_indexArrB ?_ | refine s_convI ?_ | refine s_subI ?_ | refine s_rem ?_ | refine s_addI ?_ | refine s_build ?_ | refine s_len ?_ | refine s_lenR ?_ | refine s_index ?_ | refine s_indexR ?_ | refine s_eqlB ?_ | refine a7 ?_ | refine a8 ?_ | refine a9 ?_ | refine RW.storeR rfl rfl rfl rfl (by first | rfl | (simp [allOne, cellsL, one1]; done) | (simp [allOne, cellsL, one1]; first | assumption | (refine ⟨?_, ?_⟩ <;> assumption))) rfl ?_ | refine a10 ?_ | refine RW.storeR1 rfl rfl (by first | rfl | exact IsSl.one1 (by assumption) | exact IsSl.one1 (SliceRep.isSl (by assumption))) rfl rfl ?_)
  refine RW.callV rfl (sanity16_c (H := H)) rfl rfl ?_
  rintro _ _ rfl
  repeat (first | refine a1 ?_ | refine a3 ?_ | refine a4 ?_ | refine a5 ?_ | refine a6 ?_ | refine s_loadBs ?_ | refine s_loadHs ?_ | refine s_fieldB ?_ | refine s_fieldV ?_ | refine s_loadB ?_ | refine s_loadH ?_ | refine s_loadR ?_ | refine s_indexArrT ?_ | refine s_indexArrB ?_ | refine s_convI ?_ | refine s_subI ?_ | refine s_rem ?_ | refine s_addI ?_ | refine s_build ?_ | refine s_len ?_ | refine s_lenR ?_ | refine s_index ?_ | refine s_indexR ?_ | refine s_eqlB ?_ | refine a7 ?_ | refine a8 ?_ | refine a9 ?_ | refine RW.storeR rfl rfl rfl rfl (by first | rfl | (simp [allOne, cellsL, one1]; done) | (simp [allOne, cellsL, one1]; first | assumption | (refine ⟨?_, ?_⟩ <;> assumption))) rfl ?_ | refine a10 ?_ | refine RW.storeR1 rfl rfl (by first | rfl | exact IsSl.one1 (by assumption) | exact IsSl.one1 (SliceRep.isSl (by assumption))) rfl rfl ?_)
  refine RW.call rfl (made_c hl hn hx) rfl rfl ?_
  rintro _ Hg ⟨vg, rfl, hgl⟩ hleg
  generalize hGe : madeL n xs = gl at hgl hg hgl14
  generalize hNe : madeN n = N at hg ⊢
  obtain ⟨N, rfl⟩ : ∃ M : Nat, N = (M : Int) := ⟨N.toNat, by have := hg.1; omega⟩
  have hgv := hg
  obtain ⟨hN1, hN2, hlen, hall⟩ := hg
  have hvg1 := hgl.isSl.one1
  have hbgl := hgl.isSl.bound
  refine RW.alloc rfl rfl rfl (fun b6 => ?_)
  repeat (first | refine a1 ?_ | refine a3 ?_ | refine a4 ?_ | refine a5 ?_ | refine a6 ?_ | refine s_loadBs ?_ | refine s_loadHs ?_ | refine s_fieldB ?_ | refine s_fieldV ?_ | refine s_loadB ?_ | refine s_loadH ?_ | refine s_loadR ?_ | refine s_indexArrT ?_ | refine s_indexArrB ?_ | refine s_convI ?_ | refine s_subI ?_ | refine s_rem ?_ | refine s_addI ?_ | refine s_build ?_ | refine s_len ?_ | refine s_lenR ?_ | refine s_index ?_ | refine s_indexR ?_ | refine s_eqlB ?_ | refine a7 ?_ | refine a8 ?_ | refine a9 ?_ | refine RW.storeR rfl rfl rfl rfl (by first | rfl | (simp [allOne, cellsL, one1]; done) | (simp [allOne, cellsL, one1]; first | assumption | (refine ⟨?_, ?_⟩ <;> assumption))) rfl ?_ | refine a10 ?_ | refine RW.storeR1 rfl rfl (by first | rfl | exact IsSl.one1 (by assumption) | exact IsSl.one1 (SliceRep.isSl (by assumption))) rfl rfl ?_)
  refine Runs.cond_d rfl (fun h2 => ?_) (fun h2 => ?_)
  · repeat (first | refine a1 ?_ | refine a3 ?_ | refine a4 ?_ | refine a5 ?_ | refine a6 ?_ | refine s_loadBs ?_ | refine s_loadHs ?_ | refine s_fieldB ?_ | refine s_fieldV ?_ | refine s_loadB ?_ | refine s_loadH ?_ | refine s_loadR ?_ | refine s_indexArrT ?_ | refine s_indexArrB ?_ | refine s_convI ?_ | refine s_subI ?_ | refine s_rem ?_ | refine s_addI ?_ | refine s_build ?_ | refine s_len ?_ | refine s_lenR ?_ | refine s_index ?_ | refine s_indexR ?_ | refine s_eqlB ?_ | refine a7 ?_ | refine a8 ?_ | refine a9 ?_ | refine RW.storeR rfl rfl rfl rfl (by first | rfl | (simp [allOne, cellsL, one1]; done) | (simp [allOne, cellsL, one1]; first | assumption | (refine ⟨?_, ?_⟩ <;> assumption))) rfl ?_ | refine a10 ?_ | refine RW.storeR1 rfl rfl (by first | rfl | exact IsSl.one1 (by assumption) | exact IsSl.one1 (SliceRep.isSl (by assumption))) rfl rfl ?_)
    refine Runs.ret1 Try.func7 Try.results7 rfl (fun w hm => hR _ w _ H _ (List.mem_cons_self ..) (Snap.le.refl _) ?_ hm)
    rfl
  repeat (first | refine a1 ?_ | refine a3 ?_ | refine a4 ?_ | refine a5 ?_ | refine a6 ?_ | refine s_loadBs ?_ | refine s_loadHs ?_ | refine s_fieldB ?_ | refine s_fieldV ?_ | refine s_loadB ?_ | refine s_loadH ?_ | refine s_loadR ?_ | refine s_indexArrT ?_ | refine s_indexArrB ?_ | refine s_convI ?_ | refine s_subI ?_ | refine s_rem ?_ | refine s_addI ?_ | refine s_build ?_ | refine s_len ?_ | refine s_lenR ?_ | refine s_index ?_ | refine s_indexR ?_ | refine s_eqlB ?_ | refine a7 ?_ | refine a8 ?_ | refine a9 ?_ | refine RW.storeR rfl rfl rfl rfl (by first | rfl | (simp [allOne, cellsL, one1]; done) | (simp [allOne, cellsL, one1]; first | assumption | (refine ⟨?_, ?_⟩ <;> assumption))) rfl ?_ | refine a10 ?_ | refine RW.storeR1 rfl rfl (by first | rfl | exact IsSl.one1 (by assumption) | exact IsSl.one1 (SliceRep.isSl (by assumption))) rfl rfl ?_)
  obtain ⟨f, hf⟩ : ∃ f : Nat, l0 % ((N : Int) - 1) = (f : Int) := ⟨(l0 % ((N : Int) - 1)).toNat, by
    have := Int.emod_nonneg l0 (b := (N : Int) - 1) (by omega)
    omega⟩
  have hfN : f + 1 < N := by
    have := Int.emod_lt_of_pos l0 (b := (N : Int) - 1) (by omega)
    omega
  rw [hf]
  obtain ⟨r, hr⟩ : ∃ r : Nat, l1 % ((N : Int) - 1 - f) = (r : Int) := ⟨(l1 % ((N : Int) - 1 - f)).toNat, by
    have := Int.emod_nonneg l1 (b := (N : Int) - 1 - f) (by omega)
    omega⟩
  have hrN : f + 1 + r < N := by
    have := Int.emod_lt_of_pos l1 (b := (N : Int) - 1 - f) (by omega)
    omega
  obtain ⟨cc, hcc⟩ : ∃ c, l2 % 12 = c := ⟨_, rfl⟩
  have hc12 : 0 ≤ cc ∧ cc < 12 := by omega
  repeat (first | refine a1 ?_ | refine a3 ?_ | refine a4 ?_ | refine a5 ?_ | refine a6 ?_ | refine s_loadBs ?_ | refine s_loadHs ?_ | refine s_fieldB ?_ | refine s_fieldV ?_ | refine s_loadB ?_ | refine s_loadH ?_ | refine s_loadR ?_ | refine s_indexArrT ?_ | refine s_indexArrB ?_ | refine s_convI ?_ | refine s_subI ?_ | refine s_rem ?_ | refine s_addI ?_ | refine s_build ?_ | refine s_len ?_ | refine s_lenR ?_ | refine s_index ?_ | refine s_indexR ?_ | refine s_eqlB ?_ | refine a7 ?_ | refine a8 ?_ | refine a9 ?_ | refine RW.storeR rfl rfl rfl rfl (by first | rfl | (simp [allOne, cellsL, one1]; done) | (simp [allOne, cellsL, one1]; first | assumption | (refine ⟨?_, ?_⟩ <;> assumption))) rfl ?_ | refine a10 ?_ | refine RW.storeR1 rfl rfl (by first | rfl | exact IsSl.one1 (by assumption) | exact IsSl.one1 (SliceRep.isSl (by assumption))) rfl rfl ?_)
  refine Runs.regionD _ _ [19] (fun x hx => List.mem_cons_of_mem _ hx) (List.Sublist.refl _) (by kernel_rfl) ?_
  refine d1 0 2 ?_
  refine t_addI 2 ?_
  (first | refine t_indexArrT 3 ?_ | refine t_indexArrB 3 ?_)
  (first | refine t_loadB 4 ?_ | refine t_loadH 4 ?_ | refine t_loadR 4 ?_)
  refine t_convI 5 ?_
  (first | refine t_fieldB 6 ?_ | refine t_fieldV 6 ?_)
  (first | refine t_loadB 7 ?_ | refine t_loadH 7 ?_ | refine t_loadR 7 ?_)
  refine t_subI 8 ?_
  refine d2 9 ?_
  refine t_subI 10 ?_
  refine t_rem 11 ?_
  rw [hr]
  refine t_addI 12 ?_
  (first | refine t_indexArrT 13 ?_ | refine t_indexArrB 13 ?_)
  (first | refine t_loadB 14 ?_ | refine t_loadH 14 ?_ | refine t_loadR 14 ?_)
  refine t_rem 15 ?_
  refine t_convI 16 ?_
  refine t_build 17 ?_
  rw [show (f : Int) + 1 + r = ((f + 1 + r : Nat) : Int) by omega, hcc]
  refine DW.alloc 18 rfl (by kernel_rfl) rfl rfl rfl (fun b8 => ?_)
  (first | refine DW.storeB 19 rfl (by kernel_rfl) rfl rfl rfl rfl (by first | rfl | (simp [allOne, cellsL, one1]; done) | (simp [allOne, cellsL, one1]; first | assumption | (refine ⟨?_, ?_⟩ <;> assumption))) rfl ?_ | refine DW.storeB1 19 rfl (by kernel_rfl) rfl rfl rfl (by first | rfl | exact IsSl.one1 (by assumption) | exact IsSl.one1 (SliceRep.isSl (by assumption))) rfl rfl ?_)
  refine DW.done (by kernel_rfl) ?_
  repeat (first | refine a1 ?_ | refine a3 ?_ | refine a4 ?_ | refine a5 ?_ | refine a6 ?_ | refine s_loadBs ?_ | refine s_loadHs ?_ | refine s_fieldB ?_ | refine s_fieldV ?_ | refine s_loadB ?_ | refine s_loadH ?_ | refine s_loadR ?_ | refine s_indexArrT ?_ | refine s_indexArrB ?_ | refine s_convI ?_ | refine s_subI ?_ | refine s_rem ?_ | refine s_addI ?_ | refine s_build ?_ | refine s_len ?_ | refine s_lenR ?_ | refine s_index ?_ | refine s_indexR ?_ | refine s_eqlB ?_ | refine a7 ?_ | refine a8 ?_ | refine a9 ?_ | refine RW.storeR rfl rfl rfl rfl (by first | rfl | (simp [allOne, cellsL, one1]; done) | (simp [allOne, cellsL, one1]; first | assumption | (refine ⟨?_, ?_⟩ <;> assumption))) rfl ?_ | refine a10 ?_ | refine RW.storeR1 rfl rfl (by first | rfl | exact IsSl.one1 (by assumption) | exact IsSl.one1 (SliceRep.isSl (by assumption))) rfl rfl ?_)
  obtain ⟨Ag, cg, rfl, _, _⟩ := hgl.isSl
  refine Runs.regionD _ _ [8] (fun x hx => List.mem_cons_of_mem _ hx) (List.Sublist.refl _) (by kernel_rfl) ?_
  (first | refine t_fieldB 0 ?_ | refine t_fieldV 0 ?_)
  (first | refine t_loadB 1 ?_ | refine t_loadH 1 ?_ | refine t_loadR 1 ?_)
  (first | refine t_fieldB 3 ?_ | refine t_fieldV 3 ?_)
  (first | refine t_loadB 4 ?_ | refine t_loadH 4 ?_ | refine t_loadR 4 ?_)
  refine DW.float 7 rfl rfl ?_
  refine DWf.buildSlice 2 rfl rfl rfl (by kernel_rfl) (by kernel_rfl) rfl rfl rfl rfl rfl rfl rfl rfl rfl rfl (fun v51 hv51 => ?_)
  refine DWf.appendH 5 rfl rfl rfl (by kernel_rfl) (by kernel_rfl) rfl rfl rfl rfl rfl rfl rfl (hgl) (by rfl) rfl (by decide) (by omega) (by omega) (fun _ _ => inferInstance) (fun _ _ => inferInstance) inferInstance (fun ds v54 hds hv54 => ?_)
  obtain ⟨A54, c54, rfl, _, _⟩ := hv54
  refine DWf.qF 6 rfl rfl (by kernel_rfl) (QF.build rfl rfl) (fun _ => QF.build rfl rfl) rfl rfl ?_
  refine DWf.take rfl (by kernel_rfl) rfl rfl rfl (fun b9 => ?_)
  simp only [List.cons_append, List.nil_append]
  (first | refine DW.storeB 8 rfl (by kernel_rfl) rfl rfl rfl rfl (by first | rfl | (simp [allOne, cellsL, one1]; done) | (simp [allOne, cellsL, one1]; first | assumption | (refine ⟨?_, ?_⟩ <;> assumption))) rfl ?_ | refine DW.storeB1 8 rfl (by kernel_rfl) rfl rfl rfl (by first | rfl | exact IsSl.one1 (by assumption) | exact IsSl.one1 (SliceRep.isSl (by assumption))) rfl rfl ?_)
  refine DW.done (by kernel_rfl) ?_
  have hds' := flat_cells hds
  subst hds'
  simp only [repL, List.nil_append, Nat.zero_add]
  generalize Value.slice Ag gl.length cg = vg at *
  repeat (first | refine a1 ?_ | refine a3 ?_ | refine a4 ?_ | refine a5 ?_ | refine a6 ?_ | refine s_loadBs ?_ | refine s_loadHs ?_ | refine s_fieldB ?_ | refine s_fieldV ?_ | refine s_loadB ?_ | refine s_loadH ?_ | refine s_loadR ?_ | refine s_indexArrT ?_ | refine s_indexArrB ?_ | refine s_convI ?_ | refine s_subI ?_ | refine s_rem ?_ | refine s_addI ?_ | refine s_build ?_ | refine s_len ?_ | refine s_lenR ?_ | refine s_index ?_ | refine s_indexR ?_ | refine s_eqlB ?_ | refine a7 ?_ | refine a8 ?_ | refine a9 ?_ | refine RW.storeR rfl rfl rfl rfl (by first | rfl | (simp [allOne, cellsL, one1]; done) | (simp [allOne, cellsL, one1]; first | assumption | (refine ⟨?_, ?_⟩ <;> assumption))) rfl ?_ | refine a10 ?_ | refine RW.storeR1 rfl rfl (by first | rfl | exact IsSl.one1 (by assumption) | exact IsSl.one1 (SliceRep.isSl (by assumption))) rfl rfl ?_)
  refine RW.buildSlice rfl rfl rfl rfl rfl rfl rfl (fun v59 hv59 => ?_)
  refine RW.appendR rfl rfl (by assumption) rfl rfl rfl (by decide) (by omega) (by omega) (fun _ => inferInstance) rfl rfl (fun v60 hv60 => ?_)
  have hv601 := hv60.one1
  repeat (first | refine a1 ?_ | refine a3 ?_ | refine a4 ?_ | refine a5 ?_ | refine a6 ?_ | refine s_loadBs ?_ | refine s_loadHs ?_ | refine s_fieldB ?_ | refine s_fieldV ?_ | refine s_loadB ?_ | refine s_loadH ?_ | refine s_loadR ?_ | refine s_indexArrT ?_ | refine s_indexArrB ?_ | refine s_convI ?_ | refine s_subI ?_ | refine s_rem ?_ | refine s_addI ?_ | refine s_build ?_ | refine s_len ?_ | refine s_lenR ?_ | refine s_index ?_ | refine s_indexR ?_ | refine s_eqlB ?_ | refine a7 ?_ | refine a8 ?_ | refine a9 ?_ | refine RW.storeR rfl rfl rfl rfl (by first | rfl | (simp [allOne, cellsL, one1]; done) | (simp [allOne, cellsL, one1]; first | assumption | (refine ⟨?_, ?_⟩ <;> assumption))) rfl ?_ | refine a10 ?_ | refine RW.storeR1 rfl rfl (by first | rfl | exact IsSl.one1 (by assumption) | exact IsSl.one1 (SliceRep.isSl (by assumption))) rfl rfl ?_)
  refine RW.freeze (H := Hg) v60 hM (fun H1 hle1 hs1 hc1 => ?_)
  have hmo : SliceRep H1 LinkL v60 (gl ++ [⟨f, ((f + 1 + r : Nat) : Int), 0, cc⟩]) := SliceRep.of_row hs1 (by simp) (by
    have := flat_rep (H := H1) (sz := 4) (enc := fun x : Lnk => [.int .i64 x.f, .int .i64 x.t, .int .i64 x.lab, .int .i64 x.c]) (h0 := fun _ => rfl) (h1 := by simp [one1]) (gl ++ [⟨f, ((f + 1 + r : Nat) : Int), 0, cc⟩])
    rw [List.flatMap_append] at this
    exact this) (Snap.le.refl _) hc1
  have hX : okL (N : Int) ⟨f, ((f + 1 + r : Nat) : Int), 0, cc⟩ := by unfold okL; dsimp only; omega
  generalize hXe : (⟨f, ((f + 1 + r : Nat) : Int), 0, cc⟩ : Lnk) = X at hmo hX
  have hXf : X.f = (f : Int) := by rw [← hXe]
  have hXt : X.t = ((f + 1 + r : Nat) : Int) := by rw [← hXe]
  have hXc : X.c = cc := by rw [← hXe]
  have hgv2 : validG (N : Int) (gl ++ [X]) := ⟨hN1, hN2, by simp; omega, fun y hy => by
    rcases List.mem_append.1 hy with h | h
    · exact hall y h
    · rw [List.mem_singleton] at h; rw [h]; exact hX⟩
  have hpa := pot_is hall (by omega)
  have hpb := pot_is hgv2.2.2.2 (by omega)
  have hle := pot_link_le hall hX hpa hpb
  have hiff := useless_iff hall hX hpa hpb
  have hA := bpot_c (N := (N : Int)) (hgl.mono hle1)
  rw [potE_valid hgv, potL_valid hgv] at hA
  have hB := fun H2 (h12 : H1.le H2) => bpot_c (N := (N : Int)) (hmo.mono h12)
  rw [potE_valid hgv2, potL_valid hgv2] at hB
  have hpal := hpa.1
  have hpbl := hpb.1
  generalize pot gl N = a at hA hpa hle hiff hpal
  generalize pot (gl ++ [X]) N = b at hB hpb hle hiff hpbl
  have hab : ∀ j : Nat, j < N → (-1 ≤ tv a (j : Int) ∧ tv a (j : Int) ≤ 2000000000) ∧ leI (tv b (j : Int)) (tv a (j : Int)) ∧ -1 ≤ tv b (j : Int) := fun j hj => ⟨by have := hpa.2.1 (j : Int) (by omega) (by omega); omega, hle (N - 1 - j) j (by omega), (hpb.2.1 (j : Int) (by omega) (by omega)).1⟩
  unfold useless at hiff
  rw [hXf, hXt, hXc] at hiff
  refine RW.call rfl (hA) rfl rfl ?_
  rintro _ Ha ⟨va, rfl, hva⟩ hlea
  repeat (first | refine a1 ?_ | refine a3 ?_ | refine a4 ?_ | refine a5 ?_ | refine a6 ?_ | refine s_loadBs ?_ | refine s_loadHs ?_ | refine s_fieldB ?_ | refine s_fieldV ?_ | refine s_loadB ?_ | refine s_loadH ?_ | refine s_loadR ?_ | refine s_indexArrT ?_ | refine s_indexArrB ?_ | refine s_convI ?_ | refine s_subI ?_ | refine s_rem ?_ | refine s_addI ?_ | refine s_build ?_ | refine s_len ?_ | refine s_lenR ?_ | refine s_index ?_ | refine s_indexR ?_ | refine s_eqlB ?_ | refine a7 ?_ | refine a8 ?_ | refine a9 ?_ | refine RW.storeR rfl rfl rfl rfl (by first | rfl | (simp [allOne, cellsL, one1]; done) | (simp [allOne, cellsL, one1]; first | assumption | (refine ⟨?_, ?_⟩ <;> assumption))) rfl ?_ | refine a10 ?_ | refine RW.storeR1 rfl rfl (by first | rfl | exact IsSl.one1 (by assumption) | exact IsSl.one1 (SliceRep.isSl (by assumption))) rfl rfl ?_)
  refine RW.call rfl (hB Ha hlea) rfl rfl ?_
  rintro _ Hb ⟨vb, rfl, hvb⟩ hleb
  have hva2 := hva.mono hleb
  have hsa := hva2.isSl
  have hsb := hvb.isSl
  rw [hpal] at hsa
  rw [hpbl] at hsb
  repeat (first | refine a1 ?_ | refine a3 ?_ | refine a4 ?_ | refine a5 ?_ | refine a6 ?_ | refine s_loadBs ?_ | refine s_loadHs ?_ | refine s_fieldB ?_ | refine s_fieldV ?_ | refine s_loadB ?_ | refine s_loadH ?_ | refine s_loadR ?_ | refine s_indexArrT ?_ | refine s_indexArrB ?_ | refine s_convI ?_ | refine s_subI ?_ | refine s_rem ?_ | refine s_addI ?_ | refine s_build ?_ | refine s_len ?_ | refine s_lenR ?_ | refine s_index ?_ | refine s_indexR ?_ | refine s_eqlB ?_ | refine a7 ?_ | refine a8 ?_ | refine a9 ?_ | refine RW.storeR rfl rfl rfl rfl (by first | rfl | (simp [allOne, cellsL, one1]; done) | (simp [allOne, cellsL, one1]; first | assumption | (refine ⟨?_, ?_⟩ <;> assumption))) rfl ?_ | refine a10 ?_ | refine RW.storeR1 rfl rfl (by first | rfl | exact IsSl.one1 (by assumption) | exact IsSl.one1 (SliceRep.isSl (by assumption))) rfl rfl ?_)
  rw [decide_eq_false (show ¬ ((N : Int) ≠ (N : Int)) from fun h => h rfl)]
  repeat (first | refine a1 ?_ | refine a3 ?_ | refine a4 ?_ | refine a5 ?_ | refine a6 ?_ | refine s_loadBs ?_ | refine s_loadHs ?_ | refine s_fieldB ?_ | refine s_fieldV ?_ | refine s_loadB ?_ | refine s_loadH ?_ | refine s_loadR ?_ | refine s_indexArrT ?_ | refine s_indexArrB ?_ | refine s_convI ?_ | refine s_subI ?_ | refine s_rem ?_ | refine s_addI ?_ | refine s_build ?_ | refine s_len ?_ | refine s_lenR ?_ | refine s_index ?_ | refine s_indexR ?_ | refine s_eqlB ?_ | refine a7 ?_ | refine a8 ?_ | refine a9 ?_ | refine RW.storeR rfl rfl rfl rfl (by first | rfl | (simp [allOne, cellsL, one1]; done) | (simp [allOne, cellsL, one1]; first | assumption | (refine ⟨?_, ?_⟩ <;> assumption))) rfl ?_ | refine a10 ?_ | refine RW.storeR1 rfl rfl (by first | rfl | exact IsSl.one1 (by assumption) | exact IsSl.one1 (SliceRep.isSl (by assumption))) rfl rfl ?_)
  rw [decide_eq_false (show ¬ ((N : Int) ≠ (N : Int)) from fun h => h rfl)]
  repeat (first | refine a1 ?_ | refine a3 ?_ | refine a4 ?_ | refine a5 ?_ | refine a6 ?_ | refine s_loadBs ?_ | refine s_loadHs ?_ | refine s_fieldB ?_ | refine s_fieldV ?_ | refine s_loadB ?_ | refine s_loadH ?_ | refine s_loadR ?_ | refine s_indexArrT ?_ | refine s_indexArrB ?_ | refine s_convI ?_ | refine s_subI ?_ | refine s_rem ?_ | refine s_addI ?_ | refine s_build ?_ | refine s_len ?_ | refine s_lenR ?_ | refine s_index ?_ | refine s_indexR ?_ | refine s_eqlB ?_ | refine a7 ?_ | refine a8 ?_ | refine a9 ?_ | refine RW.storeR rfl rfl rfl rfl (by first | rfl | (simp [allOne, cellsL, one1]; done) | (simp [allOne, cellsL, one1]; first | assumption | (refine ⟨?_, ?_⟩ <;> assumption))) rfl ?_ | refine a10 ?_ | refine RW.storeR1 rfl rfl (by first | rfl | exact IsSl.one1 (by assumption) | exact IsSl.one1 (SliceRep.isSl (by assumption))) rfl rfl ?_)
  refine Runs.loop (fun (s : Nat × Bool) => s.1 ≤ N ∧ (s.2 = true ↔ ∀ j, j < s.1 → tv b (j : Int) = tv a (j : Int))) (fun s => N - s.1) (fun _ => [Hb, H]) (fun _ => [.blk b8 34 [.int .i64 (f : Int), .int .i64 ((f + 1 + r : Nat) : Int), .int .i64 0, .int .i64 cc], .blk b6 31 [.int .i64 (N : Int), vg]])
    (fun s => [(5, .bool true), (6, .pointer (some ⟨b6, 0, none⟩)), (8, .pointer (some ⟨b8, 0, none⟩)), (10, va), (12, vb), (14, .bool s.2), (15, .int .i64 (s.1 : Int))]) (0, true) ⟨Nat.zero_le _, by simp⟩ (fun h => by
      refine Runs.weak (h) (by repeat (first | exact trivial | refine And.intro rfl ?_)) (fun x hx => List.mem_cons_of_mem _ (SubH.h x hx)) (by repeat (first | exact List.nil_sublist _ | exact List.Sublist.refl _ | refine List.Sublist.cons_cons _ ?_ | refine List.Sublist.cons _ ?_))) ?_
  rintro ⟨k, s⟩ ⟨hk, hI⟩ ih
  dsimp only at hk hI ⊢
  repeat (first | refine a1 ?_ | refine a3 ?_ | refine a4 ?_ | refine a5 ?_ | refine a6 ?_ | refine s_loadBs ?_ | refine s_loadHs ?_ | refine s_fieldB ?_ | refine s_fieldV ?_ | refine s_loadB ?_ | refine s_loadH ?_ | refine s_loadR ?_ | refine s_indexArrT ?_ | refine s_indexArrB ?_ | refine s_convI ?_ | refine s_subI ?_ | refine s_rem ?_ | refine s_addI ?_ | refine s_build ?_ | refine s_len ?_ | refine s_lenR ?_ | refine s_index ?_ | refine s_indexR ?_ | refine s_eqlB ?_ | refine a7 ?_ | refine a8 ?_ | refine a9 ?_ | refine RW.storeR rfl rfl rfl rfl (by first | rfl | (simp [allOne, cellsL, one1]; done) | (simp [allOne, cellsL, one1]; first | assumption | (refine ⟨?_, ?_⟩ <;> assumption))) rfl ?_ | refine a10 ?_ | refine RW.storeR1 rfl rfl (by first | rfl | exact IsSl.one1 (by assumption) | exact IsSl.one1 (SliceRep.isSl (by assumption))) rfl rfl ?_)
  refine Runs.cond_d rfl (fun hlt => ?_) (fun hlt => ?_)
  · have hkN : k < N := by omega
    obtain ⟨hak, hbk⟩ := hab k hkN
    have ca : Hb.cell (vat va (k * 1)) = some (.int .i64 (tv a (k : Int))) := hva2.flat1 (tv_at (by omega)) rfl
    have cb : Hb.cell (vat vb (k * 1)) = some (.int .i64 (tv b (k : Int))) := hvb.flat1 (tv_at (by omega)) rfl
    have hnx : ∀ t : Bool, (t = true ↔ s = true ∧ tv a (k : Int) = tv b (k : Int)) → (t = true ↔ ∀ j, j < k + 1 → tv b (j : Int) = tv a (j : Int)) := fun t ht => by
      rw [ht, hI]
      constructor
      · rintro ⟨h1, h2⟩ j hj
        by_cases e : j = k
        · rw [e, h2]
        · exact h1 j (by omega)
      · intro h
        exact ⟨fun j hj => h j (by omega), (h k (by omega)).symm⟩
    unfold leI at hbk
    repeat (first | refine a1 ?_ | refine a3 ?_ | refine a4 ?_ | refine a5 ?_ | refine a6 ?_ | refine s_loadBs ?_ | refine s_loadHs ?_ | refine s_fieldB ?_ | refine s_fieldV ?_ | refine s_loadB ?_ | refine s_loadH ?_ | refine s_loadR ?_ | refine s_indexArrT ?_ | refine s_indexArrB ?_ | refine s_convI ?_ | refine s_subI ?_ | refine s_rem ?_ | refine s_addI ?_ | refine s_build ?_ | refine s_len ?_ | refine s_lenR ?_ | refine s_index ?_ | refine s_indexR ?_ | refine s_eqlB ?_ | refine a7 ?_ | refine a8 ?_ | refine a9 ?_ | refine RW.storeR rfl rfl rfl rfl (by first | rfl | (simp [allOne, cellsL, one1]; done) | (simp [allOne, cellsL, one1]; first | assumption | (refine ⟨?_, ?_⟩ <;> assumption))) rfl ?_ | refine a10 ?_ | refine RW.storeR1 rfl rfl (by first | rfl | exact IsSl.one1 (by assumption) | exact IsSl.one1 (SliceRep.isSl (by assumption))) rfl rfl ?_)
    refine Runs.joinF (α := Unit) (fun _ => True) (fun _ => [Hb, H]) (fun _ => [.blk b8 34 [.int .i64 (f : Int), .int .i64 ((f + 1 + r : Nat) : Int), .int .i64 0, .int .i64 cc], .blk b6 31 [.int .i64 (N : Int), vg]]) (fun _ => [(5, .bool true), (6, .pointer (some ⟨b6, 0, none⟩)), (8, .pointer (some ⟨b8, 0, none⟩)), (10, va), (12, vb), (14, .bool s), (15, .int .i64 (k : Int)), (120, .bool false)]) (fun hj => ?_) ?_
    · refine Runs.regionD _ _ [] (fun x hx => List.mem_cons_of_mem _ hx) (List.Sublist.refl _) (by kernel_rfl) ?_
      refine d1 0 2 ?_
      (first | refine t_index 2 ?_ | refine t_indexR 2 ?_)
      (first | refine t_loadB 3 ?_ | refine t_loadH 3 ?_ | refine t_loadR 3 ?_)
      refine d1 4 2 ?_
      refine DW.dec 103 rfl (fun hp => ?_) (fun hp => ?_)
      · refine d1 6 2 ?_
        (first | refine t_index 8 ?_ | refine t_indexR 8 ?_)
        (first | refine t_loadB 9 ?_ | refine t_loadH 9 ?_ | refine t_loadR 9 ?_)
        refine d1 10 2 ?_
        rw [decide_eq_false (show ¬ tv b (k : Int) < 0 by omega)]
        refine d1 12 2 ?_
        (first | refine t_index 14 ?_ | refine t_indexR 14 ?_)
        (first | refine t_loadB 15 ?_ | refine t_loadH 15 ?_ | refine t_loadR 15 ?_)
        refine d1 16 2 ?_
        (first | refine t_index 18 ?_ | refine t_indexR 18 ?_)
        (first | refine t_loadB 19 ?_ | refine t_loadH 19 ?_ | refine t_loadR 19 ?_)
        refine d2 20 ?_
        rw [decide_eq_false (show ¬ tv a (k : Int) < tv b (k : Int) by omega)]
        refine d1 21 2 ?_
        refine DW.done (by kernel_rfl) ?_
        refine Runs.weak (hj () trivial) (by repeat (first | exact trivial | refine And.intro rfl ?_)) (fun x hx => List.mem_cons_of_mem _ (SubH.h x hx)) (by repeat (first | exact List.nil_sublist _ | exact List.Sublist.refl _ | refine List.Sublist.cons_cons _ ?_ | refine List.Sublist.cons _ ?_))
      · refine d3 6 ?_
        refine d3 7 ?_
        refine d3 8 ?_
        refine d3 9 ?_
        refine d3 10 ?_
        refine d3 11 ?_
        refine d3 12 ?_
        refine d3 13 ?_
        refine d3 14 ?_
        refine d3 15 ?_
        refine d3 16 ?_
        refine d3 17 ?_
        refine d3 18 ?_
        refine d3 19 ?_
        refine d3 20 ?_
        refine d3 21 ?_
        refine d2 22 ?_
        refine DW.done (by kernel_rfl) ?_
        refine Runs.weak (hj () trivial) (by repeat (first | exact trivial | refine And.intro rfl ?_)) (fun x hx => List.mem_cons_of_mem _ (SubH.h x hx)) (by repeat (first | exact List.nil_sublist _ | exact List.Sublist.refl _ | refine List.Sublist.cons_cons _ ?_ | refine List.Sublist.cons _ ?_))
    · rintro _ _
      repeat (first | refine a1 ?_ | refine a3 ?_ | refine a4 ?_ | refine a5 ?_ | refine a6 ?_ | refine s_loadBs ?_ | refine s_loadHs ?_ | refine s_fieldB ?_ | refine s_fieldV ?_ | refine s_loadB ?_ | refine s_loadH ?_ | refine s_loadR ?_ | refine s_indexArrT ?_ | refine s_indexArrB ?_ | refine s_convI ?_ | refine s_subI ?_ | refine s_rem ?_ | refine s_addI ?_ | refine s_build ?_ | refine s_len ?_ | refine s_lenR ?_ | refine s_index ?_ | refine s_indexR ?_ | refine s_eqlB ?_ | refine a7 ?_ | refine a8 ?_ | refine a9 ?_ | refine RW.storeR rfl rfl rfl rfl (by first | rfl | (simp [allOne, cellsL, one1]; done) | (simp [allOne, cellsL, one1]; first | assumption | (refine ⟨?_, ?_⟩ <;> assumption))) rfl ?_ | refine a10 ?_ | refine RW.storeR1 rfl rfl (by first | rfl | exact IsSl.one1 (by assumption) | exact IsSl.one1 (SliceRep.isSl (by assumption))) rfl rfl ?_)
      cases s with
      | true =>
        refine Runs.regionD _ _ [] (fun x hx => List.mem_cons_of_mem _ hx) (List.Sublist.refl _) (by kernel_rfl) ?_
        refine d1 0 2 ?_
        refine d1 2 2 ?_
        (first | refine t_index 4 ?_ | refine t_indexR 4 ?_)
        (first | refine t_loadB 5 ?_ | refine t_loadH 5 ?_ | refine t_loadR 5 ?_)
        refine d1 6 2 ?_
        (first | refine t_index 8 ?_ | refine t_indexR 8 ?_)
        (first | refine t_loadB 9 ?_ | refine t_loadH 9 ?_ | refine t_loadR 9 ?_)
        refine d1 10 3 ?_
        refine DW.done (by kernel_rfl) ?_
        repeat (first | refine a1 ?_ | refine a3 ?_ | refine a4 ?_ | refine a5 ?_ | refine a6 ?_ | refine s_loadBs ?_ | refine s_loadHs ?_ | refine s_fieldB ?_ | refine s_fieldV ?_ | refine s_loadB ?_ | refine s_loadH ?_ | refine s_loadR ?_ | refine s_indexArrT ?_ | refine s_indexArrB ?_ | refine s_convI ?_ | refine s_subI ?_ | refine s_rem ?_ | refine s_addI ?_ | refine s_build ?_ | refine s_len ?_ | refine s_lenR ?_ | refine s_index ?_ | refine s_indexR ?_ | refine s_eqlB ?_ | refine a7 ?_ | refine a8 ?_ | refine a9 ?_ | refine RW.storeR rfl rfl rfl rfl (by first | rfl | (simp [allOne, cellsL, one1]; done) | (simp [allOne, cellsL, one1]; first | assumption | (refine ⟨?_, ?_⟩ <;> assumption))) rfl ?_ | refine a10 ?_ | refine RW.storeR1 rfl rfl (by first | rfl | exact IsSl.one1 (by assumption) | exact IsSl.one1 (SliceRep.isSl (by assumption))) rfl rfl ?_)
        refine Runs.weak (ih (k + 1, decide (tv a (k : Int) = tv b (k : Int))) ⟨by dsimp only; omega, hnx _ (by simp)⟩ (by dsimp only; omega)) (by repeat (first | exact trivial | refine And.intro rfl ?_)) (fun x hx => List.mem_cons_of_mem _ (SubH.h x hx)) (by repeat (first | exact List.nil_sublist _ | exact List.Sublist.refl _ | refine List.Sublist.cons_cons _ ?_ | refine List.Sublist.cons _ ?_))
      | false =>
        refine Runs.regionD _ _ [] (fun x hx => List.mem_cons_of_mem _ hx) (List.Sublist.refl _) (by kernel_rfl) ?_
        refine d1 0 2 ?_
        refine d3 2 ?_
        refine d3 3 ?_
        refine d3 4 ?_
        refine d3 5 ?_
        refine d3 6 ?_
        refine d3 7 ?_
        refine d3 8 ?_
        refine d3 9 ?_
        refine d3 10 ?_
        refine d1 11 2 ?_
        refine DW.done (by kernel_rfl) ?_
        repeat (first | refine a1 ?_ | refine a3 ?_ | refine a4 ?_ | refine a5 ?_ | refine a6 ?_ | refine s_loadBs ?_ | refine s_loadHs ?_ | refine s_fieldB ?_ | refine s_fieldV ?_ | refine s_loadB ?_ | refine s_loadH ?_ | refine s_loadR ?_ | refine s_indexArrT ?_ | refine s_indexArrB ?_ | refine s_convI ?_ | refine s_subI ?_ | refine s_rem ?_ | refine s_addI ?_ | refine s_build ?_ | refine s_len ?_ | refine s_lenR ?_ | refine s_index ?_ | refine s_indexR ?_ | refine s_eqlB ?_ | refine a7 ?_ | refine a8 ?_ | refine a9 ?_ | refine RW.storeR rfl rfl rfl rfl (by first | rfl | (simp [allOne, cellsL, one1]; done) | (simp [allOne, cellsL, one1]; first | assumption | (refine ⟨?_, ?_⟩ <;> assumption))) rfl ?_ | refine a10 ?_ | refine RW.storeR1 rfl rfl (by first | rfl | exact IsSl.one1 (by assumption) | exact IsSl.one1 (SliceRep.isSl (by assumption))) rfl rfl ?_)
        refine Runs.weak (ih (k + 1, false) ⟨by dsimp only; omega, hnx _ (by simp)⟩ (by dsimp only; omega)) (by repeat (first | exact trivial | refine And.intro rfl ?_)) (fun x hx => List.mem_cons_of_mem _ (SubH.h x hx)) (by repeat (first | exact List.nil_sublist _ | exact List.Sublist.refl _ | refine List.Sublist.cons_cons _ ?_ | refine List.Sublist.cons _ ?_))
  · have hkl : k = N := by omega
    subst hkl
    have ct : Hb.cell (vat va ((f + 1 + r) * 1)) = some (.int .i64 (tv a ((f + 1 + r : Nat) : Int))) := hva2.flat1 (tv_at (by omega)) rfl
    have cf : Hb.cell (vat va (f * 1)) = some (.int .i64 (tv a (f : Int))) := hva2.flat1 (tv_at (by omega)) rfl
    rw [← hiff] at hI
    have hat := (hab (f + 1 + r) (by omega)).1
    have haf := (hab f (by omega)).1
    repeat (first | refine a1 ?_ | refine a3 ?_ | refine a4 ?_ | refine a5 ?_ | refine a6 ?_ | refine s_loadBs ?_ | refine s_loadHs ?_ | refine s_fieldB ?_ | refine s_fieldV ?_ | refine s_loadB ?_ | refine s_loadH ?_ | refine s_loadR ?_ | refine s_indexArrT ?_ | refine s_indexArrB ?_ | refine s_convI ?_ | refine s_subI ?_ | refine s_rem ?_ | refine s_addI ?_ | refine s_build ?_ | refine s_len ?_ | refine s_lenR ?_ | refine s_index ?_ | refine s_indexR ?_ | refine s_eqlB ?_ | refine a7 ?_ | refine a8 ?_ | refine a9 ?_ | refine RW.storeR rfl rfl rfl rfl (by first | rfl | (simp [allOne, cellsL, one1]; done) | (simp [allOne, cellsL, one1]; first | assumption | (refine ⟨?_, ?_⟩ <;> assumption))) rfl ?_ | refine a10 ?_ | refine RW.storeR1 rfl rfl (by first | rfl | exact IsSl.one1 (by assumption) | exact IsSl.one1 (SliceRep.isSl (by assumption))) rfl rfl ?_)
    refine Runs.joinF (α := Bool) (fun u => u = s) (fun _ => [Hb, H]) (fun _ => []) (fun u => [(5, .bool true), (14, .bool s), (16, .bool u)]) (fun hj => ?_) ?_
    · refine Runs.regionD _ _ [] (fun x hx => List.mem_cons_of_mem _ hx) (List.Sublist.refl _) (by kernel_rfl) ?_
      refine d2 0 ?_
      (first | refine t_fieldB 1 ?_ | refine t_fieldV 1 ?_)
      (first | refine t_loadB 2 ?_ | refine t_loadH 2 ?_ | refine t_loadR 2 ?_)
      (first | refine t_index 3 ?_ | refine t_indexR 3 ?_)
      (first | refine t_loadB 4 ?_ | refine t_loadH 4 ?_ | refine t_loadR 4 ?_)
      refine d1 5 2 ?_
      refine DW.dec 139 rfl (fun hu => ?_) (fun hu => ?_)
      · refine d3 7 ?_
        refine d3 8 ?_
        refine d3 9 ?_
        refine d3 10 ?_
        refine d3 11 ?_
        refine d3 12 ?_
        refine d3 13 ?_
        refine d3 14 ?_
        refine d3 15 ?_
        refine d3 16 ?_
        refine d3 17 ?_
        refine d3 18 ?_
        refine d3 19 ?_
        refine d3 20 ?_
        refine d3 21 ?_
        refine d3 22 ?_
        refine d3 23 ?_
        refine d3 24 ?_
        refine d3 25 ?_
        refine d3 26 ?_
        refine d3 27 ?_
        refine d3 28 ?_
        refine d1 29 2 ?_
        refine DW.done (by kernel_rfl) ?_
        have hs : s = true := hI.2 (.inl hu)
        refine Runs.weak (hj true hs.symm) (by repeat (first | exact trivial | refine And.intro rfl ?_)) (fun x hx => List.mem_cons_of_mem _ (SubH.h x hx)) (by repeat (first | exact List.nil_sublist _ | exact List.Sublist.refl _ | refine List.Sublist.cons_cons _ ?_ | refine List.Sublist.cons _ ?_))
      · refine d2 7 ?_
        (first | refine t_fieldB 8 ?_ | refine t_fieldV 8 ?_)
        (first | refine t_loadB 9 ?_ | refine t_loadH 9 ?_ | refine t_loadR 9 ?_)
        (first | refine t_index 10 ?_ | refine t_indexR 10 ?_)
        (first | refine t_loadB 11 ?_ | refine t_loadH 11 ?_ | refine t_loadR 11 ?_)
        refine d1 12 2 ?_
        refine DW.dec 146 rfl (fun hv => ?_) (fun hv => ?_)
        · refine d2 14 ?_
          (first | refine t_fieldB 15 ?_ | refine t_fieldV 15 ?_)
          (first | refine t_loadB 16 ?_ | refine t_loadH 16 ?_ | refine t_loadR 16 ?_)
          (first | refine t_index 17 ?_ | refine t_indexR 17 ?_)
          (first | refine t_loadB 18 ?_ | refine t_loadH 18 ?_ | refine t_loadR 18 ?_)
          refine d2 19 ?_
          (first | refine t_fieldB 20 ?_ | refine t_fieldV 20 ?_)
          (first | refine t_loadB 21 ?_ | refine t_loadH 21 ?_ | refine t_loadR 21 ?_)
          (first | refine t_index 22 ?_ | refine t_indexR 22 ?_)
          (first | refine t_loadB 23 ?_ | refine t_loadH 23 ?_ | refine t_loadR 23 ?_)
          (first | refine t_fieldB 24 ?_ | refine t_fieldV 24 ?_)
          (first | refine t_loadB 25 ?_ | refine t_loadH 25 ?_ | refine t_loadR 25 ?_)
          refine t_addI 26 ?_
          refine d2 27 ?_
          refine d1 28 3 ?_
          refine DW.done (by kernel_rfl) ?_
          have hs : decide (tv a (f : Int) ≤ tv a ((f + 1 + r : Nat) : Int) + cc) = s := by
            rw [Bool.eq_iff_iff, decide_eq_true_eq, hI]
            constructor
            · intro h; exact .inr ⟨hv, h⟩
            · rintro (h | h)
              · omega
              · exact h.2
          refine Runs.weak (hj _ hs) (by repeat (first | exact trivial | refine And.intro rfl ?_)) (fun x hx => List.mem_cons_of_mem _ (SubH.h x hx)) (by repeat (first | exact List.nil_sublist _ | exact List.Sublist.refl _ | refine List.Sublist.cons_cons _ ?_ | refine List.Sublist.cons _ ?_))
        · refine d3 14 ?_
          refine d3 15 ?_
          refine d3 16 ?_
          refine d3 17 ?_
          refine d3 18 ?_
          refine d3 19 ?_
          refine d3 20 ?_
          refine d3 21 ?_
          refine d3 22 ?_
          refine d3 23 ?_
          refine d3 24 ?_
          refine d3 25 ?_
          refine d3 26 ?_
          refine d3 27 ?_
          refine d1 28 3 ?_
          refine DW.done (by kernel_rfl) ?_
          have hs : false = s := by
            cases s with
            | false => rfl
            | true =>
              rcases hI.1 rfl with h | h
              · omega
              · omega
          refine Runs.weak (hj false hs) (by repeat (first | exact trivial | refine And.intro rfl ?_)) (fun x hx => List.mem_cons_of_mem _ (SubH.h x hx)) (by repeat (first | exact List.nil_sublist _ | exact List.Sublist.refl _ | refine List.Sublist.cons_cons _ ?_ | refine List.Sublist.cons _ ?_))
    · rintro u rfl
      repeat (first | refine a1 ?_ | refine a3 ?_ | refine a4 ?_ | refine a5 ?_ | refine a6 ?_ | refine s_loadBs ?_ | refine s_loadHs ?_ | refine s_fieldB ?_ | refine s_fieldV ?_ | refine s_loadB ?_ | refine s_loadH ?_ | refine s_loadR ?_ | refine s_indexArrT ?_ | refine s_indexArrB ?_ | refine s_convI ?_ | refine s_subI ?_ | refine s_rem ?_ | refine s_addI ?_ | refine s_build ?_ | refine s_len ?_ | refine s_lenR ?_ | refine s_index ?_ | refine s_indexR ?_ | refine s_eqlB ?_ | refine a7 ?_ | refine a8 ?_ | refine a9 ?_ | refine RW.storeR rfl rfl rfl rfl (by first | rfl | (simp [allOne, cellsL, one1]; done) | (simp [allOne, cellsL, one1]; first | assumption | (refine ⟨?_, ?_⟩ <;> assumption))) rfl ?_ | refine a10 ?_ | refine RW.storeR1 rfl rfl (by first | rfl | exact IsSl.one1 (by assumption) | exact IsSl.one1 (SliceRep.isSl (by assumption))) rfl rfl ?_)
      rw [beq_self_eq_true]
      repeat (first | refine a1 ?_ | refine a3 ?_ | refine a4 ?_ | refine a5 ?_ | refine a6 ?_ | refine s_loadBs ?_ | refine s_loadHs ?_ | refine s_fieldB ?_ | refine s_fieldV ?_ | refine s_loadB ?_ | refine s_loadH ?_ | refine s_loadR ?_ | refine s_indexArrT ?_ | refine s_indexArrB ?_ | refine s_convI ?_ | refine s_subI ?_ | refine s_rem ?_ | refine s_addI ?_ | refine s_build ?_ | refine s_len ?_ | refine s_lenR ?_ | refine s_index ?_ | refine s_indexR ?_ | refine s_eqlB ?_ | refine a7 ?_ | refine a8 ?_ | refine a9 ?_ | refine RW.storeR rfl rfl rfl rfl (by first | rfl | (simp [allOne, cellsL, one1]; done) | (simp [allOne, cellsL, one1]; first | assumption | (refine ⟨?_, ?_⟩ <;> assumption))) rfl ?_ | refine a10 ?_ | refine RW.storeR1 rfl rfl (by first | rfl | exact IsSl.one1 (by assumption) | exact IsSl.one1 (SliceRep.isSl (by assumption))) rfl rfl ?_)
      refine Runs.ret1 Try.func7 Try.results7 rfl (fun w hm => hR _ w _ Hb _ (by simp) (((hleg.trans hle1).trans hlea).trans hleb) ?_ hm)
      rfl
end Go.Proofs.Ythlolpckgffebaa

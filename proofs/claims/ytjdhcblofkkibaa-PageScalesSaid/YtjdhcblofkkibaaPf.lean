/-
  Contracts of what calls functions that it is handed: others, ContainsFunc, leads. Conditions: the graph is valid; the functions handed do as they are said to do.
-/
import Derived.Test.YtjdhcblofkkibaaPe
namespace Go.Proofs.Ytjdhcblofkkibaa
open Go Go.RowKit

theorem Ctr.frameP {P : Program} {f : FuncId} {args : Array Value} {H : Snap} {O O' X : List Own} {post : Snap → List Own → Value → Prop} {post' : Snap → List Own → Value → Prop} (hc : Ctr P f args H O post) (hp : O'.Perm (O ++ X))
    (h : ∀ H' O2 v, post H' O2 v → ∃ O3, (O2 ++ X).Perm O3 ∧ post' H' O3 v) : Ctr P f args H O' post' := by
  intro w hm
  have hm2 := hm.perm hp
  have hst : Mem ⟨w, feet O, H⟩ w [H] O := Mem.start rfl (hm.agr H (List.mem_cons_self ..)) (fun o ho => hm2.own o (List.mem_append_left _ ho)) ((List.pairwise_append.1 hm2.dis).1)
    (fun x hx => hm2.apart H (List.mem_cons_self ..) x (List.mem_append_left _ hx))
  refine (hc w hst).mono ?_
  rintro e w' ⟨v, H', O2, rfl, h1, h2, h3⟩
  obtain ⟨O3, h4, h5⟩ := h H' O2 v h1
  have h6 := hm2.call (List.mem_cons_self ..) h3
  exact ⟨v, H', O3, rfl, h5, h2, (h6.perm h4).sub (fun x hx => by simp at hx; subst hx; simp) (List.Sublist.refl _)⟩

/-- What others makes for the visit. -/
def visO (b2 b3 b5 bc : Nat) (yf : FuncId) (ycap : List Value) : List Own :=
  [.blk b5 95 [.func (.func 49) #[] #[.pointer (some ⟨b2, 0, none⟩), .pointer (some ⟨b5, 0, none⟩), .pointer (some ⟨b3, 0, none⟩)]], .blk b3 88 [.func (.func yf) #[] ycap.toArray], .blk b2 79 [.pointer (some ⟨bc, 0, none⟩)]]
set_option maxHeartbeats 1000000 in
theorem others_c {σ : Type} {H : Snap} {F : List Own} {Y : σ → List Own} {step : σ → Int × List Int → Bool × σ} {yf : FuncId} {ycap : List Value} [ty : TCall Try.prog yf]
    {N : Nat} {gl : List Lnk} {h : List Int} {vl vh vo : Value} {bc : Nat} {vk vb : Value} {ls : List Int} {ks : List AT} {wh : Bool} {B : Nat} (K : AT) (hK : K = .mk bc 84 [.int .i64 (N : Int), vl, vh, vo] vk vb ls ks wh)
    (hg : validG N gl) (hl : SliceRep H LinkL vl gl) (hh : SliceRep H I64 vh h) (hvo : SliceRep H (SlL I64) vo (outsOf N gl)) (hhl : h.length = N) (hhb : ∀ j : Int, 0 ≤ j → j < N → -1 ≤ tv h j ∧ tv h j ≤ 2000000000)
    (hk : AT.ok B K) (hF : ∀ o ∈ AT.own K, o ∈ F) (hYf : ∀ s s', feet (Y s) = feet (Y s'))
    (hy : ∀ (H' : Snap) (s : σ) (c : Int) (v : Value) (b : List Int), H.le H' → SliceRep H' I64 v b → 0 ≤ c ∧ c ≤ 9000000000 → Ctr Try.prog yf ([Value.int .i64 c, v] ++ ycap).toArray H' (Y s ++ F) (fun _ O' r => O' = Y (step s (c, b)).2 ++ F ∧ r = .bool (step s (c, b)).1))
    (s : σ) : Ctr Try.prog 39 #[.pointer (some ⟨bc, 0, none⟩), .func (.func yf) #[] ycap.toArray] H (Y s ++ F)
        (fun _ O' r => O' = Y (runY step (visitL gl h N K.has K.isWh N [] 0 0) s).2 ++ F ∧ r = .bool (runY step (visitL gl h N K.has K.isWh N [] 0 0) s).1) := by
  subst hK
  refine Ctr.intro Try.func39 rfl Try.ntmps39 rfl (fun E R hM hR => ?_)
  repeat (first | refine a1 ?_ | refine a3 ?_ | refine a4 ?_ | refine a5 ?_ | refine a6 ?_ | refine s_makeFunc ?_ | refine s_loadB ?_ | refine s_loadH ?_ | refine s_loadR ?_ | refine s_fieldB ?_ | refine s_fieldV ?_ | refine a7 ?_ | refine a8 ?_ | refine a9 ?_ | refine RW.storeR rfl rfl rfl rfl (by first | rfl | (simp [allOne, cellsL, one1]; done) | (simp [allOne, cellsL, one1]; first | assumption | (refine ⟨?_, ?_⟩ <;> assumption))) rfl ?_ | refine a10 ?_ | refine RW.storeR1 rfl rfl (by first | rfl | exact IsSl.one1 (by assumption) | exact IsSl.one1 (SliceRep.isSl (by assumption))) rfl rfl ?_)
  refine RW.box rfl rfl rfl rfl (fun b2 => ?_)
  refine RW.box rfl rfl rfl rfl (fun b3 => ?_)
  repeat (first | refine a1 ?_ | refine a3 ?_ | refine a4 ?_ | refine a5 ?_ | refine a6 ?_ | refine s_makeFunc ?_ | refine s_loadB ?_ | refine s_loadH ?_ | refine s_loadR ?_ | refine s_fieldB ?_ | refine s_fieldV ?_ | refine a7 ?_ | refine a8 ?_ | refine a9 ?_ | refine RW.storeR rfl rfl rfl rfl (by first | rfl | (simp [allOne, cellsL, one1]; done) | (simp [allOne, cellsL, one1]; first | assumption | (refine ⟨?_, ?_⟩ <;> assumption))) rfl ?_ | refine a10 ?_ | refine RW.storeR1 rfl rfl (by first | rfl | exact IsSl.one1 (by assumption) | exact IsSl.one1 (SliceRep.isSl (by assumption))) rfl rfl ?_)
  refine RW.alloc rfl rfl rfl (fun b5 => ?_)
  repeat (first | refine a1 ?_ | refine a3 ?_ | refine a4 ?_ | refine a5 ?_ | refine a6 ?_ | refine s_makeFunc ?_ | refine s_loadB ?_ | refine s_loadH ?_ | refine s_loadR ?_ | refine s_fieldB ?_ | refine s_fieldV ?_ | refine a7 ?_ | refine a8 ?_ | refine a9 ?_ | refine RW.storeR rfl rfl rfl rfl (by first | rfl | (simp [allOne, cellsL, one1]; done) | (simp [allOne, cellsL, one1]; first | assumption | (refine ⟨?_, ?_⟩ <;> assumption))) rfl ?_ | refine a10 ?_ | refine RW.storeR1 rfl rfl (by first | rfl | exact IsSl.one1 (by assumption) | exact IsSl.one1 (SliceRep.isSl (by assumption))) rfl rfl ?_)
  refine Runs.perm (O' := (visO b2 b3 b5 bc yf ycap ++ F) ++ Y s) (List.Perm.cons _ (List.Perm.cons _ (List.Perm.cons _ List.perm_append_comm))) ?_
  have hpm : ∀ s, ((Y s ++ F) ++ visO b2 b3 b5 bc yf ycap).Perm ((visO b2 b3 b5 bc yf ycap ++ F) ++ Y s) := fun s => by
    refine List.perm_append_comm.trans ?_
    rw [List.append_assoc]
    exact List.Perm.append_left _ List.perm_append_comm
  have hsubX : ∀ s, (Y s ++ F).Sublist (visO b2 b3 b5 bc yf ycap ++ (Y s ++ F)) := fun s => List.sublist_append_right ..
  have m5 : Own.blk b5 95 [.func (.func 49) #[] #[.pointer (some ⟨b2, 0, none⟩), .pointer (some ⟨b5, 0, none⟩), .pointer (some ⟨b3, 0, none⟩)]] ∈ visO b2 b3 b5 bc yf ycap ++ F := by simp [visO]
  have m3 : Own.blk b3 88 [.func (.func yf) #[] ycap.toArray] ∈ visO b2 b3 b5 bc yf ycap ++ F := by simp [visO]
  have m2 : Own.blk b2 79 [.pointer (some ⟨bc, 0, none⟩)] ∈ visO b2 b3 b5 bc yf ycap ++ F := by simp [visO]
  have hFX : ∀ o ∈ F, o ∈ visO b2 b3 b5 bc yf ycap ++ F := fun o ho => List.mem_append_right _ ho
  generalize visO b2 b3 b5 bc yf ycap = Z at hpm hsubX m5 m3 m2 hFX ⊢
  have hy2 : ∀ (H' : Snap) (s : σ) (c : Int) (v : Value) (b : List Int), H.le H' → SliceRep H' I64 v b → 0 ≤ c ∧ c ≤ 9000000000 → Ctr Try.prog yf ([Value.int .i64 c, v] ++ ycap).toArray H' ((Z ++ F) ++ Y s) (fun _ O' r => O' = (Z ++ F) ++ Y (step s (c, b)).2 ∧ r = .bool (step s (c, b)).1) := by
    intro H' s c v b h1 h2 h3
    refine Ctr.frameP (hy H' s c v b h1 h2 h3) (hpm s).symm ?_
    rintro H2 _ r ⟨rfl, rfl⟩
    exact ⟨_, hpm _, rfl, rfl⟩
  have g5 : GetBlk (Z ++ F) b5 _ _ := ⟨m5⟩
  have g2 : GetBlk (Z ++ F) b2 _ _ := ⟨m2⟩
  have hv := visit_c (F := Z ++ F) (Y := Y) (step := step) (yf := yf) (ycap := ycap) hg hl hh hvo hhl hhb hk (fun o ho => hFX o (hF o ho)) m2 m5 m3 hYf hy2 N [] (.mk bc 84 [.int .i64 (N : Int), vl, vh, vo] vk vb ls ks wh) 0 0 (.slice none 0 0) H s (Snap.le.refl H) SliceRep.nil rfl (by omega) (by have := hg.1; omega) (Int.le_refl _) (by omega) (by simp)
  refine Runs.regionD _ (Z ++ F) [] (fun x hx => List.mem_cons_of_mem _ hx) (List.sublist_append_left ..) (by kernel_rfl) ?_
  (first | refine t_loadB 0 ?_ | refine t_loadH 0 ?_ | refine t_loadR 0 ?_)
  (first | refine t_loadB 1 ?_ | refine t_loadH 1 ?_ | refine t_loadR 1 ?_)
  refine d2 2 ?_
  (first | refine t_fieldB 3 ?_ | refine t_fieldV 3 ?_)
  refine DW.callM 4 (F := []) rfl (by kernel_rfl) rfl rfl hv (by rw [List.append_nil]) rfl rfl ?_ ?_
  · rintro _ H' _ ⟨rfl, rfl⟩ w hm
    rw [List.append_nil] at hm
    exact hm.sub (fun x hx => List.mem_cons_of_mem _ (List.mem_cons_of_mem _ hx)) (List.sublist_append_left ..)
  rintro _ H4 _ ⟨rfl, rfl⟩ hle4
  refine d2 5 ?_
  refine DW.done (by kernel_rfl) ?_
  repeat (first | refine a1 ?_ | refine a3 ?_ | refine a4 ?_ | refine a5 ?_ | refine a6 ?_ | refine s_makeFunc ?_ | refine s_loadB ?_ | refine s_loadH ?_ | refine s_loadR ?_ | refine s_fieldB ?_ | refine s_fieldV ?_ | refine a7 ?_ | refine a8 ?_ | refine a9 ?_ | refine RW.storeR rfl rfl rfl rfl (by first | rfl | (simp [allOne, cellsL, one1]; done) | (simp [allOne, cellsL, one1]; first | assumption | (refine ⟨?_, ?_⟩ <;> assumption))) rfl ?_ | refine a10 ?_ | refine RW.storeR1 rfl rfl (by first | rfl | exact IsSl.one1 (by assumption) | exact IsSl.one1 (SliceRep.isSl (by assumption))) rfl rfl ?_)
  refine Runs.ret1 Try.func39 Try.results39 rfl (fun w hm => hR _ w _ H _ (by simp) (Snap.le.refl _) ⟨rfl, rfl⟩ (by
    rw [List.append_nil] at hm
    exact (hm.perm (hpm _).symm).sub (fun x hx => List.mem_cons_of_mem _ hx) (List.sublist_append_left ..)))

theorem ifunc_c {H : Snap} {O : List Own} {vs : Value} {xs : List Int} {pf : FuncId} {pcap : List Value} {q : Int → Bool} [tp : TCall Try.prog pf] (hs : SliceRep H I64 vs xs)
    (hp : ∀ (H' : Snap) (j : Int), H.le H' → j ∈ xs → Ctr Try.prog pf ([Value.int .i64 j] ++ pcap).toArray H' O (fun _ O' r => O' = O ∧ r = .bool (q j))) :
    Ctr Try.prog 60 #[vs, .func (.func pf) #[] pcap.toArray] H O (fun _ O' r => O' = O ∧ ∃ i : Int, r = .int .i64 i ∧ (0 ≤ i ↔ xs.any q = true)) := by
  have hb := hs.isSl.bound
  refine Ctr.intro Try.func60 rfl Try.ntmps60 rfl (fun E R hM hR => ?_)
  repeat (first | refine a1 ?_ | refine a3 ?_ | refine a4 ?_ | refine a5 ?_ | refine a6 ?_ | refine s_len ?_ | refine s_lenR ?_ | refine s_index ?_ | refine s_indexR ?_ | refine s_loadB ?_ | refine s_loadH ?_ | refine s_loadR ?_ | refine s_addI ?_ | refine a7 ?_ | refine a8 ?_)
  refine Runs.loop (fun k : Nat => k ≤ xs.length ∧ ∀ j x, j < k → xs[j]? = some x → q x = false) (fun k => xs.length - k) (fun _ => [H]) (fun _ => O) (fun k => [(0, vs), (1, .func (.func pf) #[] pcap.toArray), (7, .int .i64 (xs.length : Int)), (8, .int .i64 (k : Int))]) 0 ⟨Nat.zero_le _, by simp⟩
    (fun h => Runs.back h ⟨rfl, rfl, rfl, rfl, trivial⟩) ?_
  rintro k ⟨hk, hI⟩ ih
  repeat (first | refine a1 ?_ | refine a3 ?_ | refine a4 ?_ | refine a5 ?_ | refine a6 ?_ | refine s_len ?_ | refine s_lenR ?_ | refine s_index ?_ | refine s_indexR ?_ | refine s_loadB ?_ | refine s_loadH ?_ | refine s_loadR ?_ | refine s_addI ?_ | refine a7 ?_ | refine a8 ?_)
  refine Runs.cond_d rfl (fun hlt => ?_) (fun hlt => ?_)
  · obtain ⟨x, hx⟩ : ∃ x, xs[k]? = some x := ⟨_, List.getElem?_eq_getElem (by omega)⟩
    have hxm := List.mem_of_getElem? hx
    repeat (first | refine a1 ?_ | refine a3 ?_ | refine a4 ?_ | refine a5 ?_ | refine a6 ?_ | refine s_len ?_ | refine s_lenR ?_ | refine s_index ?_ | refine s_indexR ?_ | refine s_loadB ?_ | refine s_loadH ?_ | refine s_loadR ?_ | refine s_addI ?_ | refine a7 ?_ | refine a8 ?_)
    refine RW.callL (cap := pcap) rfl rfl (hp H x (Snap.le.refl _) hxm) (List.Sublist.refl _) rfl rfl ?_
    rintro _ H2 rfl hle2
    cases e : q x with
    | true =>
      repeat (first | refine a1 ?_ | refine a3 ?_ | refine a4 ?_ | refine a5 ?_ | refine a6 ?_ | refine s_len ?_ | refine s_lenR ?_ | refine s_index ?_ | refine s_indexR ?_ | refine s_loadB ?_ | refine s_loadH ?_ | refine s_loadR ?_ | refine s_addI ?_ | refine a7 ?_ | refine a8 ?_)
      refine Runs.ret1 Try.func60 Try.results60 rfl (fun w hm => hR _ w _ H _ (by simp) ((Snap.le.refl _)) ?_ hm)
      exact ⟨rfl, k, rfl, fun _ => List.any_eq_true.2 ⟨x, hxm, e⟩, fun _ => by omega⟩
    | false =>
      repeat (first | refine a1 ?_ | refine a3 ?_ | refine a4 ?_ | refine a5 ?_ | refine a6 ?_ | refine s_len ?_ | refine s_lenR ?_ | refine s_index ?_ | refine s_indexR ?_ | refine s_loadB ?_ | refine s_loadH ?_ | refine s_loadR ?_ | refine s_addI ?_ | refine a7 ?_ | refine a8 ?_)
      refine Runs.back (ih (k + 1) ⟨by omega, fun j y hj hy => ?_⟩ (by omega)) ⟨rfl, rfl, rfl, rfl, trivial⟩
      by_cases e2 : j = k
      · subst e2; rw [hx] at hy; rw [← Option.some.inj hy]; exact e
      · exact hI j y (by omega) hy
  · repeat (first | refine a1 ?_ | refine a3 ?_ | refine a4 ?_ | refine a5 ?_ | refine a6 ?_ | refine s_len ?_ | refine s_lenR ?_ | refine s_index ?_ | refine s_indexR ?_ | refine s_loadB ?_ | refine s_loadH ?_ | refine s_loadR ?_ | refine s_addI ?_ | refine a7 ?_ | refine a8 ?_)
    refine Runs.ret1 Try.func60 Try.results60 rfl (fun w hm => hR _ w _ H _ (by simp) ((Snap.le.refl _)) ?_ hm)
    refine ⟨rfl, -1, rfl, by simp, fun h => ?_⟩
    obtain ⟨x, hx, hq⟩ := List.any_eq_true.1 h
    obtain ⟨j, hj⟩ := List.getElem?_of_mem hx
    have := hI j x (by have := (List.getElem?_eq_some_iff.1 hj).1; omega) hj
    rw [this] at hq; cases hq
theorem cfunc_c {H : Snap} {O : List Own} {vs : Value} {xs : List Int} {pf : FuncId} {pcap : List Value} {q : Int → Bool} [tp : TCall Try.prog pf] (hs : SliceRep H I64 vs xs)
    (hp : ∀ (H' : Snap) (j : Int), H.le H' → j ∈ xs → Ctr Try.prog pf ([Value.int .i64 j] ++ pcap).toArray H' O (fun _ O' r => O' = O ∧ r = .bool (q j))) :
    Ctr Try.prog 52 #[vs, .func (.func pf) #[] pcap.toArray] H O (fun _ O' r => O' = O ∧ r = .bool (xs.any q)) := by
  refine Ctr.intro Try.func52 rfl Try.ntmps52 rfl (fun E R hM hR => ?_)
  repeat (first | refine a1 ?_ | refine a3 ?_ | refine a4 ?_ | refine a5 ?_ | refine a6 ?_ | refine a7 ?_ | refine a8 ?_)
  refine RW.callL (cap := []) rfl rfl (ifunc_c hs hp) (List.Sublist.refl _) rfl rfl ?_
  rintro _ H2 ⟨i, rfl, hi⟩ hle2
  repeat (first | refine a1 ?_ | refine a3 ?_ | refine a4 ?_ | refine a5 ?_ | refine a6 ?_ | refine a7 ?_ | refine a8 ?_)
  refine Runs.ret1 Try.func52 Try.results52 rfl (fun w hm => hR _ w _ H _ (by simp) ((Snap.le.refl _)) ?_ hm)
  refine ⟨rfl, ?_⟩
  cases e : xs.any q with
  | true => rw [decide_eq_true (hi.2 e)]
  | false => rw [decide_eq_false (fun h => by rw [hi.1 h] at e; cases e)]
end Go.Proofs.Ytjdhcblofkkibaa

/-
  Contracts of the library's functions on slices of steps and documents: Clone, IndexFunc, ContainsFunc, Grow, Concat, Delete. Conditions: at most 1000 elements; the functions handed do as they are said to do.
-/
import Derived.Test.YtbiohkncdlhigaaUg
import Derived.Lib.AppendZeros
namespace Go.Proofs.Ytbiohkncdlhigaa
open Go Go.RowKit

def isNilV : Value → Bool
  | .slice none _ _ => true
  | _ => false
section
variable {P : Program} {f : FuncId} {n : Nat} {E : Ent} {R : Value → World → Prop} {k : List Item} {Hs : List Snap} {O : List Own} {l : Env}
theorem QF.eqlNil {T T' e : TypeId} {x : Operand} {v : Value} {m : Nat} (hx : opv l x = some v) (hs : IsSl v m) [t : TDesc P T (.slice e)] : QF P l (.binOp .eql T x (.const (.slice none 0 0)) T') (.bool (isNilV v)) := by
  intro o ho ρ hρ w
  obtain ⟨A, cap, rfl, _⟩ := hs
  have h1 : (ρ (.const (.slice none 0 0))) = .slice none 0 0 := hρ _ _ rfl
  have h2 : ∀ w : World, (binOp .eql T (.slice A m cap) (.slice none 0 0)).run P w = .ok (.bool A.isNone) w := fun w => by
    simp only [binOp]
    have : ∀ d, (Op.equalIn (d + 1) T (.slice A m cap) (.slice none 0 0)).run P w = .ok A.isNone w := fun d => by cases A <;> simp [Op.equalIn, run_underlying t.h]
    simp [Op.equal, Op.maxDepth, this 9999]
  cases A <;> simp [execOp, ho, hρ _ _ hx, h1, h2, isNilV, eqGuard, run_underlying t.h]
theorem QF.capN {T e : TypeId} {x : Operand} {A : Option Addr} {m c : Nat} (hx : opv l x = some (.slice A m c)) [t : TDesc P T (.slice e)] : QF P l (.call ⟨.builtin .cap, #[x], #[T]⟩) (.int .i64 (c : Int)) := by
  intro o ho ρ hρ w
  simp [execOp, ho, resolve, invoke, builtin, hρ _ _ hx, Builtin.cap_, run_underlying t.h]
  rfl
/-- n zeros are appended onto nil; the result is looked at as the empty slice of its row. -/
theorem HV.appendZeros {T Tn e : TypeId} {x y : Operand} {z : Value} {sz bytes m : Nat} [t : TDesc P T (.slice e)] [tn : TDesc P Tn (.int .i64)] [j : TInfo P e z sz bytes] (hx : opv l x = some (.slice none 0 0)) (hy : opv l y = some (.int .i64 (m : Int))) (h0 : 0 < m) (hs : 0 < sz) (hz : (cellsL z).length = sz) (hm63 : m ≤ 100000) (hb : m * bytes ≤ 281474976710656) :
    HV P E Hs O l (.call ⟨.builtin .append, #[x, y], #[T, Tn]⟩) (fun v Hs' O' => Hs' = Hs ∧ ∃ b c, v = .slice (some ⟨b, 0, none⟩) m c ∧ m ≤ c ∧ c ≤ maxLen ∧ O' = .row e sz (.slice (some ⟨b, 0, none⟩) 0 c) 0 [] :: O) := by
  refine HV.of_exec fun o' ho w hm ρ hρ => ?_
  obtain ⟨ti, g1, g2, g3, g4⟩ := j.h
  have hr := Lib.run_append_nil_zeros (P := P) w T Tn o'.type e ti z .i64 .i64 t.h tn.h g1 g2 m h0 (by omega) (by omega) (by rw [g4]; exact hb)
  have hge := grownCap_ge w m 0 e
  have hcm := grownCap_le_maxLen w m 0 e (by simp only [maxLen]; omega)
  have hzs : z.cells.size = sz := by rw [← hz, cellsL_eq]; simp
  have h1 := hm.drew.alloc (Builtin.zeroCells z.cells m ++ Builtin.zeroCells z.cells (grownCap w m 0 e - m)).toList e
  rw [Array.toArray_toList] at h1
  refine ⟨.slice (some ⟨w.heap.size, 0, none⟩) m (grownCap w m 0 e), w.drew.alloc (.cells (Builtin.zeroCells z.cells m ++ Builtin.zeroCells z.cells (grownCap w m 0 e - m)) e), Hs, _, ⟨rfl, w.heap.size, _, rfl, hge, hcm, rfl⟩, ?_, .inl ?_⟩
  · refine h1.change (x := .blk w.drew.heap.size e (Builtin.zeroCells z.cells m ++ Builtin.zeroCells z.cells (grownCap w m 0 e - m)).toList) (y := .row e sz (.slice (some ⟨w.heap.size, 0, none⟩) 0 (grownCap w m 0 e)) 0 []) rfl rfl rfl (Nat.le_refl _) (fun _ _ _ => rfl) ?_ (fun b hb => .inl ?_)
    · refine ⟨by simp, .inr ⟨_, _, _, rfl, Nat.zero_le _, heap_alloc_new w.drew _, Nat.zero_le _, hcm, ?_, by simp⟩⟩
      simp only [Array.size_append, size_zeroCells, hzs, ← Nat.add_mul]
      congr 1
      omega
    · simpa [Own.foot, Value.ownBlock] using hb
  · simp [execOp, ho, resolve, invoke, builtin, hρ _ _ hx, hρ _ _ hy, hr]
end
theorem slv0 {b m c s : Nat} (h : c ≠ 0) : slv (.slice (some ⟨b, 0, none⟩) m c) s 0 0 c = .slice (some ⟨b, 0, none⟩) 0 c := by
  unfold slv
  dsimp only
  rw [if_neg h, Option.map_some, Addr.add_lit]
  simp
abbrev stCs (ss : List Stp) : List Value := ss.flatMap stpC
theorem stCs_rep (H : Snap) : ∀ ss : List Stp, CellsRep H StepL ss (stCs ss)
  | [] => rfl
  | s :: ss => ⟨stpC s, stCs ss, by simp [stCs], rfl, stCs_rep H ss⟩
theorem stCs_of {H : Snap} : ∀ {ss : List Stp} {cs : List Value}, CellsRep H StepL ss cs → cs = stCs ss
  | [], _, h => h
  | s :: ss, cs, ⟨c, r, h1, h2, h3⟩ => by
    have : c = stpC s := h2
    rw [h1, this, stCs_of h3]
    simp [stCs]
theorem stCs_len : ∀ ss : List Stp, (stCs ss).length = ss.length * 8
  | [] => rfl
  | s :: ss => by have := stCs_len ss; simp only [stCs, List.flatMap_cons, List.length_append, List.length_cons, List.length_nil] at *; omega
theorem stCs_one (ss : List Stp) : allOne (stCs ss) = true := by
  unfold allOne
  refine List.all_eq_true.2 fun u hu => ?_
  exact (stCs_rep (fun _ => none) ss).one1 u hu
set_option maxHeartbeats 1000000 in
theorem cloneD_c {H : Snap} {vd : Value} {ds : List Dc} (hd : SliceRep H DocL vd ds) (hl : ds.length ≤ 1000) : Ctr Try.prog 44 #[vd] H [] (fun _ O' r => ∃ xs, O' = [.row 36 2 r ds.length xs] ∧ CellsRep H DocL ds xs ∧ IsSl r ds.length) := by
  refine Ctr.intro Try.func44 rfl Try.ntmps44 rfl (fun E R hM hR => ?_)
  repeat (first | refine a1 ?_ | refine a4 ?_ | refine a5 ?_ | refine a6 ?_)
  refine RW.q (QF.move rfl).qv rfl rfl ?_
  refine RW.q (QF.eqlNil rfl hd.isSl).qv rfl rfl ?_
  obtain ⟨A, cap, hve, hA1, hA2, hA3⟩ := hd.isSl
  cases A with
  | none =>
    have hn : ds.length = 0 := by
      rcases Nat.eq_zero_or_pos ds.length with h | h
      · exact h
      · obtain ⟨b, off, h2⟩ := hA3 h; cases h2
    have hnil : isNilV vd = true := by rw [hve]; rfl
    rw [hnil]
    repeat (first | refine a1 ?_ | refine a4 ?_ | refine a5 ?_ | refine a6 ?_ | refine a7 ?_)
    refine Runs.addNil 36 2 ?_
    refine Runs.ret1 Try.func44 Try.results44 rfl (fun w hm => hR _ w _ H _ (List.mem_cons_self ..) (Snap.le.refl _) ?_ hm)
    have he : ds = [] := List.eq_nil_of_length_eq_zero hn
    subst he
    exact ⟨[], rfl, rfl, isSl_nil⟩
  | some ad =>
    have hnil : isNilV vd = false := by rw [hve]; rfl
    rw [hnil]
    repeat (first | refine a4 ?_ | refine a5 ?_ | refine a6 ?_ | refine a8 ?_)
    refine RW.buildSlice rfl rfl rfl rfl rfl rfl rfl (fun v1 h1 => ?_)
    repeat (refine a1 ?_)
    refine RW.appendH rfl rfl (hd) (by rfl) rfl (by decide) (by omega) (by omega) (fun _ _ => inferInstance) rfl rfl (fun xs v2 hc h2 => ?_)
    repeat (first | refine a1 ?_ | refine a5 ?_)
    simp only [repL, List.nil_append, Nat.zero_add]
    refine Runs.ret1 Try.func44 Try.results44 rfl (fun w hm => hR _ w _ H _ (List.mem_cons_self ..) (Snap.le.refl _) ?_ hm)
    refine ⟨xs, ?_, hc, by simpa using h2⟩
    simp [repL]
set_option maxHeartbeats 1000000 in
theorem cloneS_c {H : Snap} {vd : Value} {ds : List Stp} (hd : SliceRep H StepL vd ds) (hl : ds.length ≤ 1000) : Ctr Try.prog 50 #[vd] H [] (fun _ O' r => ∃ xs, O' = [.row 33 8 r ds.length xs] ∧ CellsRep H StepL ds xs ∧ IsSl r ds.length) := by
  refine Ctr.intro Try.func50 rfl Try.ntmps50 rfl (fun E R hM hR => ?_)
  repeat (first | refine a1 ?_ | refine a4 ?_ | refine a5 ?_ | refine a6 ?_)
  refine RW.q (QF.move rfl).qv rfl rfl ?_
  refine RW.q (QF.eqlNil rfl hd.isSl).qv rfl rfl ?_
  obtain ⟨A, cap, hve, hA1, hA2, hA3⟩ := hd.isSl
  cases A with
  | none =>
    have hn : ds.length = 0 := by
      rcases Nat.eq_zero_or_pos ds.length with h | h
      · exact h
      · obtain ⟨b, off, h2⟩ := hA3 h; cases h2
    have hnil : isNilV vd = true := by rw [hve]; rfl
    rw [hnil]
    repeat (first | refine a1 ?_ | refine a4 ?_ | refine a5 ?_ | refine a6 ?_ | refine a7 ?_)
    refine Runs.addNil 33 8 ?_
    refine Runs.ret1 Try.func50 Try.results50 rfl (fun w hm => hR _ w _ H _ (List.mem_cons_self ..) (Snap.le.refl _) ?_ hm)
    have he : ds = [] := List.eq_nil_of_length_eq_zero hn
    subst he
    exact ⟨[], rfl, rfl, isSl_nil⟩
  | some ad =>
    have hnil : isNilV vd = false := by rw [hve]; rfl
    rw [hnil]
    repeat (first | refine a4 ?_ | refine a5 ?_ | refine a6 ?_ | refine a8 ?_)
    refine RW.buildSlice rfl rfl rfl rfl rfl rfl rfl (fun v1 h1 => ?_)
    repeat (refine a1 ?_)
    refine RW.appendH rfl rfl (hd) (by rfl) rfl (by decide) (by omega) (by omega) (fun _ _ => inferInstance) rfl rfl (fun xs v2 hc h2 => ?_)
    repeat (first | refine a1 ?_ | refine a5 ?_)
    simp only [repL, List.nil_append, Nat.zero_add]
    refine Runs.ret1 Try.func50 Try.results50 rfl (fun w hm => hR _ w _ H _ (List.mem_cons_self ..) (Snap.le.refl _) ?_ hm)
    refine ⟨xs, ?_, hc, by simpa using h2⟩
    simp [repL]
theorem ifuncS_c {H : Snap} {O : List Own} {vs : Value} {xs : List Stp} {pf : FuncId} {pcap : List Value} {q : Stp → Bool} [tp : TCall Try.prog pf] (hs : SliceRep H StepL vs xs)
    (hp : ∀ (H' : Snap) (t : Stp), H.le H' → t ∈ xs → Ctr Try.prog pf ([stpV t] ++ pcap).toArray H' O (fun _ O' r => O' = O ∧ r = .bool (q t))) :
    Ctr Try.prog 58 #[vs, .func (.func pf) #[] pcap.toArray] H O (fun _ O' r => O' = O ∧ ∃ i : Int, r = .int .i64 i ∧ (0 ≤ i ↔ xs.any q = true)) := by
  have hb := hs.isSl.bound
  refine Ctr.intro Try.func58 rfl Try.ntmps58 rfl (fun E R hM hR => ?_)
  repeat (first | refine a1 ?_ | refine a4 ?_ | refine a5 ?_ | refine a6 ?_ | refine s_len ?_)
  refine Runs.loop (fun k : Nat => k ≤ xs.length ∧ ∀ j x, j < k → xs[j]? = some x → q x = false) (fun k => xs.length - k) (fun _ => [H]) (fun _ => O) (fun k => [(0, vs), (1, .func (.func pf) #[] pcap.toArray), (7, .int .i64 (xs.length : Int)), (8, .int .i64 (k : Int))]) 0 ⟨Nat.zero_le _, by simp⟩
    (fun h => Runs.back h ⟨rfl, rfl, rfl, rfl, trivial⟩) ?_
  rintro k ⟨hk, hI⟩ ih
  repeat (first | refine a1 ?_ | refine a4 ?_ | refine a5 ?_ | refine a6 ?_)
  refine Runs.cond_d rfl (fun hlt => ?_) (fun hlt => ?_)
  · obtain ⟨x, hx⟩ : ∃ x, xs[k]? = some x := ⟨_, List.getElem?_eq_getElem (by omega)⟩
    have hxm := List.mem_of_getElem? hx
    have hx8 := hs.st hx
    repeat (first | refine a1 ?_ | refine a4 ?_ | refine a5 ?_ | refine a6 ?_ | refine s_index ?_ | refine s_loadHs ?_)
    refine RW.callL (cap := pcap) rfl rfl (hp H x (Snap.le.refl _) hxm) (List.Sublist.refl _) rfl rfl ?_
    rintro _ H2 rfl hle2
    cases e : q x with
    | true =>
      repeat (first | refine a1 ?_ | refine a4 ?_ | refine a5 ?_ | refine a6 ?_ | refine a7 ?_)
      refine Runs.ret1 Try.func58 Try.results58 rfl (fun w hm => hR _ w _ H _ (by simp) ((Snap.le.refl _)) ?_ hm)
      exact ⟨rfl, k, rfl, fun _ => List.any_eq_true.2 ⟨x, hxm, e⟩, fun _ => by omega⟩
    | false =>
      repeat (first | refine a1 ?_ | refine a4 ?_ | refine a5 ?_ | refine a6 ?_ | refine s_addI ?_ | refine a8 ?_)
      refine Runs.back (ih (k + 1) ⟨by omega, fun j y hj hy => ?_⟩ (by omega)) ⟨rfl, rfl, rfl, rfl, trivial⟩
      by_cases e2 : j = k
      · subst e2; rw [hx] at hy; rw [← Option.some.inj hy]; exact e
      · exact hI j y (by omega) hy
  · repeat (first | refine a1 ?_ | refine a4 ?_ | refine a5 ?_ | refine a6 ?_)
    refine Runs.ret1 Try.func58 Try.results58 rfl (fun w hm => hR _ w _ H _ (by simp) ((Snap.le.refl _)) ?_ hm)
    refine ⟨rfl, -1, rfl, by simp, fun h => ?_⟩
    obtain ⟨x, hx, hq⟩ := List.any_eq_true.1 h
    obtain ⟨j, hj⟩ := List.getElem?_of_mem hx
    have := hI j x (by have := (List.getElem?_eq_some_iff.1 hj).1; omega) hj
    rw [this] at hq; cases hq
theorem cfuncS_c {H : Snap} {O : List Own} {vs : Value} {xs : List Stp} {pf : FuncId} {pcap : List Value} {q : Stp → Bool} [tp : TCall Try.prog pf] (hs : SliceRep H StepL vs xs)
    (hp : ∀ (H' : Snap) (t : Stp), H.le H' → t ∈ xs → Ctr Try.prog pf ([stpV t] ++ pcap).toArray H' O (fun _ O' r => O' = O ∧ r = .bool (q t))) :
    Ctr Try.prog 42 #[vs, .func (.func pf) #[] pcap.toArray] H O (fun _ O' r => O' = O ∧ r = .bool (xs.any q)) := by
  refine Ctr.intro Try.func42 rfl Try.ntmps42 rfl (fun E R hM hR => ?_)
  repeat (first | refine a1 ?_ | refine a4 ?_ | refine a5 ?_ | refine a6 ?_)
  refine RW.callL (cap := []) rfl rfl (ifuncS_c hs hp) (List.Sublist.refl _) rfl rfl ?_
  rintro _ H2 ⟨i, rfl, hi⟩ hle2
  repeat (first | refine a1 ?_ | refine a5 ?_)
  refine Runs.ret1 Try.func42 Try.results42 rfl (fun w hm => hR _ w _ H _ (by simp) ((Snap.le.refl _)) ?_ hm)
  refine ⟨rfl, ?_⟩
  cases e : xs.any q with
  | true => rw [decide_eq_true (hi.2 e)]
  | false => rw [decide_eq_false (fun h => by rw [hi.1 h] at e; cases e)]
theorem used_c {H : Snap} {s t : Stp} {b : Nat} : Ctr Try.prog 41 ([stpV t] ++ [Value.pointer (some ⟨b, 0, none⟩)]).toArray H [.blk b 33 (stpC s)] (fun _ O' r => O' = [.blk b 33 (stpC s)] ∧ r = .bool (decide (0 ≤ s.id ∧ t.id = s.id))) := by
  show Ctr Try.prog 41 #[stpV t, .pointer (some ⟨b, 0, none⟩)] H [.blk b 33 (stpC s)] _
  refine Ctr.intro Try.func41 rfl Try.ntmps41 rfl (fun E R hM hR => ?_)
  repeat (first | refine a4 ?_ | refine a6 ?_)
  refine RW.box rfl rfl rfl rfl (fun b2 => ?_)
  repeat (first | refine a1 ?_ | refine a4 ?_ | refine a5 ?_ | refine a6 ?_ | refine s_fieldB ?_ | refine s_loadB ?_)
  by_cases h0 : 0 ≤ s.id
  · rw [decide_eq_true h0]
    repeat (first | refine a1 ?_ | refine a5 ?_ | refine s_fieldB ?_ | refine s_loadB ?_)
    refine Runs.weak (Hs' := [H]) (O' := [.blk b 33 (stpC s)]) (l' := [(3, .bool (decide (t.id = s.id)))]) ?_ (by repeat (first | exact trivial | refine And.intro rfl ?_)) (fun x hx => List.mem_cons_of_mem _ (SubH.h x hx)) (by repeat (first | exact List.nil_sublist _ | exact List.Sublist.refl _ | refine List.Sublist.cons_cons _ ?_ | refine List.Sublist.cons _ ?_))
    refine Runs.ret1 Try.func41 Try.results41 rfl (fun w hm => hR _ w _ H _ (List.mem_cons_self ..) (Snap.le.refl _) ?_ hm)
    exact ⟨rfl, by simp [h0]⟩
  · rw [decide_eq_false h0]
    repeat (first | refine a1 ?_ | refine a3 ?_ | refine a5 ?_)
    refine Runs.weak (Hs' := [H]) (O' := [.blk b 33 (stpC s)]) (l' := [(3, .bool false)]) ?_ (by repeat (first | exact trivial | refine And.intro rfl ?_)) (fun x hx => List.mem_cons_of_mem _ (SubH.h x hx)) (by repeat (first | exact List.nil_sublist _ | exact List.Sublist.refl _ | refine List.Sublist.cons_cons _ ?_ | refine List.Sublist.cons _ ?_))
    refine Runs.ret1 Try.func41 Try.results41 rfl (fun w hm => hR _ w _ H _ (List.mem_cons_self ..) (Snap.le.refl _) ?_ hm)
    exact ⟨rfl, by simp [h0]⟩
theorem grow_c {H : Snap} {m : Nat} (hm : m ≤ 1000) : Ctr Try.prog 59 #[.slice none 0 0, .int .i64 (m : Int)] H [] (fun _ O' r => O' = [.row 33 8 r 0 []] ∧ IsSl r 0) := by
  refine Ctr.intro Try.func59 rfl Try.ntmps59 rfl (fun E R hM hR => ?_)
  repeat (first | refine a1 ?_ | refine a4 ?_ | refine a5 ?_ | refine a6 ?_ | refine a8 ?_)
  repeat refine RW.q (QF.move rfl).qv rfl rfl ?_
  refine RW.q (QF.capN rfl).qv rfl rfl ?_
  repeat (refine a1 ?_)
  refine RW.q (QF.len rfl isSl_nil).qv rfl rfl ?_
  repeat (first | refine a1 ?_ | refine a4 ?_ | refine a5 ?_ | refine a6 ?_ | refine s_subI ?_)
  refine Runs.cond_d rfl (fun h1 => ?_) (fun h1 => ?_)
  · repeat (first | refine a1 ?_ | refine a6 ?_)
    repeat refine RW.q (QF.move rfl).qv rfl rfl ?_
    refine RW.q (QF.capN rfl).qv rfl rfl ?_
    skip
    refine RW.q (QF.sliceHi rfl rfl isSl_nil rfl (Nat.le_refl _)).qv rfl rfl ?_
    repeat (refine a1 ?_)
    refine RW.h (HV.appendZeros (m := m) rfl (by rw [show (m : Int) - (((0 : Nat) : Int) - ((0 : Nat) : Int)) = (m : Int) by omega]; rfl) (by omega) (by decide) rfl (by omega) (by omega)) rfl rfl ?_
    rintro _ _ _ ⟨rfl, b, c, rfl, hc, hc2, rfl⟩
    repeat (refine a1 ?_)
    refine RW.q (QF.len rfl isSl_nil).qv rfl rfl ?_
    skip
    refine RW.q (QF.sliceHi (len := m) rfl rfl ⟨_, c, rfl, hc, hc2, fun _ => ⟨_, _, rfl⟩⟩ rfl (Nat.zero_le _)).qv rfl rfl ?_
    rw [show capOf (.slice (some ⟨b, 0, none⟩) m c) = c from rfl, slv0 (by omega)]
    repeat (first | refine a1 ?_ | refine a4 ?_ | refine a5 ?_ | refine a6 ?_)
    refine Runs.rowSl (.slice (some ⟨b, 0, none⟩) 0 c) (fun hs _ => ?_)
    refine Runs.ret1 Try.func59 Try.results59 rfl (fun w hm => hR _ w _ H _ (List.mem_cons_self ..) (Snap.le.refl _) ?_ hm)
    exact ⟨rfl, hs⟩
  · repeat (first | refine a1 ?_ | refine a4 ?_ | refine a5 ?_ | refine a6 ?_)
    refine Runs.addNil 33 8 ?_
    refine Runs.ret1 Try.func59 Try.results59 rfl (fun w hm => hR _ w _ H _ (List.mem_cons_self ..) (Snap.le.refl _) ?_ hm)
    exact ⟨rfl, isSl_nil⟩
end Go.Proofs.Ytbiohkncdlhigaa

/-
  Contracts: equality of documents, finding marks, Text, Valid, of both sides. Conditions: as each names them.
-/
import Derived.Test.YtbiohkncdlhigaaD5
namespace Go.Proofs.Ytbiohkncdlhigaa
open Go Go.RowKit

section
variable {P : Program} {f : FuncId} {n : Nat} {E : Ent} {R : Value → World → Prop} {k : List Item} {Hs : List Snap} {O : List Own} {l : Env} {L : List Oper} {os : List Oper} {d : Nat} {ty : TypeId} {pos : String} {aft : Array Edge} {g : Option (Nat × Bool)}
/-- A call through a function value of a function that writes nothing. -/
theorem RW.callP {fx : Operand} {La : List Operand} {ts : Array TypeId} {fid : FuncId} {vals : List Value} {H : Snap} {post : Snap → Value → Prop} (hf : opv l fx = some (.func (.func fid) #[] #[])) (ha : opvL l La = some vals) [c : TCall P fid] (hc : Pure P fid vals.toArray H post) [hH : InH Hs H] (hg : guardIs L l g = some true) (hd : Nat.blt d n = true)
    (h : ∀ v H', post H' v → RW P f n E R L.toArray os k Hs O ((d, v) :: l)) : RW P f n E R L.toArray (⟨some d, .call ⟨.value fx, La.toArray, ts⟩, ty, pos, aft, g⟩ :: os) k Hs O l :=
  RW.callK (O1 := []) (F := O) (cap := []) (hO := ⟨List.Perm.refl _⟩) hf ha (by rw [List.append_nil]; exact hc) hg hd h
end
theorem QF.neqMk {l : Env} {T' : TypeId} {x y : Operand} {a b : Mk} (hx : opv l x = some (mkV a)) (hy : opv l y = some (mkV b)) : QF Try.prog l (.binOp .neq 44 x y T') (.bool (decide (a ≠ b))) := by
  intro o ho ρ hρ w
  have ht : Try.prog.underlying 44 = some (.struct (Try.prog.fieldsOf 44)) := by simp [Program.fieldsOf, Try.underlying44]
  have h1 := run_equalIn_agg (P := Try.prog) w 9999 44 #[.int .i64 a.id, .int .i64 a.fr, .int .i64 a.to_, .bool a.wh] #[.int .i64 b.id, .int .i64 b.fr, .int .i64 b.to_, .bool b.wh] ht Try.stoodInHeld44
  simp only [Program.fieldsOf, Try.underlying44] at h1
  have h2 : (Op.equalIn 10000 44 (mkV a) (mkV b)).run Try.prog w = .ok (decide (a = b)) w := by
    rw [show (10000 : Nat) = 9999 + 1 from rfl, h1]
    obtain ⟨i, f, t, v⟩ := a
    obtain ⟨i2, f2, t2, v2⟩ := b
    simp [Op.eqFields, part, Try.sizeOf3, Try.sizeOf4, run_equalIn_int _ _ _ _ _ _ _ Try.underlying3, run_equalIn_bool' _ _ _ _ _ Try.underlying4]
    by_cases h1 : i = i2 <;> by_cases h2 : f = f2 <;> by_cases h3 : t = t2 <;> by_cases h4 : v = v2 <;> simp [h1, h2, h3, h4]
  simp only [execOp, ho, hρ _ _ hx, hρ _ _ hy, Sem.run_bind, run_eqGuard_agg w _ _ _ _ _ _ Try.eqGuardType44, Result.andThen_ok, run_neq_struct, h2]
  simp

theorem same_c {H : Snap} {va vb : Value} {a b : Dc} (ha : DocR H va a) (hb : DocR H vb b) : Pure Try.prog 16 #[va, vb] H (fun _ r => r = .bool (decide (a = b))) := by
  obtain ⟨vma, rfl, hma⟩ := ha
  obtain ⟨vmb, rfl, hmb⟩ := hb
  obtain ⟨sa, ma⟩ := a
  obtain ⟨sb, mb⟩ := b
  dsimp only at *
  have hba := hma.isSl.bound
  refine Pure.intro Try.func16 rfl Try.ntmps16 rfl (fun E R hM hR => ?_)
  repeat (first | refine a4 ?_ | refine a6 ?_)
  refine RW.box rfl rfl rfl rfl (fun b2 => ?_)
  refine RW.box rfl rfl rfl rfl (fun b3 => ?_)
  repeat (first | refine a1 ?_ | refine a4 ?_ | refine a5 ?_ | refine a6 ?_ | refine s_fieldB ?_ | refine s_loadB ?_ | refine s_neqS ?_)
  refine RW.dec 11 rfl (fun h1 => ?_) (fun h1 => ?_)
  · repeat (first | refine a1 ?_ | refine a3 ?_ | refine a4 ?_ | refine a5 ?_ | refine a6 ?_ | refine a7 ?_)
    refine Runs.ret1 Try.func16 Try.results16 rfl (fun w hm => hR _ w _ H _ (List.mem_cons_self ..) (Snap.le.refl _) ?_ hm)
    rw [decide_eq_false (fun e => h1 (by injection e))]
  · have h1 : sa = sb := by simpa using h1
    repeat (first | refine a1 ?_ | refine a5 ?_ | refine s_fieldB ?_ | refine s_loadB ?_ | refine s_len ?_)
    refine Runs.cond_d rfl (fun h2 => ?_) (fun h2 => ?_)
    · repeat (first | refine a1 ?_ | refine a4 ?_ | refine a5 ?_ | refine a6 ?_)
      refine Runs.ret1 Try.func16 Try.results16 rfl (fun w hm => hR _ w _ H _ (List.mem_cons_self ..) (Snap.le.refl _) ?_ hm)
      rw [decide_eq_false (fun e => h2 (by injection e with _ e; rw [e]))]
    · have h2 : ma.length = mb.length := by omega
      repeat (first | refine a1 ?_ | refine a4 ?_ | refine a5 ?_ | refine a6 ?_)
      refine Runs.loop (fun k : Nat => k ≤ ma.length ∧ ∀ j, j < k → ma[j]? = mb[j]?) (fun k => ma.length - k) (fun _ => [H]) (fun _ => [.blk b3 36 [str sb, vmb], .blk b2 36 [str sa, vma]]) (fun k => [(2, .pointer (some ⟨b2, 0, none⟩)), (3, .pointer (some ⟨b3, 0, none⟩)), (5, .int .i64 (k : Int))]) 0 ⟨Nat.zero_le _, by simp⟩
        (fun h => by refine Runs.weak (h) (by repeat (first | exact trivial | refine And.intro rfl ?_)) (fun x hx => List.mem_cons_of_mem _ (SubH.h x hx)) (by repeat (first | exact List.nil_sublist _ | exact List.Sublist.refl _ | refine List.Sublist.cons_cons _ ?_ | refine List.Sublist.cons _ ?_))) ?_
      rintro k ⟨hk, hI⟩ ih
      repeat (first | refine a1 ?_ | refine a4 ?_ | refine a5 ?_ | refine a6 ?_ | refine s_fieldB ?_ | refine s_loadB ?_ | refine s_len ?_)
      refine Runs.cond_d rfl (fun hlt => ?_) (fun hlt => ?_)
      · obtain ⟨x, hx⟩ : ∃ x, ma[k]? = some x := ⟨_, List.getElem?_eq_getElem (by omega)⟩
        obtain ⟨y, hy⟩ : ∃ y, mb[k]? = some y := ⟨_, List.getElem?_eq_getElem (by omega)⟩
        have hx2 := hma.mk hx
        have hy2 := hmb.mk hy
        repeat (refine a4 ?_)
        refine Runs.regionD _ _ [] (fun x hx => List.mem_cons_of_mem _ hx) (List.Sublist.refl _) (by kernel_rfl) ?_
        refine t_fieldB 0 ?_
        refine t_loadB 1 ?_
        refine d2 2 ?_
        refine t_index 3 ?_
        refine t_loadHs 4 ?_
        refine t_fieldB 5 ?_
        refine t_loadB 6 ?_
        refine d2 7 ?_
        refine t_index 8 ?_
        refine t_loadHs 9 ?_
        refine DW.qF 10 rfl (by kernel_rfl) (QF.neqMk rfl rfl) rfl rfl ?_
        refine DW.done (by kernel_rfl) ?_
        skip
        refine Runs.cond_d rfl (fun hne => ?_) (fun hne => ?_)
        · repeat (first | refine a1 ?_ | refine a4 ?_ | refine a5 ?_ | refine a6 ?_)
          refine Runs.ret1 Try.func16 Try.results16 rfl (fun w hm => hR _ w _ H _ (List.mem_cons_self ..) (Snap.le.refl _) ?_ hm)
          rw [decide_eq_false]
          intro e
          injection e with _ e
          rw [e, hy] at hx
          exact hne (Option.some.inj hx).symm
        · have hxy : x = y := by simpa using hne
          repeat (first | refine a1 ?_ | refine a4 ?_ | refine a5 ?_ | refine a6 ?_ | refine s_addI ?_)
          refine Runs.weak (ih (k + 1) ⟨by omega, fun j hj => ?_⟩ (by omega)) (by repeat (first | exact trivial | refine And.intro rfl ?_)) (fun x hx => List.mem_cons_of_mem _ (SubH.h x hx)) (by repeat (first | exact List.nil_sublist _ | exact List.Sublist.refl _ | refine List.Sublist.cons_cons _ ?_ | refine List.Sublist.cons _ ?_))
          by_cases e : j = k
          · subst e; rw [hx, hy, hxy]
          · exact hI j (by omega)
      · repeat (first | refine a1 ?_ | refine a4 ?_ | refine a5 ?_ | refine a6 ?_)
        refine Runs.ret1 Try.func16 Try.results16 rfl (fun w hm => hR _ w _ H _ (List.mem_cons_self ..) (Snap.le.refl _) ?_ hm)
        rw [decide_eq_true]
        have : ma = mb := List.ext_getElem? fun j => by
          by_cases hj : j < k
          · exact hI j hj
          · rw [List.getElem?_eq_none (by omega), List.getElem?_eq_none (by omega)]
        rw [h1, this]

/-- The place of the first mark with an Id, as the reference looks for it. -/
theorem rfind_c {H : Snap} {s : List UInt8} {vm : Value} {ms : List Mk} {i : Int} (hv : SliceRep H MarkL vm ms) : Pure Try.prog 14 #[.agg #[str s, vm], .int .i64 i] H
    (fun _ r => (¬ hasId ms i ∧ r = .int .i64 (-1)) ∨ ∃ (k : Nat) (m : Mk), ms[k]? = some m ∧ m.id = i ∧ r = .int .i64 (k : Int)) := by
  have hba := hv.isSl.bound
  refine Pure.intro Try.func14 rfl Try.ntmps14 rfl (fun E R hM hR => ?_)
  repeat (first | refine a4 ?_ | refine a6 ?_)
  refine RW.box rfl rfl rfl rfl (fun b2 => ?_)
  repeat (first | refine a1 ?_ | refine a4 ?_ | refine a5 ?_ | refine a6 ?_)
  refine Runs.loop (fun k : Nat => k ≤ ms.length ∧ ∀ j m, j < k → ms[j]? = some m → m.id ≠ i) (fun k => ms.length - k) (fun _ => [H]) (fun _ => [.blk b2 36 [str s, vm]]) (fun k => [(1, .int .i64 i), (2, .pointer (some ⟨b2, 0, none⟩)), (5, .int .i64 (k : Int))]) 0 ⟨Nat.zero_le _, by simp⟩
    (fun h => by refine Runs.weak (h) (by repeat (first | exact trivial | refine And.intro rfl ?_)) (fun x hx => List.mem_cons_of_mem _ (SubH.h x hx)) (by repeat (first | exact List.nil_sublist _ | exact List.Sublist.refl _ | refine List.Sublist.cons_cons _ ?_ | refine List.Sublist.cons _ ?_))) ?_
  rintro k ⟨hk, hI⟩ ih
  repeat (first | refine a1 ?_ | refine a4 ?_ | refine a5 ?_ | refine a6 ?_ | refine s_fieldB ?_ | refine s_loadB ?_ | refine s_len ?_)
  refine Runs.cond_d rfl (fun hlt => ?_) (fun hlt => ?_)
  · obtain ⟨x, hx⟩ : ∃ x, ms[k]? = some x := ⟨_, List.getElem?_eq_getElem (by omega)⟩
    have hx0 : H.cell (vat vm (k * 4 + 0)) = some (.int .i64 x.id) := hv.mk hx 0 _ rfl
    repeat (first | refine a1 ?_ | refine a4 ?_ | refine a5 ?_ | refine a6 ?_ | refine s_fieldB ?_ | refine s_fieldV ?_ | refine s_loadB ?_ | refine s_loadH ?_ | refine s_index ?_)
    refine Runs.cond_d rfl (fun he => ?_) (fun he => ?_)
    · repeat (first | refine a1 ?_ | refine a4 ?_ | refine a5 ?_ | refine a6 ?_)
      refine Runs.ret1 Try.func14 Try.results14 rfl (fun w hm => hR _ w _ H _ (List.mem_cons_self ..) (Snap.le.refl _) ?_ hm)
      exact .inr ⟨k, x, hx, he, rfl⟩
    · repeat (first | refine a1 ?_ | refine a4 ?_ | refine a5 ?_ | refine a6 ?_ | refine s_addI ?_)
      refine Runs.weak (ih (k + 1) ⟨by omega, fun j m hj hm => ?_⟩ (by omega)) (by repeat (first | exact trivial | refine And.intro rfl ?_)) (fun x hx => List.mem_cons_of_mem _ (SubH.h x hx)) (by repeat (first | exact List.nil_sublist _ | exact List.Sublist.refl _ | refine List.Sublist.cons_cons _ ?_ | refine List.Sublist.cons _ ?_))
      by_cases e : j = k
      · subst e; rw [hx] at hm; rw [← Option.some.inj hm]; exact he
      · exact hI j m (by omega) hm
  · repeat (first | refine a1 ?_ | refine a4 ?_ | refine a5 ?_ | refine a6 ?_)
    refine Runs.ret1 Try.func14 Try.results14 rfl (fun w hm => hR _ w _ H _ (List.mem_cons_self ..) (Snap.le.refl _) ?_ hm)
    refine .inl ⟨?_, rfl⟩
    rintro ⟨m, hm, he⟩
    obtain ⟨j, hj⟩ := List.getElem?_of_mem hm
    exact hI j m (by have := (List.getElem?_eq_some_iff.1 hj).1; omega) hj he

theorem isNaN_c {H : Snap} {x : Int} : Pure Try.prog 99 #[.int .i64 x] H (fun _ r => r = .bool false) := by
  refine Pure.intro Try.func99 rfl Try.ntmps99 rfl (fun E R hM hR => ?_)
  repeat (first | refine a1 ?_ | refine a4 ?_ | refine a5 ?_ | refine a6 ?_)
  refine Runs.ret1 Try.func99 Try.results99 rfl (fun w hm => hR _ w _ H _ (List.mem_cons_self ..) (Snap.le.refl _) ?_ hm)
  simp
theorem cmpInt_c {H : Snap} {x y : Int} : Pure Try.prog 98 #[.int .i64 x, .int .i64 y] H (fun _ r => r = .int .i64 (if x < y then -1 else if y < x then 1 else 0)) := by
  refine Pure.intro Try.func98 rfl Try.ntmps98 rfl (fun E R hM hR => ?_)
  repeat (first | refine a1 ?_ | refine a4 ?_ | refine a5 ?_ | refine a6 ?_)
  refine RW.callV rfl (isNaN_c (H := H)) rfl rfl ?_
  rintro _ _ rfl
  repeat (first | refine a1 ?_ | refine a4 ?_ | refine a5 ?_ | refine a6 ?_)
  refine RW.callV rfl (isNaN_c (H := H)) rfl rfl ?_
  rintro _ _ rfl
  repeat (first | refine a1 ?_ | refine a4 ?_ | refine a5 ?_ | refine a6 ?_ | refine a8 ?_)
  refine Runs.cond_d rfl (fun h => ?_) (fun h => ?_)
  · repeat (first | refine a1 ?_ | refine a4 ?_ | refine a5 ?_ | refine a6 ?_)
    refine Runs.ret1 Try.func98 Try.results98 rfl (fun w hm => hR _ w _ H _ (List.mem_cons_self ..) (Snap.le.refl _) ?_ hm)
    simp [h]
  · repeat (first | refine a1 ?_ | refine a4 ?_ | refine a5 ?_ | refine a6 ?_)
    refine Runs.cond_d rfl (fun h2 => ?_) (fun h2 => ?_)
    · repeat (first | refine a1 ?_ | refine a4 ?_ | refine a5 ?_ | refine a6 ?_)
      refine Runs.ret1 Try.func98 Try.results98 rfl (fun w hm => hR _ w _ H _ (List.mem_cons_self ..) (Snap.le.refl _) ?_ hm)
      simp [h, h2]
    · repeat (first | refine a1 ?_ | refine a4 ?_ | refine a5 ?_ | refine a6 ?_)
      refine Runs.ret1 Try.func98 Try.results98 rfl (fun w hm => hR _ w _ H _ (List.mem_cons_self ..) (Snap.le.refl _) ?_ hm)
      simp [h, h2]
theorem cmpMk_c {H : Snap} {m : Mk} {i : Int} : Pure Try.prog 97 #[mkV m, .int .i64 i] H (fun _ r => r = .int .i64 (if m.id < i then -1 else if i < m.id then 1 else 0)) := by
  refine Pure.intro Try.func97 rfl Try.ntmps97 rfl (fun E R hM hR => ?_)
  repeat (first | refine a4 ?_ | refine a6 ?_)
  refine RW.box rfl rfl rfl rfl (fun b2 => ?_)
  repeat (first | refine a1 ?_ | refine a4 ?_ | refine a5 ?_ | refine a6 ?_ | refine s_fieldB ?_ | refine s_loadB ?_)
  refine RW.callV rfl (cmpInt_c (H := H)) rfl rfl ?_
  rintro _ _ rfl
  repeat (first | refine a1 ?_ | refine a5 ?_)
  refine Runs.ret1 Try.func97 Try.results97 rfl (fun w hm => hR _ w _ H _ (List.mem_cons_self ..) (Snap.le.refl _) ?_ hm)
  rfl
/-- How many marks stand before an Id. -/
def cntLt (ms : List Mk) (i : Int) : Nat := (ms.takeWhile fun m => decide (m.id < i)).length
theorem while_at {α : Type} {p : α → Bool} : ∀ {L : List α} {k : Nat}, (∀ j y, j < k → L[j]? = some y → p y = true) → (∀ y, L[k]? = some y → p y = false) → L.takeWhile p = L.take k ∧ L.dropWhile p = L.drop k
  | [], k, _, _ => by simp
  | x :: L, 0, _, h => by
    have := h x rfl
    simp [this]
  | x :: L, k + 1, h1, h2 => by
    have hx := h1 0 x (Nat.succ_pos _) rfl
    obtain ⟨e1, e2⟩ := while_at (L := L) (k := k) (fun j y hj hy => h1 (j + 1) y (by omega) (by simpa using hy)) (fun y hy => h2 y (by simpa using hy))
    simp [hx, e1, e2]
theorem sorted_at {ms : List Mk} (hs : ms.Pairwise (fun a b => a.id < b.id)) {j k : Nat} {a b : Mk} (ha : ms[j]? = some a) (hb : ms[k]? = some b) (h : j < k) : a.id < b.id := by
  obtain ⟨g1, g2⟩ := List.getElem?_eq_some_iff.1 ha
  obtain ⟨g3, g4⟩ := List.getElem?_eq_some_iff.1 hb
  rw [← g2, ← g4]
  exact List.pairwise_iff_getElem.1 hs j k g1 g3 h
theorem cntLt_eq {ms : List Mk} {i : Int} {k : Nat} (hk : k ≤ ms.length) (h1 : ∀ j m, j < k → ms[j]? = some m → m.id < i) (h2 : ∀ m, ms[k]? = some m → i ≤ m.id) : cntLt ms i = k ∧ insM ⟨i, 0, 0, false⟩ ms = ms.take k ++ ⟨i, 0, 0, false⟩ :: ms.drop k := by
  obtain ⟨e1, e2⟩ := while_at (p := fun m : Mk => decide (m.id < i)) (L := ms) (k := k) (fun j y hj hy => decide_eq_true (h1 j y hj hy)) (fun y hy => decide_eq_false (by have := h2 y hy; omega))
  refine ⟨?_, ?_⟩
  · rw [cntLt, e1]; simp; omega
  · simp only [insM, e1, e2]
theorem take_while {α : Type} (p : α → Bool) : ∀ L : List α, L.takeWhile p = L.take (L.takeWhile p).length ∧ L.dropWhile p = L.drop (L.takeWhile p).length
  | [] => ⟨rfl, rfl⟩
  | y :: L => by
    obtain ⟨h1, h2⟩ := take_while p L
    rw [List.takeWhile_cons, List.dropWhile_cons]
    by_cases hy : p y = true
    · rw [if_pos hy, if_pos hy, List.length_cons, List.take_succ_cons, List.drop_succ_cons, ← h1, ← h2]
      exact ⟨rfl, rfl⟩
    · rw [if_neg hy, if_neg hy]
      exact ⟨rfl, rfl⟩
theorem insM_cnt (x : Mk) (ms : List Mk) : insM x ms = ms.take (cntLt ms x.id) ++ x :: ms.drop (cntLt ms x.id) := by
  obtain ⟨h1, h2⟩ := take_while (fun m : Mk => decide (m.id < x.id)) ms
  unfold insM cntLt
  rw [← h1, ← h2]
set_option maxHeartbeats 1000000 in
theorem bsearch_c {H : Snap} {vm : Value} {ms : List Mk} {i : Int} (hv : SliceRep H MarkL vm ms) (hs : ms.Pairwise (fun a b => a.id < b.id)) (hl : ms.length ≤ 100000) :
    Pure Try.prog 96 #[vm, .int .i64 i, .func (.func 97) #[] #[]] H (fun _ r => r = .tuple #[.int .i64 (cntLt ms i : Int), .bool (decide (hasId ms i))]) := by
  have hvs := hv.isSl
  refine Pure.intro Try.func96 rfl Try.ntmps96 rfl (fun E R hM hR => ?_)
  repeat (first | refine a1 ?_ | refine a4 ?_ | refine a5 ?_ | refine a6 ?_ | refine s_len ?_)
  refine Runs.loop (fun s : Nat × Nat => s.1 ≤ s.2 ∧ s.2 ≤ ms.length ∧ (∀ k m, k < s.1 → ms[k]? = some m → m.id < i) ∧ (∀ k m, s.2 ≤ k → ms[k]? = some m → i ≤ m.id)) (fun s => s.2 - s.1) (fun _ => [H]) (fun _ => [])
    (fun s => [(0, vm), (1, .int .i64 i), (2, .func (.func 97) #[] #[]), (8, .int .i64 (ms.length : Int)), (9, .int .i64 (s.1 : Int)), (10, .int .i64 (s.2 : Int))]) (0, ms.length) ⟨Nat.zero_le _, Nat.le_refl _, by simp, fun k m hk hm => by rw [List.getElem?_eq_none hk] at hm; cases hm⟩ (fun h => by
      refine Runs.weak (h) (by repeat (first | exact trivial | refine And.intro rfl ?_)) (fun x hx => List.mem_cons_of_mem _ (SubH.h x hx)) (by repeat (first | exact List.nil_sublist _ | exact List.Sublist.refl _ | refine List.Sublist.cons_cons _ ?_ | refine List.Sublist.cons _ ?_))) ?_
  rintro ⟨a, b⟩ ⟨hab, hbl, hI, hJ⟩ ih
  dsimp only at *
  repeat (first | refine a1 ?_ | refine a4 ?_ | refine a5 ?_ | refine a6 ?_)
  refine Runs.cond_d rfl (fun hlt => ?_) (fun hlt => ?_)
  · obtain ⟨h, hh⟩ : ∃ h : Nat, ((a : Int) + (b : Int)) / 2 = (h : Int) := ⟨(((a : Int) + (b : Int)) / 2).toNat, by omega⟩
    obtain ⟨m, hm⟩ : ∃ m, ms[h]? = some m := ⟨_, List.getElem?_eq_getElem (by omega)⟩
    have hm2 := hv.mk hm
    repeat (first | refine a1 ?_ | refine a4 ?_ | refine a5 ?_ | refine a6 ?_ | refine s_addI ?_ | refine s_convU64 ?_ | refine s_shr1 ?_ | refine s_convI ?_)
    rw [hh]
    repeat (first | refine a1 ?_ | refine s_index ?_ | refine s_loadHs ?_)
    try rw [show IntKind.i64.wrap (h : Int) = (h : Int) by simp [IntKind.wrap, IntKind.bits, IntKind.signed]; omega]
    skip
    refine RW.callP rfl rfl (cmpMk_c (H := H) (m := m) (i := i)) rfl rfl ?_
    rintro _ _ rfl
    repeat (first | refine a1 ?_ | refine a5 ?_)
    refine Runs.cond_d rfl (fun hc => ?_) (fun hc => ?_)
    · have hmi : m.id < i := by
        by_cases c : m.id < i
        · exact c
        · rw [if_neg c] at hc
          split at hc <;> omega
      repeat (first | refine a1 ?_ | refine a4 ?_ | refine a5 ?_ | refine a6 ?_ | refine s_addI ?_)
      refine Runs.weak (ih (h + 1, b) ⟨by dsimp only; omega, hbl, fun k x hk hx => ?_, hJ⟩ (by dsimp only; omega)) (by repeat (first | exact trivial | refine And.intro rfl ?_)) (fun x hx => List.mem_cons_of_mem _ (SubH.h x hx)) (by repeat (first | exact List.nil_sublist _ | exact List.Sublist.refl _ | refine List.Sublist.cons_cons _ ?_ | refine List.Sublist.cons _ ?_))
      by_cases e : k = h
      · subst e; rw [hm] at hx; rw [← Option.some.inj hx]; exact hmi
      · have := sorted_at hs hx hm (by dsimp only at hk; omega)
        omega
    · have hmi : i ≤ m.id := by
        by_cases c : m.id < i
        · rw [if_pos c] at hc; omega
        · omega
      repeat (first | refine a1 ?_ | refine a4 ?_ | refine a5 ?_ | refine a6 ?_)
      refine Runs.weak (ih (a, h) ⟨by dsimp only; omega, by dsimp only; omega, hI, fun k x hk hx => ?_⟩ (by dsimp only; omega)) (by repeat (first | exact trivial | refine And.intro rfl ?_)) (fun x hx => List.mem_cons_of_mem _ (SubH.h x hx)) (by repeat (first | exact List.nil_sublist _ | exact List.Sublist.refl _ | refine List.Sublist.cons_cons _ ?_ | refine List.Sublist.cons _ ?_))
      by_cases e : k = h
      · subst e; rw [hm] at hx; rw [← Option.some.inj hx]; exact hmi
      · have := sorted_at hs hm hx (by dsimp only at hk; omega)
        omega
  · have hab' : a = b := by omega
    subst hab'
    have hcn := (cntLt_eq (i := i) hbl hI (fun m hm => hJ a m (Nat.le_refl _) hm)).1
    repeat (first | refine a1 ?_ | refine a4 ?_ | refine a6 ?_)
    refine RW.dec 39 rfl (fun hal => ?_) (fun hal => ?_)
    · obtain ⟨m, hmg⟩ : ∃ m, ms[a]? = some m := ⟨_, List.getElem?_eq_getElem (by omega)⟩
      have hm2 := hv.mk hmg
      have hmi := hJ a m (Nat.le_refl _) hmg
      repeat (first | refine a1 ?_ | refine s_index ?_ | refine s_loadHs ?_)
      refine RW.callP rfl rfl (cmpMk_c (H := H) (m := m) (i := i)) rfl rfl ?_
      rintro _ _ rfl
      repeat (first | refine a1 ?_ | refine a5 ?_)
      refine Runs.ret2 Try.func96 Try.results96 rfl rfl (fun w hm => hR _ w _ H _ (List.mem_cons_self ..) (Snap.le.refl _) ?_ hm)
      rw [hcn, if_neg (by omega)]
      rw [show ∀ (c : Int) [Decidable (c = 0)], (hasId ms i ↔ c = 0) → decide (c = 0) = decide (hasId ms i) from fun c _ h => decide_eq_decide.2 h.symm]
      constructor
      · rintro ⟨x, hx, hxi⟩
        obtain ⟨j, hj⟩ := List.getElem?_of_mem hx
        rcases Nat.lt_trichotomy j a with h1 | h1 | h1
        · have := hI j x h1 hj; omega
        · subst h1; rw [hmg] at hj; have := Option.some.inj hj; subst this
          rw [if_neg (by omega)]
        · have := sorted_at hs hmg hj h1; omega
      · intro h
        refine ⟨m, List.mem_of_getElem? hmg, ?_⟩
        split at h
        · omega
        · omega
    · repeat (first | refine a1 ?_ | refine a3 ?_ | refine a5 ?_)
      refine Runs.ret2 Try.func96 Try.results96 rfl rfl (fun w hm => hR _ w _ H _ (List.mem_cons_self ..) (Snap.le.refl _) ?_ hm)
      rw [hcn, decide_eq_false]
      rintro ⟨x, hx, hxi⟩
      obtain ⟨j, hj⟩ := List.getElem?_of_mem hx
      have hjl := (List.getElem?_eq_some_iff.1 hj).1
      have := hI j x (by omega) hj
      omega
theorem find_c {H : Snap} {s : List UInt8} {vm : Value} {ms : List Mk} {i : Int} (hv : SliceRep H MarkL vm ms) (hs : ms.Pairwise (fun a b => a.id < b.id)) (hl : ms.length ≤ 100000) :
    Pure Try.prog 95 #[.agg #[str s, vm], .int .i64 i] H (fun _ r => r = .tuple #[.int .i64 (cntLt ms i : Int), .bool (decide (hasId ms i))]) := by
  refine Pure.intro Try.func95 rfl Try.ntmps95 rfl (fun E R hM hR => ?_)
  repeat (first | refine a4 ?_ | refine a6 ?_)
  refine RW.box rfl rfl rfl rfl (fun b2 => ?_)
  repeat (first | refine a1 ?_ | refine a4 ?_ | refine a5 ?_ | refine a6 ?_ | refine s_fieldB ?_ | refine s_loadB ?_)
  refine RW.callV rfl (bsearch_c hv hs hl) rfl rfl ?_
  rintro _ _ rfl
  repeat (first | refine a1 ?_ | refine a5 ?_)
  refine Runs.ret2 Try.func95 Try.results95 rfl rfl (fun w hm => hR _ w _ H _ (List.mem_cons_self ..) (Snap.le.refl _) ?_ hm)
  rfl
end Go.Proofs.Ytbiohkncdlhigaa

/-
  Contracts: plain texts, possible edits, texts after an edit, of both sides. Conditions: texts of at most 100000 bytes.
-/
import Derived.Test.YtbiohkncdlhigaaTy
import Derived.Test.YtbiohkncdlhigaaMD0
namespace Go.Proofs.Ytbiohkncdlhigaa
open Go Go.RowKit

theorem in_c {H : Snap} {x lo hi : Int} : Pure Try.prog 49 #[.int .i64 x, .int .i64 lo, .int .i64 hi] H (fun _ r => r = .bool (decide (lo ≤ x ∧ x ≤ hi))) := by
  refine Pure.intro Try.func49 rfl Try.ntmps49 rfl (fun E R hM hR => ?_)
  repeat (first | refine a1 ?_ | refine a4 ?_ | refine a5 ?_ | refine a6 ?_)
  refine RW.dec 10 rfl (fun h => ?_) (fun h => ?_)
  · repeat (first | refine a1 ?_ | refine a5 ?_)
    refine Runs.ret1 Try.func49 Try.results49 rfl (fun w hm => hR _ w _ H _ (List.mem_cons_self ..) (Snap.le.refl _) ?_ hm)
    simp [h]
  · repeat (first | refine a1 ?_ | refine a3 ?_ | refine a5 ?_)
    refine Runs.ret1 Try.func49 Try.results49 rfl (fun w hm => hR _ w _ H _ (List.mem_cons_self ..) (Snap.le.refl _) ?_ hm)
    simp [h]

theorem plain_no {s : List UInt8} {k : Nat} {b : UInt8} (hb : s[k]? = some b) (h : ¬ (32 ≤ b.toNat ∧ b.toNat ≤ 126)) : decide (plainP s) = false := decide_eq_false fun hp => h (hp b (List.mem_of_getElem? hb))
theorem plain_yes {s : List UInt8} {k : Nat} (hk : s.length ≤ k) (h : ∀ j b, j < k → s[j]? = some b → 32 ≤ b.toNat ∧ b.toNat ≤ 126) : decide (plainP s) = true := decide_eq_true fun b hb => by
  obtain ⟨j, hj⟩ := List.getElem?_of_mem hb
  exact h j b (by have := (List.getElem?_eq_some_iff.1 hj).1; omega) hj
theorem plain_c {H : Snap} {s : List UInt8} (hs : s.length ≤ 100000) : Pure Try.prog 92 #[str s] H (fun _ r => r = .bool (decide (plainP s))) := by
  refine Pure.intro Try.func92 rfl Try.ntmps92 rfl (fun E R hM hR => ?_)
  repeat (first | refine a1 ?_ | refine a4 ?_ | refine a5 ?_ | refine a6 ?_ | refine s_lenS ?_)
  refine Runs.loop (fun k : Nat => k ≤ s.length ∧ ∀ j b, j < k → s[j]? = some b → 32 ≤ b.toNat ∧ b.toNat ≤ 126) (fun k => s.length - k) (fun _ => [H]) (fun _ => []) (fun k => [(0, str s), (5, .int .i64 (s.length : Int)), (6, .int .i64 (k : Int))]) 0 ⟨Nat.zero_le _, by simp⟩
    (fun h => by refine Runs.weak (h) (by repeat (first | exact trivial | refine And.intro rfl ?_)) (fun x hx => List.mem_cons_of_mem _ (SubH.h x hx)) (by repeat (first | exact List.nil_sublist _ | exact List.Sublist.refl _ | refine List.Sublist.cons_cons _ ?_ | refine List.Sublist.cons _ ?_))) ?_
  rintro k ⟨hk, hI⟩ ih
  repeat (first | refine a1 ?_ | refine a4 ?_ | refine a5 ?_ | refine a6 ?_)
  refine Runs.cond_d rfl (fun hlt => ?_) (fun hlt => ?_)
  · obtain ⟨b, hb⟩ : ∃ b, s[k]? = some b := ⟨_, List.getElem?_eq_getElem (by omega)⟩
    repeat (first | refine a1 ?_ | refine a4 ?_ | refine a5 ?_ | refine a6 ?_ | refine s_indexS ?_ | refine s_lss ?_)
    refine RW.dec 13 rfl (fun h1 => ?_) (fun h1 => ?_)
    · repeat (first | refine a1 ?_ | refine a3 ?_ | refine a4 ?_ | refine a5 ?_ | refine a6 ?_ | refine a7 ?_)
      refine Runs.ret1 Try.func92 Try.results92 rfl (fun w hm => hR _ w _ H _ (List.mem_cons_self ..) (Snap.le.refl _) ?_ hm)
      rw [plain_no hb (by omega)]
    · repeat (first | refine a1 ?_ | refine a5 ?_ | refine s_indexS ?_ | refine s_gtr ?_)
      refine Runs.cond_d rfl (fun h2 => ?_) (fun h2 => ?_)
      · repeat (first | refine a1 ?_ | refine a4 ?_ | refine a5 ?_ | refine a6 ?_)
        refine Runs.ret1 Try.func92 Try.results92 rfl (fun w hm => hR _ w _ H _ (List.mem_cons_self ..) (Snap.le.refl _) ?_ hm)
        rw [plain_no hb (by omega)]
      · repeat (first | refine a1 ?_ | refine a4 ?_ | refine a5 ?_ | refine a6 ?_ | refine s_addI ?_)
        refine Runs.weak (ih (k + 1) ⟨by omega, ?_⟩ (by omega)) (by repeat (first | exact trivial | refine And.intro rfl ?_)) (fun x hx => List.mem_cons_of_mem _ (SubH.h x hx)) (by repeat (first | exact List.nil_sublist _ | exact List.Sublist.refl _ | refine List.Sublist.cons_cons _ ?_ | refine List.Sublist.cons _ ?_))
        intro j c hj hc
        by_cases e : j = k
        · subst e; rw [hb] at hc; rw [← Option.some.inj hc]; omega
        · exact hI j c (by omega) hc
  · repeat (first | refine a1 ?_ | refine a4 ?_ | refine a5 ?_ | refine a6 ?_)
    refine Runs.ret1 Try.func92 Try.results92 rfl (fun w hm => hR _ w _ H _ (List.mem_cons_self ..) (Snap.le.refl _) ?_ hm)
    rw [plain_yes (by omega) hI]
theorem rplain_c {H : Snap} {s : List UInt8} {lo hi : Int} (hs : s.length ≤ 100000) : Pure Try.prog 35 #[str s, .int .i64 lo, .int .i64 hi] H (fun _ r => r = .bool (decide (plainP s ∧ lo ≤ s.length ∧ s.length ≤ hi))) := by
  refine Pure.intro Try.func35 rfl Try.ntmps35 rfl (fun E R hM hR => ?_)
  repeat (first | refine a1 ?_ | refine a4 ?_ | refine a5 ?_ | refine a6 ?_)
  refine Runs.loop (fun k : Nat => k ≤ s.length ∧ ∀ j b, j < k → s[j]? = some b → 32 ≤ b.toNat ∧ b.toNat ≤ 126) (fun k => s.length - k) (fun _ => [H]) (fun _ => []) (fun k => [(0, str s), (1, .int .i64 lo), (2, .int .i64 hi), (7, .int .i64 (k : Int))]) 0 ⟨Nat.zero_le _, by simp⟩
    (fun h => by refine Runs.weak (h) (by repeat (first | exact trivial | refine And.intro rfl ?_)) (fun x hx => List.mem_cons_of_mem _ (SubH.h x hx)) (by repeat (first | exact List.nil_sublist _ | exact List.Sublist.refl _ | refine List.Sublist.cons_cons _ ?_ | refine List.Sublist.cons _ ?_))) ?_
  rintro k ⟨hk, hI⟩ ih
  repeat (first | refine a1 ?_ | refine a4 ?_ | refine a5 ?_ | refine a6 ?_ | refine s_lenS ?_)
  refine Runs.cond_d rfl (fun hlt => ?_) (fun hlt => ?_)
  · obtain ⟨b, hb⟩ : ∃ b, s[k]? = some b := ⟨_, List.getElem?_eq_getElem (by omega)⟩
    repeat (first | refine a1 ?_ | refine a4 ?_ | refine a6 ?_ | refine s_indexS ?_ | refine s_lss ?_)
    refine RW.dec 18 rfl (fun h1 => ?_) (fun h1 => ?_)
    · repeat (first | refine a1 ?_ | refine a3 ?_ | refine a4 ?_ | refine a5 ?_ | refine a6 ?_ | refine a7 ?_)
      refine Runs.ret1 Try.func35 Try.results35 rfl (fun w hm => hR _ w _ H _ (List.mem_cons_self ..) (Snap.le.refl _) ?_ hm)
      have := of_decide_eq_false (plain_no hb (by omega))
      simp [this]
    · repeat (first | refine a1 ?_ | refine a5 ?_ | refine s_indexS ?_ | refine s_gtr ?_)
      refine Runs.cond_d rfl (fun h2 => ?_) (fun h2 => ?_)
      · repeat (first | refine a1 ?_ | refine a4 ?_ | refine a5 ?_ | refine a6 ?_)
        refine Runs.ret1 Try.func35 Try.results35 rfl (fun w hm => hR _ w _ H _ (List.mem_cons_self ..) (Snap.le.refl _) ?_ hm)
        have := of_decide_eq_false (plain_no hb (by omega))
        simp [this]
      · repeat (first | refine a1 ?_ | refine a4 ?_ | refine a5 ?_ | refine a6 ?_ | refine s_addI ?_)
        refine Runs.weak (ih (k + 1) ⟨by omega, ?_⟩ (by omega)) (by repeat (first | exact trivial | refine And.intro rfl ?_)) (fun x hx => List.mem_cons_of_mem _ (SubH.h x hx)) (by repeat (first | exact List.nil_sublist _ | exact List.Sublist.refl _ | refine List.Sublist.cons_cons _ ?_ | refine List.Sublist.cons _ ?_))
        intro j c hj hc
        by_cases e : j = k
        · subst e; rw [hb] at hc; rw [← Option.some.inj hc]; omega
        · exact hI j c (by omega) hc
  · repeat (first | refine a1 ?_ | refine a4 ?_ | refine a6 ?_ | refine s_lenS ?_)
    refine RW.callV rfl (in_c (H := H)) rfl rfl ?_
    rintro _ _ rfl
    repeat (first | refine a1 ?_ | refine a5 ?_)
    refine Runs.ret1 Try.func35 Try.results35 rfl (fun w hm => hR _ w _ H _ (List.mem_cons_self ..) (Snap.le.refl _) ?_ hm)
    have := of_decide_eq_true (plain_yes (by omega) hI)
    simp [this]

set_option maxHeartbeats 1000000 in
theorem poss_c {H : Snap} {e : Ed} {n : Int} (ht : e.tx.length ≤ 100000) (hn : 0 ≤ n ∧ n ≤ 100000) : Pure Try.prog 90 #[edV e, .int .i64 n] H (fun _ r => r = .bool (decide (possE e n))) := by
  refine Pure.intro Try.func90 rfl Try.ntmps90 rfl (fun E R hM hR => ?_)
  repeat (first | refine a4 ?_ | refine a6 ?_)
  refine RW.box rfl rfl rfl rfl (fun b2 => ?_)
  repeat (first | refine a1 ?_ | refine a4 ?_ | refine a5 ?_ | refine a6 ?_ | refine s_fieldB ?_ | refine s_loadB ?_)
  refine RW.dec 8 rfl (fun h1 => ?_) (fun h1 => ?_)
  · repeat (first | refine a1 ?_ | refine a3 ?_ | refine a4 ?_ | refine a5 ?_ | refine a6 ?_ | refine a7 ?_)
    refine Runs.ret1 Try.func90 Try.results90 rfl (fun w hm => hR _ w _ H _ (List.mem_cons_self ..) (Snap.le.refl _) ?_ hm)
    rw [decide_eq_false (by unfold possE; omega)]
  repeat (first | refine a1 ?_ | refine a5 ?_ | refine s_fieldB ?_ | refine s_loadB ?_)
  refine Runs.cond_d rfl (fun h2 => ?_) (fun h2 => ?_)
  · repeat (first | refine a1 ?_ | refine a4 ?_ | refine a5 ?_ | refine a6 ?_)
    refine Runs.ret1 Try.func90 Try.results90 rfl (fun w hm => hR _ w _ H _ (List.mem_cons_self ..) (Snap.le.refl _) ?_ hm)
    rw [decide_eq_false (by unfold possE; omega)]
  repeat (first | refine a1 ?_ | refine a4 ?_ | refine a5 ?_ | refine a6 ?_ | refine s_fieldB ?_ | refine s_loadB ?_)
  refine Runs.cond_d rfl (fun hk1 => ?_) (fun hk1 => ?_)
  · repeat (first | refine a1 ?_ | refine a4 ?_ | refine a6 ?_ | refine s_fieldB ?_ | refine s_loadB ?_ | refine s_neqS ?_)
    refine RW.dec 21 rfl (fun h3 => ?_) (fun h3 => ?_)
    · have h3 : e.tx ≠ [] := h3
      repeat (first | refine a1 ?_ | refine s_fieldB ?_ | refine s_loadB ?_ | refine s_lenS ?_)
      refine RW.dec 27 rfl (fun h4 => ?_) (fun h4 => ?_)
      · repeat (first | refine s_fieldB ?_ | refine s_loadB ?_)
        refine RW.callV rfl (plain_c (H := H) ht) rfl rfl ?_
        rintro _ _ rfl
        repeat (first | refine a1 ?_ | refine a5 ?_)
        refine Runs.ret1 Try.func90 Try.results90 rfl (fun w hm => hR _ w _ H _ (List.mem_cons_self ..) (Snap.le.refl _) ?_ hm)
        congr 1
        rw [decide_eq_decide]
        unfold possE
        exact ⟨fun h => ⟨by omega, by omega, .inl ⟨hk1, h3, by omega, h⟩⟩, fun h => by
          rcases h.2.2 with h | h | h
          · exact h.2.2.2
          · omega
          · omega⟩
      · repeat (first | refine a1 ?_ | refine a3 ?_ | refine a5 ?_)
        refine Runs.ret1 Try.func90 Try.results90 rfl (fun w hm => hR _ w _ H _ (List.mem_cons_self ..) (Snap.le.refl _) ?_ hm)
        rw [decide_eq_false (by unfold possE; omega)]
    · have h3 : e.tx = [] := by simpa using h3
      repeat (first | refine a1 ?_ | refine a3 ?_ | refine a5 ?_)
      refine Runs.ret1 Try.func90 Try.results90 rfl (fun w hm => hR _ w _ H _ (List.mem_cons_self ..) (Snap.le.refl _) ?_ hm)
      rw [decide_eq_false (by unfold possE; simp [h3]; omega)]
  repeat (first | refine a1 ?_ | refine a4 ?_ | refine a5 ?_ | refine a6 ?_)
  refine Runs.cond_d rfl (fun hk2 => ?_) (fun hk2 => ?_)
  · rw [decide_eq_true hk2]
    repeat (first | refine a1 ?_ | refine a4 ?_ | refine a6 ?_ | refine s_fieldB ?_ | refine s_loadB ?_ | refine a7 ?_)
    refine RW.dec 38 rfl (fun h3 => ?_) (fun h3 => ?_)
    · repeat (first | refine a1 ?_ | refine a5 ?_ | refine s_fieldB ?_ | refine s_loadB ?_ | refine s_subI ?_)
      refine Runs.ret1 Try.func90 Try.results90 rfl (fun w hm => hR _ w _ H _ (List.mem_cons_self ..) (Snap.le.refl _) ?_ hm)
      congr 1
      rw [decide_eq_decide]
      unfold possE
      omega
    · repeat (first | refine a1 ?_ | refine a3 ?_ | refine a5 ?_)
      refine Runs.ret1 Try.func90 Try.results90 rfl (fun w hm => hR _ w _ H _ (List.mem_cons_self ..) (Snap.le.refl _) ?_ hm)
      rw [decide_eq_false (by unfold possE; omega)]
  repeat (first | refine a1 ?_ | refine a5 ?_ | refine a6 ?_)
  refine Runs.cond_d rfl (fun hk4 => ?_) (fun hk4 => ?_)
  · repeat (first | refine a1 ?_ | refine a4 ?_ | refine a6 ?_ | refine s_fieldB ?_ | refine s_loadB ?_)
    refine RW.dec 38 rfl (fun h3 => ?_) (fun h3 => ?_)
    · repeat (first | refine a1 ?_ | refine a5 ?_ | refine s_fieldB ?_ | refine s_loadB ?_ | refine s_subI ?_)
      refine Runs.ret1 Try.func90 Try.results90 rfl (fun w hm => hR _ w _ H _ (List.mem_cons_self ..) (Snap.le.refl _) ?_ hm)
      congr 1
      rw [decide_eq_decide]
      unfold possE
      omega
    · repeat (first | refine a1 ?_ | refine a3 ?_ | refine a5 ?_)
      refine Runs.ret1 Try.func90 Try.results90 rfl (fun w hm => hR _ w _ H _ (List.mem_cons_self ..) (Snap.le.refl _) ?_ hm)
      rw [decide_eq_false (by unfold possE; omega)]
  repeat (first | refine a1 ?_ | refine a4 ?_ | refine a5 ?_ | refine a6 ?_)
  refine Runs.cond_d rfl (fun hk3 => ?_) (fun hk3 => ?_)
  · repeat (first | refine a1 ?_ | refine a4 ?_ | refine a6 ?_ | refine s_fieldB ?_ | refine s_loadB ?_)
    refine RW.dec 52 rfl (fun h3 => ?_) (fun h3 => ?_)
    · repeat (first | refine a1 ?_ | refine s_fieldB ?_ | refine s_loadB ?_ | refine s_subI ?_)
      refine RW.dec 61 rfl (fun h4 => ?_) (fun h4 => ?_)
      · repeat (first | refine a1 ?_ | refine s_fieldB ?_ | refine s_loadB ?_)
        refine RW.dec 66 rfl (fun h5 => ?_) (fun h5 => ?_)
        · repeat (first | refine a1 ?_ | refine a5 ?_ | refine s_fieldB ?_ | refine s_loadB ?_ | refine s_subI ?_)
          refine Runs.ret1 Try.func90 Try.results90 rfl (fun w hm => hR _ w _ H _ (List.mem_cons_self ..) (Snap.le.refl _) ?_ hm)
          congr 1
          rw [decide_eq_decide]
          unfold possE
          omega
        · repeat (first | refine a1 ?_ | refine a3 ?_ | refine a5 ?_)
          refine Runs.ret1 Try.func90 Try.results90 rfl (fun w hm => hR _ w _ H _ (List.mem_cons_self ..) (Snap.le.refl _) ?_ hm)
          rw [decide_eq_false (by unfold possE; omega)]
      · repeat (first | refine a1 ?_ | refine a3 ?_ | refine a5 ?_)
        refine Runs.ret1 Try.func90 Try.results90 rfl (fun w hm => hR _ w _ H _ (List.mem_cons_self ..) (Snap.le.refl _) ?_ hm)
        rw [decide_eq_false (by unfold possE; omega)]
    · repeat (first | refine a1 ?_ | refine a3 ?_ | refine a5 ?_)
      refine Runs.ret1 Try.func90 Try.results90 rfl (fun w hm => hR _ w _ H _ (List.mem_cons_self ..) (Snap.le.refl _) ?_ hm)
      rw [decide_eq_false (by unfold possE; omega)]
  · repeat (first | refine a1 ?_ | refine a4 ?_ | refine a5 ?_ | refine a6 ?_)
    refine Runs.ret1 Try.func90 Try.results90 rfl (fun w hm => hR _ w _ H _ (List.mem_cons_self ..) (Snap.le.refl _) ?_ hm)
    rw [decide_eq_false (by unfold possE; omega)]
end Go.Proofs.Ytbiohkncdlhigaa

/-
  The statement UndoMatchesReference. Conditions: none.
-/
import Derived.Test.YtbiohkncdlhigaaMTo32
import Derived.Test.YtbiohkncdlhigaaYg
namespace Go.Proofs.Ytbiohkncdlhigaa
open Go Go.ChangeShapes Go.WideShapes Go.ChangeAt Go.RowKit

set_option maxRecDepth 100000 in
theorem matches32_lifted (os : Os) (started : os.Started) (H : Type) (enc : TypeId × Value → H) :
    ReturnsInHanded {} Try.checked os 8 .any (Rows.undoMatchesReferenceSpec.pre6 enc Try.prog Try.f8 Rows.undoMatchesReferenceRow.domain false) (Rows.undoMatchesReferenceSpec.post enc Try.prog Try.f8 false true false false) := by
  refine returnsInHanded_of_change (C := Try.checked) Try.own started (by kernel_rfl) Try.func8
    (ChangeSpec.witness6 (enc := enc) (C := Try.checked) false ⟨#[], #[.slice none 0 0, .agg #[.int .i64 0, .int .i64 0, .int .i64 0, .int .i64 0, .int .i64 0, .int .i64 0, .string ⟨#[]⟩, .bool false], .agg #[.int .i8 0, .int .i8 0]], []⟩ 8 (by kernel_rfl) (by kernel_rfl) (by kernel_rfl) (by kernel_rfl)) ?_
  intro W base args ds gs before hval0 hW hcnd _
  have hval : ∀ (j : Nat) t v, Try.f8.params[j]? = some t → args[j]? = some v → Value.okWide Try.prog W .any base t v := hval0
  have hW' := hW
  obtain ⟨p, q, hA0, hV, rfl, hfz, hnd⟩ := hW
  have hA : DataW.TrodAll enc Try.prog W 0 (fun _ => true) true Try.f8.params.toList args.toList ds p := hA0
  rw [Try.params8] at hA hval
  obtain ⟨v0, v1, v2, d0, d1, d2, p0, p1, p2, rfl, rfl, rfl, h0, h1, h2⟩ := trodAll_three hA
  obtain ⟨rfl, rfl⟩ := trodVars_none hV
  obtain ⟨l0, hc0, hb0⟩ := opens_sl Try.underlying22 (by kernel_rfl) (by decide) opens_rqL (hval 0 _ v0 rfl rfl) h0
  obtain ⟨s1, rfl, hs1⟩ := opens_step (hval 1 _ v1 rfl rfl) h1
  obtain ⟨a2, b2, rfl, ha2, hb2⟩ := opens_s2 (hval 2 _ v2 rfl rfl) h2
  have hm : Mem ⟨W, feet [], snap0 W⟩ W [snap0 W] [] := Mem.start rfl (fun _ _ h => h) (by simp) List.Pairwise.nil (by simp)
  refine (matches32_c (H := snap0 W) hc0 hb0 hs1 ha2 hb2 W hm).mono fun e W' ⟨v, H', O', he, ⟨_, hv⟩, _, hm'⟩ => ?_
  subst he; subst hv
  exact ⟨_, rfl, law_post Try.laidOut hW' rfl hm'.fr.below rfl Try.underlying4 (by decide +kernel) rfl rfl rfl⟩

theorem matches32_holds : Rows.UndoMatchesReferenceSaid :=
  OpenClaim.holds_of_wide 8 Try.f8 rfl rfl rfl rfl rfl rfl rfl ⟨rfl, rfl, rfl, rfl, rfl⟩ rfl rfl rfl rfl rfl (by kernel_rfl) Try.func8 (by kernel_rfl)
    (of_decide_eq_true (by kernel_rfl)) (by unfold Func.isWrapper; first | (rw [if_pos (by decide +kernel)]; kernel_rfl) | (rw [if_neg (by decide +kernel)]; exact ⟨rfl, rfl⟩))
    (fun os started H enc _ => matches32_lifted os started H enc)
#print axioms matches32_holds
end Go.Proofs.Ytbiohkncdlhigaa

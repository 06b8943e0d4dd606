/-
  The statement PageRight. Conditions: none.
-/
import Derived.Test.YtjdhcblofkkibaaMTo19
import Derived.Test.YtjdhcblofkkibaaVk
namespace Go.Proofs.Ytjdhcblofkkibaa
open Go Go.ChangeShapes Go.WideShapes Go.ChangeAt Go.RowKit

set_option maxRecDepth 100000 in
theorem right19_lifted (os : Os) (started : os.Started) (H : Type) (enc : TypeId × Value → H) :
    ReturnsInHanded {} Try.checked os 8 .any (Rows.pageRightSpec.pre6 enc Try.prog Try.f8 Rows.pageRightRow.domain false) (Rows.pageRightSpec.post enc Try.prog Try.f8 false true false false) := by
  refine returnsInHanded_of_change (C := Try.checked) Try.own started (by kernel_rfl) Try.func8
    (ChangeSpec.witness6 (enc := enc) (C := Try.checked) false ⟨#[], #[.agg #[.int .u8 0, .slice none 0 0], .agg #[.int .u8 0, .int .u8 0, .int .u8 0, .int .u8 0]], []⟩ 8 (by kernel_rfl) (by kernel_rfl) (by kernel_rfl) (by kernel_rfl)) ?_
  intro W base args ds gs before hval0 hW hcnd _
  have hval : ∀ (j : Nat) t v, Try.f8.params[j]? = some t → args[j]? = some v → Value.okWide Try.prog W .any base t v := hval0
  have hW' := hW
  obtain ⟨p, q, hA0, hV, rfl, hfz, hnd⟩ := hW
  have hA : DataW.TrodAll enc Try.prog W 0 (fun _ => true) true Try.f8.params.toList args.toList ds p := hA0
  rw [Try.params8] at hA hval
  obtain ⟨v0, v1, d0, d1, p0, p1, rfl, rfl, rfl, h0, h1⟩ := trodAll_two hA
  obtain ⟨rfl, rfl⟩ := trodVars_none hV
  obtain ⟨n0, vL0, xs0, rfl, hn0, hl0, hx0⟩ := opens_raw (hval 0 _ v0 rfl rfl) h0
  obtain ⟨a1, b1, c1, e1, rfl, ha1, hb1, hc1, he1⟩ := opens_w4 (hval 1 _ v1 rfl rfl) h1
  have hm : Mem ⟨W, feet [], snap0 W⟩ W [snap0 W] [] := Mem.start rfl (fun _ _ h => h) (by simp) List.Pairwise.nil (by simp)
  refine (right19_c (H := snap0 W) hl0 hn0 hx0 ha1 hb1 hc1 he1 W hm).mono fun e W' ⟨v, H', O', he, ⟨_, hv⟩, _, hm'⟩ => ?_
  subst he; subst hv
  exact ⟨_, rfl, law_post Try.laidOut hW' rfl hm'.fr.below rfl Try.underlying4 (by decide +kernel) rfl rfl rfl⟩

theorem right19_holds : Rows.PageRightSaid :=
  OpenClaim.holds_of_wide 8 Try.f8 rfl rfl rfl rfl rfl rfl rfl ⟨rfl, rfl, rfl, rfl, rfl⟩ rfl rfl rfl rfl rfl (by kernel_rfl) Try.func8 (by kernel_rfl)
    (of_decide_eq_true (by kernel_rfl)) (by unfold Func.isWrapper; first | (rw [if_pos (by decide +kernel)]; kernel_rfl) | (rw [if_neg (by decide +kernel)]; exact ⟨rfl, rfl⟩))
    (fun os started H enc _ => right19_lifted os started H enc)
#print axioms right19_holds
end Go.Proofs.Ytjdhcblofkkibaa

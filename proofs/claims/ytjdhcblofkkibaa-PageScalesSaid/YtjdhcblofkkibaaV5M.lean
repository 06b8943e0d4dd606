/-
  The statement PageScales. Conditions: none.
-/
import Derived.Test.YtjdhcblofkkibaaMTo19
import Derived.Test.YtjdhcblofkkibaaVj
namespace Go.Proofs.Ytjdhcblofkkibaa
open Go Go.ChangeShapes Go.WideShapes Go.ChangeAt Go.RowKit

set_option maxRecDepth 100000 in
theorem scales19_lifted (os : Os) (started : os.Started) (H : Type) (enc : TypeId × Value → H) :
    ReturnsInHanded {} Try.checked os 7 .any (Rows.pageScalesSpec.pre6 enc Try.prog Try.f7 Rows.pageScalesRow.domain false) (Rows.pageScalesSpec.post enc Try.prog Try.f7 false true false false) := by
  refine returnsInHanded_of_change (C := Try.checked) Try.own started (by kernel_rfl) Try.func7
    (ChangeSpec.witness6 (enc := enc) (C := Try.checked) false ⟨#[], #[.agg #[.int .u8 0, .slice none 0 0], .int .u8 0, .int .u8 0], []⟩ 8 (by kernel_rfl) (by kernel_rfl) (by kernel_rfl) (by kernel_rfl)) ?_
  intro W base args ds gs before hval0 hW hcnd _
  have hval : ∀ (j : Nat) t v, Try.f7.params[j]? = some t → args[j]? = some v → Value.okWide Try.prog W .any base t v := hval0
  have hW' := hW
  obtain ⟨p, q, hA0, hV, rfl, hfz, hnd⟩ := hW
  have hA : DataW.TrodAll enc Try.prog W 0 (fun _ => true) true Try.f7.params.toList args.toList ds p := hA0
  rw [Try.params7] at hA hval
  obtain ⟨v0, v1, v2, d0, d1, d2, p0, p1, p2, rfl, rfl, rfl, h0, h1, h2⟩ := trodAll_three hA
  obtain ⟨rfl, rfl⟩ := trodVars_none hV
  obtain ⟨n0, vL0, xs0, rfl, hn0, hl0, hx0⟩ := opens_raw (hval 0 _ v0 rfl rfl) h0
  obtain ⟨k1, rfl, rfl, rfl, wk1⟩ := open_int Try.underlying5 (hval 1 _ v1 rfl rfl) h1
  obtain ⟨k2, rfl, rfl, rfl, wk2⟩ := open_int Try.underlying5 (hval 2 _ v2 rfl rfl) h2
  have hm : Mem ⟨W, feet [], snap0 W⟩ W [snap0 W] [] := Mem.start rfl (fun _ _ h => h) (by simp) List.Pairwise.nil (by simp)
  refine (scales19_c (H := snap0 W) hl0 hn0 hx0 (u8_range wk1) (u8_range wk2) W hm).mono fun e W' ⟨v, H', O', he, ⟨_, hv⟩, _, hm'⟩ => ?_
  subst he; subst hv
  exact ⟨_, rfl, law_post Try.laidOut hW' rfl hm'.fr.below rfl Try.underlying4 (by decide +kernel) rfl rfl rfl⟩

theorem scales19_holds : Rows.PageScalesSaid :=
  OpenClaim.holds_of_wide 7 Try.f7 rfl rfl rfl rfl rfl rfl rfl ⟨rfl, rfl, rfl, rfl, rfl⟩ rfl rfl rfl rfl rfl (by kernel_rfl) Try.func7 (by kernel_rfl)
    (of_decide_eq_true (by kernel_rfl)) (by unfold Func.isWrapper; first | (rw [if_pos (by decide +kernel)]; kernel_rfl) | (rw [if_neg (by decide +kernel)]; exact ⟨rfl, rfl⟩))
    (fun os started H enc _ => scales19_lifted os started H enc)
#print axioms scales19_holds
end Go.Proofs.Ytjdhcblofkkibaa

/-
  The statement PageGoesOn. Conditions: none.
-/
import Derived.Test.YtjdhcblofkkibaaMTo19
import Derived.Test.YtjdhcblofkkibaaVg
namespace Go.Proofs.Ytjdhcblofkkibaa
open Go Go.ChangeShapes Go.WideShapes Go.ChangeAt Go.RowKit

set_option maxRecDepth 100000 in
theorem goesOn19_lifted (os : Os) (started : os.Started) (H : Type) (enc : TypeId × Value → H) :
    ReturnsInHanded {} Try.checked os 4 .any (Rows.pageGoesOnSpec.pre6 enc Try.prog Try.f4 Rows.pageGoesOnRow.domain false) (Rows.pageGoesOnSpec.post enc Try.prog Try.f4 false true false false) := by
  refine returnsInHanded_of_change (C := Try.checked) Try.own started (by kernel_rfl) Try.func4
    (ChangeSpec.witness6 (enc := enc) (C := Try.checked) false ⟨#[], #[.agg #[.int .u8 0, .slice none 0 0], .agg #[.int .u8 0, .int .u8 0, .int .u8 0]], []⟩ 8 (by kernel_rfl) (by kernel_rfl) (by kernel_rfl) (by kernel_rfl)) ?_
  intro W base args ds gs before hval0 hW hcnd _
  have hval : ∀ (j : Nat) t v, Try.f4.params[j]? = some t → args[j]? = some v → Value.okWide Try.prog W .any base t v := hval0
  have hW' := hW
  obtain ⟨p, q, hA0, hV, rfl, hfz, hnd⟩ := hW
  have hA : DataW.TrodAll enc Try.prog W 0 (fun _ => true) true Try.f4.params.toList args.toList ds p := hA0
  rw [Try.params4] at hA hval
  obtain ⟨v0, v1, d0, d1, p0, p1, rfl, rfl, rfl, h0, h1⟩ := trodAll_two hA
  obtain ⟨rfl, rfl⟩ := trodVars_none hV
  obtain ⟨n0, vL0, xs0, rfl, hn0, hl0, hx0⟩ := opens_raw (hval 0 _ v0 rfl rfl) h0
  obtain ⟨cs1, rfl⟩ := agg_of_array Try.underlying42 (hval 1 _ v1 rfl rfl)
  obtain ⟨fuel1, h1'⟩ := h1
  obtain ⟨a1, e1, ha1⟩ := opens_tri Try.underlying42 Try.underlying5 (by kernel_rfl) (by kernel_rfl) _ _ _ _ _ _ _ _ _ h1'
  have e12 : cs1 = #[.int .u8 a1.1, .int .u8 a1.2.1, .int .u8 a1.2.2] := by
    have : cs1.toList = [.int .u8 a1.1, .int .u8 a1.2.1, .int .u8 a1.2.2] := e1
    rw [← Array.toArray_toList (xs := cs1), this]
  subst e12
  have hm : Mem ⟨W, feet [], snap0 W⟩ W [snap0 W] [] := Mem.start rfl (fun _ _ h => h) (by simp) List.Pairwise.nil (by simp)
  refine (goesOn19_c (H := snap0 W) hl0 hn0 hx0 ha1 W hm).mono fun e W' ⟨v, H', O', he, ⟨_, hv⟩, _, hm'⟩ => ?_
  subst he; subst hv
  exact ⟨_, rfl, law_post Try.laidOut hW' rfl hm'.fr.below rfl Try.underlying4 (by decide +kernel) rfl rfl rfl⟩

theorem goesOn19_holds : Rows.PageGoesOnSaid :=
  OpenClaim.holds_of_wide 4 Try.f4 rfl rfl rfl rfl rfl rfl rfl ⟨rfl, rfl, rfl, rfl, rfl⟩ rfl rfl rfl rfl rfl (by kernel_rfl) Try.func4 (by kernel_rfl)
    (of_decide_eq_true (by kernel_rfl)) (by unfold Func.isWrapper; first | (rw [if_pos (by decide +kernel)]; kernel_rfl) | (rw [if_neg (by decide +kernel)]; exact ⟨rfl, rfl⟩))
    (fun os started H enc _ => goesOn19_lifted os started H enc)
#print axioms goesOn19_holds
end Go.Proofs.Ytjdhcblofkkibaa

/-
  The statement BestBegins. Conditions: none.
-/
import Derived.Test.YtonleimnjgmfeaaTop
namespace Go.Proofs.Ytonleimnjgmfeaa
open Go Go.ChangeShapes Go.WideShapes Go.ChangeAt Go.RowKit

set_option maxRecDepth 100000 in
theorem begins_lifted (os : Os) (started : os.Started) (H : Type) (enc : TypeId × Value → H) :
    ReturnsInHanded {} Try.checked os 5 .any (Rows.bestBeginsSpec.pre6 enc Try.prog Try.f5 Rows.bestBeginsRow.domain false) (Rows.bestBeginsSpec.post enc Try.prog Try.f5 false true false false) := by
  refine returnsInHanded_of_change (C := Try.checked) Try.own started (by kernel_rfl) Try.func5
    (ChangeSpec.witness6 (enc := enc) (C := Try.checked) false ⟨#[], #[.agg #[.int .u8 0, .slice none 0 0], .agg #[.int .u8 0, .int .u8 0]], []⟩ 8 (by kernel_rfl) (by kernel_rfl) (by kernel_rfl) (by kernel_rfl)) ?_
  intro W base args ds gs before hval0 hW hcnd _
  have hval : ∀ (j : Nat) t v, Try.f5.params[j]? = some t → args[j]? = some v → Value.okWide Try.prog W .any base t v := hval0
  have hW' := hW
  obtain ⟨p, q, hA0, hV, rfl, hfz, hnd⟩ := hW
  have hA : DataW.TrodAll enc Try.prog W 0 (fun _ => true) true Try.f5.params.toList args.toList ds p := hA0
  rw [Try.params5] at hA hval
  obtain ⟨v0, v1, d0, d1, p0, p1, rfl, rfl, rfl, h0, h1⟩ := trodAll_two hA
  obtain ⟨rfl, rfl⟩ := trodVars_none hV
  obtain ⟨n, vL, xs, rfl, hn, hl, hx⟩ := opens_raw (hval 0 _ v0 rfl rfl) h0
  obtain ⟨cs, rfl⟩ := agg_of_array Try.underlying51 (hval 1 _ v1 rfl rfl)
  obtain ⟨fuel, h1'⟩ := h1
  obtain ⟨a, b, e, ha, hb⟩ := opens_arr2 Try.underlying51 Try.underlying5 (by kernel_rfl) (by kernel_rfl) h1'
  have e2 : cs = #[.int .u8 a, .int .u8 b] := by
    have : cs.toList = [.int .u8 a, .int .u8 b] := e
    rw [← Array.toArray_toList (xs := cs), this]
  subst e2
  have hm : Mem ⟨W, feet [], snap0 W⟩ W [snap0 W] [] := Mem.start rfl (fun _ _ h => h) (by simp) List.Pairwise.nil (by simp)
  refine (begins_c (H := snap0 W) hl hn hx ha hb W hm).mono fun e W' ⟨v, H', O', he, ⟨_, hv⟩, _, hm'⟩ => ?_
  subst he; subst hv
  exact ⟨_, rfl, law_post Try.laidOut hW' rfl hm'.fr.below rfl Try.underlying4 (by decide +kernel) rfl rfl rfl⟩

theorem begins_holds : Rows.BestBeginsSaid :=
  OpenClaim.holds_of_wide 5 Try.f5 rfl rfl rfl rfl rfl rfl rfl ⟨rfl, rfl, rfl, rfl, rfl⟩ rfl rfl rfl rfl rfl (by kernel_rfl) Try.func5 (by kernel_rfl)
    (of_decide_eq_true (by kernel_rfl)) (by unfold Func.isWrapper; first | (rw [if_pos (by decide +kernel)]; kernel_rfl) | (rw [if_neg (by decide +kernel)]; exact ⟨rfl, rfl⟩))
    (fun os started H enc _ => begins_lifted os started H enc)
#print axioms begins_holds
end Go.Proofs.Ytonleimnjgmfeaa

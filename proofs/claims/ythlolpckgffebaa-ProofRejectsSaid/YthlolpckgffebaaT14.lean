/-
  The fixed examples. Conditions: none.
-/
import Derived.Test.YthlolpckgffebaaT13
namespace Go.Proofs.Ythlolpckgffebaa
open Go Go.RowKit

def gS : List Lnk := [⟨0, 1, 0, 1⟩, ⟨0, 2, 0, 1⟩, ⟨1, 3, 0, 2⟩, ⟨2, 3, 0, 2⟩, ⟨1, 2, 0, 0⟩]
def wantS : List Cand := [⟨[0, 2], 3⟩, ⟨[0, 4, 3], 3⟩, ⟨[1, 3], 3⟩]
theorem gS_list : listR 4 gS 3 = wantS := by decide
theorem gS_valid : validG 4 gS := by decide
theorem gS_tree : treeT gS 4 0 ≤ 2000000000000 := by decide
theorem g1_list : listR 1 [] 5 = [⟨[], 0⟩] := by decide
theorem g2_list : listR 2 [] 5 = [] := by decide
theorem g0_list : listR 0 [] 5 = [] := by decide
theorem gS_c3 : costOf 4 gS [0, 4, 3] = some 3 := by decide
theorem gS_c2 : costOf 4 gS [0, 3] = none := by decide
theorem gS_E : listE 4 gS 3 = 0 := by decide
theorem gS_E51 : listE 4 gS 51 = 1 := by decide
theorem g1_E : listE 1 [] 5 = 0 := by decide
theorem g2_E : listE 2 [] 5 = 0 := by decide
theorem g0_E : listE 0 [] 5 = 150 := by decide

theorem gS_num {t : List Int} (h : IsNum 4 gS 0 t) : tv t 0 = 3 := by
  obtain ⟨_, _, h3, h4, _⟩ := h
  have h4 : tv t 3 = 1 := h4
  have a2 : tv t 2 = 1 := by
    have := h3 2 (by omega) (by omega)
    simp [numT, gS, stepN, h4] at this
    exact this
  have a1 : tv t 1 = 2 := by
    have := h3 1 (by omega) (by omega)
    simp [numT, gS, stepN, h4, a2] at this
    exact this
  have := h3 0 (by omega) (by omega)
  simp [numT, gS, stepN, a1, a2] at this
  exact this

end Go.Proofs.Ythlolpckgffebaa

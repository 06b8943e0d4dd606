/-
  The law ProofRejects. Conditions: the arguments' form.
-/
import Derived.Test.YtjdhcblofkkibaaMPy
import Derived.Test.YtjdhcblofkkibaaMWk
namespace Go.Proofs.Ytjdhcblofkkibaa
open Go Go.RowKit

theorem okP_first {N : Nat} {gl : List Lnk} (hg : validG (N : Int) gl) (hN7 : (N : Int) ≤ 7) (h14 : gl.length ≤ 14) {k : Nat} (hk : k ≤ 12) : okP 12 10000000 ((allW gl N).take k) := by
  have hN1 := hg.1
  have hall := hg.2.2.2
  refine ⟨by rw [List.length_take]; omega, fun x hx => ?_⟩
  have hm : x ∈ waysG gl N N 0 := (ordered_perm _).mem_iff.1 (List.mem_of_mem_take hx)
  obtain ⟨h1, h2, h3⟩ := waysG_bound hall N 0 x hm
  have h4 := (costOf_links hall (by omega) (way := x.links) (c := x.cost) (by
    have := ways_go hm
    unfold costOf
    rw [this]; simp)).2.1
  exact ⟨by omega, by omega, by omega, fun i hi => by have := h4 i hi; omega⟩
/-- A struct that lies in the middle of an owned block. -/
theorem QV.loadBm {P : Program} {E : Ent} {Hs : List Snap} {O : List Own} {l : Env} {T T' : TypeId} {x : Operand} {b o : Nat} {cs c : List Value} [i : TAgg P T true] [s : TSz P T c.length] (hx : opv l x = some (.pointer (some ⟨b, o, none⟩))) [g : GetBlk O b T' cs] (hc : ∀ j u, c[j]? = some u → cs[o + j]? = some u) : QV P E Hs O l (.load T x) (.agg c.toArray) := by
  intro o' ho ρ hρ w hm
  have h1 : (loadVar T ⟨b, o, none⟩).run P w = .ok (.agg c.toArray) w := run_loadVar_agg (fun j u hj => by
    have h2 := hm.cellB (i := g) (hc j u hj)
    rwa [Addr.add_lit])
  simp [execOp, ho, hρ _ _ hx, Instr.loadAt, Instr.sureAddr, h1]
theorem mid8 {a b c d e f g h : Value} : ∀ (j : Nat) (u : Value), [a, b, c, d][j]? = some u → [a, b, c, d, e, f, g, h][0 + j]? = some u
  | 0, _, h => h
  | 1, _, h => h
  | 2, _, h => h
  | 3, _, h => h
  | _ + 4, _, h => by simp at h
theorem end8 {a b c d e f g h : Value} : ∀ (j : Nat) (u : Value), [e, f, g, h][j]? = some u → [a, b, c, d, e, f, g, h][4 + j]? = some u
  | 0, _, h => h
  | 1, _, h => h
  | 2, _, h => h
  | 3, _, h => h
  | _ + 4, _, h => by simp at h
end Go.Proofs.Ytjdhcblofkkibaa

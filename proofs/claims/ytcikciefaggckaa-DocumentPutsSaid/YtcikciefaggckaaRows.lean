/-
  No cell of these rows narrows 'for every input' (looked for: loops, veiled, ifaces, maps, wideKeys, modest, calm, conditions, laid).
  DERIVED. THE GIVEN ROWS OF THIS SEAT. 7 by the template 'for every input the law returns true; each argument reads behind the call as it read before'; 0 by the template 'total and deterministic' (their statements: YtcikciefaggckaaTotals.lean).
  GIVEN WITH THE SEED: the statements are not yours to turn. If you find one false, say at which input.
  Laid BY PROGRAM, IN A SANDBOX (cutbox-rows.mjs): the forced cells as the released guide's own fill.sh prints them over the translation 07be9d6c366ca232… (all of the seat's roots in one cut). By AI agents, Wed Nov 11 2026. No macro, syntax, notation, axiom, sorry.
-/
import Derived.Test.YtcikciefaggckaaChecked
import GoSem.Claim
import GoSem.ClaimJoined
import GoSem.ClaimMapViews
import Derived.JoinedTies
import Derived.KernelRfl
namespace Go.Proofs.Ytcikciefaggckaa
/- THE CELL 'sum', in the pinned program and in every row, IS THE sha256 OF THE DUMP (.gsa) THAT YtcikciefaggckaaProg.lean LOADS. Nothing in Lean hashes anything: it is a label: what it is worth is what the hold of that sum in a sandbox is worth. -/
noncomputable def Try.pinned : Pinned := { name := "ytcikciefaggckaa", sum := "07be9d6c366ca23238f8426e0003f4260745bee2b1ff8b1b2bc1161e1281e13b", checked := Try.checked }
namespace Rows
def none {H : Type} : Left H := { results := [], args := [] }

/-- 'syllabarylaw29.DocumentMatchesReference': WHATEVER THE INPUT: true; the input reads as it did. -/
def documentMatchesReferenceSpec : ChangeSpec := { name := "documentMatchesReference", fn := fun _ => fun
  | [d1, d2, d3] => { results := [.lit (.bool true)], args := [d1, d2, d3] }
  | _ => none }
def documentMatchesReferenceRow : OpenClaim := { program := "ytcikciefaggckaa", sum := "07be9d6c366ca23238f8426e0003f4260745bee2b1ff8b1b2bc1161e1281e13b", func := "syllabary/syllabarylaw29.DocumentMatchesReference", spec := "documentMatchesReference", unfollowed := true, recurses := true, apart := false }
def DocumentMatchesReferenceSaid : Prop := documentMatchesReferenceRow.holds Try.pinned (OpenSpec.ofChange documentMatchesReferenceSpec)

/-- ITS FALSE NEIGHBOUR: 'it returns false'. Refute it at one input. -/
def documentMatchesReferenceWrong : ChangeSpec := { name := "documentMatchesReference", fn := fun _ => fun
  | [d1, d2, d3] => { results := [.lit (.bool false)], args := [d1, d2, d3] }
  | _ => none }
def DocumentMatchesReferenceWrongFalsely : Prop := documentMatchesReferenceRow.holds Try.pinned (OpenSpec.ofChange documentMatchesReferenceWrong)

/-- 'syllabarylaw29.DocumentValid': WHATEVER THE INPUT: true; the input reads as it did. -/
def documentValidSpec : ChangeSpec := { name := "documentValid", fn := fun _ => fun
  | [d1, d2, d3] => { results := [.lit (.bool true)], args := [d1, d2, d3] }
  | _ => none }
def documentValidRow : OpenClaim := { program := "ytcikciefaggckaa", sum := "07be9d6c366ca23238f8426e0003f4260745bee2b1ff8b1b2bc1161e1281e13b", func := "syllabary/syllabarylaw29.DocumentValid", spec := "documentValid", unfollowed := true, recurses := true, apart := false }
def DocumentValidSaid : Prop := documentValidRow.holds Try.pinned (OpenSpec.ofChange documentValidSpec)

/-- ITS FALSE NEIGHBOUR: 'it returns false'. Refute it at one input. -/
def documentValidWrong : ChangeSpec := { name := "documentValid", fn := fun _ => fun
  | [d1, d2, d3] => { results := [.lit (.bool false)], args := [d1, d2, d3] }
  | _ => none }
def DocumentValidWrongFalsely : Prop := documentValidRow.holds Try.pinned (OpenSpec.ofChange documentValidWrong)

/-- 'syllabarylaw29.DocumentMarks': WHATEVER THE INPUT: true; the input reads as it did. -/
def documentMarksSpec : ChangeSpec := { name := "documentMarks", fn := fun _ => fun
  | [d1, d2] => { results := [.lit (.bool true)], args := [d1, d2] }
  | _ => none }
def documentMarksRow : OpenClaim := { program := "ytcikciefaggckaa", sum := "07be9d6c366ca23238f8426e0003f4260745bee2b1ff8b1b2bc1161e1281e13b", func := "syllabary/syllabarylaw29.DocumentMarks", spec := "documentMarks", unfollowed := true, recurses := true, apart := false }
def DocumentMarksSaid : Prop := documentMarksRow.holds Try.pinned (OpenSpec.ofChange documentMarksSpec)

/-- ITS FALSE NEIGHBOUR: 'it returns false'. Refute it at one input. -/
def documentMarksWrong : ChangeSpec := { name := "documentMarks", fn := fun _ => fun
  | [d1, d2] => { results := [.lit (.bool false)], args := [d1, d2] }
  | _ => none }
def DocumentMarksWrongFalsely : Prop := documentMarksRow.holds Try.pinned (OpenSpec.ofChange documentMarksWrong)

/-- 'syllabarylaw29.DocumentBytes': WHATEVER THE INPUT: true; the input reads as it did. -/
def documentBytesSpec : ChangeSpec := { name := "documentBytes", fn := fun _ => fun
  | [d1, d2] => { results := [.lit (.bool true)], args := [d1, d2] }
  | _ => none }
def documentBytesRow : OpenClaim := { program := "ytcikciefaggckaa", sum := "07be9d6c366ca23238f8426e0003f4260745bee2b1ff8b1b2bc1161e1281e13b", func := "syllabary/syllabarylaw29.DocumentBytes", spec := "documentBytes", unfollowed := true, recurses := true, apart := false }
def DocumentBytesSaid : Prop := documentBytesRow.holds Try.pinned (OpenSpec.ofChange documentBytesSpec)

/-- ITS FALSE NEIGHBOUR: 'it returns false'. Refute it at one input. -/
def documentBytesWrong : ChangeSpec := { name := "documentBytes", fn := fun _ => fun
  | [d1, d2] => { results := [.lit (.bool false)], args := [d1, d2] }
  | _ => none }
def DocumentBytesWrongFalsely : Prop := documentBytesRow.holds Try.pinned (OpenSpec.ofChange documentBytesWrong)

/-- 'syllabarylaw29.DocumentRestores': WHATEVER THE INPUT: true; the input reads as it did. -/
def documentRestoresSpec : ChangeSpec := { name := "documentRestores", fn := fun _ => fun
  | [d1, d2] => { results := [.lit (.bool true)], args := [d1, d2] }
  | _ => none }
def documentRestoresRow : OpenClaim := { program := "ytcikciefaggckaa", sum := "07be9d6c366ca23238f8426e0003f4260745bee2b1ff8b1b2bc1161e1281e13b", func := "syllabary/syllabarylaw29.DocumentRestores", spec := "documentRestores", unfollowed := true, recurses := true, apart := false }
def DocumentRestoresSaid : Prop := documentRestoresRow.holds Try.pinned (OpenSpec.ofChange documentRestoresSpec)

/-- ITS FALSE NEIGHBOUR: 'it returns false'. Refute it at one input. -/
def documentRestoresWrong : ChangeSpec := { name := "documentRestores", fn := fun _ => fun
  | [d1, d2] => { results := [.lit (.bool false)], args := [d1, d2] }
  | _ => none }
def DocumentRestoresWrongFalsely : Prop := documentRestoresRow.holds Try.pinned (OpenSpec.ofChange documentRestoresWrong)

/-- 'syllabarylaw29.DocumentJoins': WHATEVER THE INPUT: true; the input reads as it did. -/
def documentJoinsSpec : ChangeSpec := { name := "documentJoins", fn := fun _ => fun
  | [d1, d2, d3] => { results := [.lit (.bool true)], args := [d1, d2, d3] }
  | _ => none }
def documentJoinsRow : OpenClaim := { program := "ytcikciefaggckaa", sum := "07be9d6c366ca23238f8426e0003f4260745bee2b1ff8b1b2bc1161e1281e13b", func := "syllabary/syllabarylaw29.DocumentJoins", spec := "documentJoins", unfollowed := true, recurses := true, apart := false }
def DocumentJoinsSaid : Prop := documentJoinsRow.holds Try.pinned (OpenSpec.ofChange documentJoinsSpec)

/-- ITS FALSE NEIGHBOUR: 'it returns false'. Refute it at one input. -/
def documentJoinsWrong : ChangeSpec := { name := "documentJoins", fn := fun _ => fun
  | [d1, d2, d3] => { results := [.lit (.bool false)], args := [d1, d2, d3] }
  | _ => none }
def DocumentJoinsWrongFalsely : Prop := documentJoinsRow.holds Try.pinned (OpenSpec.ofChange documentJoinsWrong)

/-- 'syllabarylaw29.DocumentPuts': WHATEVER THE INPUT: true; the input reads as it did. -/
def documentPutsSpec : ChangeSpec := { name := "documentPuts", fn := fun _ => fun
  | [d1, d2, d3] => { results := [.lit (.bool true)], args := [d1, d2, d3] }
  | _ => none }
def documentPutsRow : OpenClaim := { program := "ytcikciefaggckaa", sum := "07be9d6c366ca23238f8426e0003f4260745bee2b1ff8b1b2bc1161e1281e13b", func := "syllabary/syllabarylaw29.DocumentPuts", spec := "documentPuts", unfollowed := true, recurses := true, apart := false }
def DocumentPutsSaid : Prop := documentPutsRow.holds Try.pinned (OpenSpec.ofChange documentPutsSpec)

/-- ITS FALSE NEIGHBOUR: 'it returns false'. Refute it at one input. -/
def documentPutsWrong : ChangeSpec := { name := "documentPuts", fn := fun _ => fun
  | [d1, d2, d3] => { results := [.lit (.bool false)], args := [d1, d2, d3] }
  | _ => none }
def DocumentPutsWrongFalsely : Prop := documentPutsRow.holds Try.pinned (OpenSpec.ofChange documentPutsWrong)

/- THE SECOND FORM. 'bulk': how many values and letters a reading holds, each counted each time it is reached (what is shared counts as often as it is met; a slice's spare places count too). A statement '..UptoSaid' is the law's where the arguments, and the package variables that the reading takes, are together of bulk at most 1048576: NARROWER than '..Said'. Prove '..Said' where nothing that the law and all that it calls make is longer than what came in: it says more and counts as full. Else prove '..UptoSaid'. A law counts once. -/
mutual
def uptoBulk {H : Type} : DataW H → Nat
  | .lit (.string bytes) => bytes.length + 1
  | .lit _ => 1
  | .nil => 1
  | .ptr d => uptoBulk d + 1
  | .slice elems spare => uptoBulkAll elems + uptoBulkAll spare + 1
  | .agg parts => uptoBulkAll parts + 1
  | .iface _ d => uptoBulk d + 1
  | .map entries => uptoBulkEntries entries + 1
  | .held _ => 1
def uptoBulkAll {H : Type} : List (DataW H) → Nat
  | [] => 0
  | d :: r => uptoBulk d + uptoBulkAll r
def uptoBulkEntries {H : Type} : List (Lit × DataW H) → Nat
  | [] => 0
  | x :: r => uptoBulkEntry x + uptoBulkEntries r
def uptoBulkEntry {H : Type} : Lit × DataW H → Nat
  | (.string bytes, d) => bytes.length + uptoBulk d + 1
  | (_, d) => uptoBulk d + 1
 end
def uptoSmall : (H : Type) → List (DataW H) → Bool := fun _ ds => decide (uptoBulkAll ds ≤ 1048576)
def OpenSpec.upto (s : _root_.Go.ChangeSpec) : _root_.Go.OpenSpec := { _root_.Go.OpenSpec.ofChange s with cond := some uptoSmall }

/-- 'syllabarylaw29.DocumentMatchesReference', WHERE WHAT IT READS IS OF BULK AT MOST 1048576: true; the input reads as it did. -/
def documentMatchesReferenceUptoRow : OpenClaim := { program := "ytcikciefaggckaa", sum := "07be9d6c366ca23238f8426e0003f4260745bee2b1ff8b1b2bc1161e1281e13b", func := "syllabary/syllabarylaw29.DocumentMatchesReference", spec := "documentMatchesReference", unfollowed := true, recurses := true, apart := false, narrowed := true }
def DocumentMatchesReferenceUptoSaid : Prop := documentMatchesReferenceUptoRow.holds Try.pinned (OpenSpec.upto documentMatchesReferenceSpec)

/-- 'syllabarylaw29.DocumentValid', WHERE WHAT IT READS IS OF BULK AT MOST 1048576: true; the input reads as it did. -/
def documentValidUptoRow : OpenClaim := { program := "ytcikciefaggckaa", sum := "07be9d6c366ca23238f8426e0003f4260745bee2b1ff8b1b2bc1161e1281e13b", func := "syllabary/syllabarylaw29.DocumentValid", spec := "documentValid", unfollowed := true, recurses := true, apart := false, narrowed := true }
def DocumentValidUptoSaid : Prop := documentValidUptoRow.holds Try.pinned (OpenSpec.upto documentValidSpec)

/-- 'syllabarylaw29.DocumentMarks', WHERE WHAT IT READS IS OF BULK AT MOST 1048576: true; the input reads as it did. -/
def documentMarksUptoRow : OpenClaim := { program := "ytcikciefaggckaa", sum := "07be9d6c366ca23238f8426e0003f4260745bee2b1ff8b1b2bc1161e1281e13b", func := "syllabary/syllabarylaw29.DocumentMarks", spec := "documentMarks", unfollowed := true, recurses := true, apart := false, narrowed := true }
def DocumentMarksUptoSaid : Prop := documentMarksUptoRow.holds Try.pinned (OpenSpec.upto documentMarksSpec)

/-- 'syllabarylaw29.DocumentBytes', WHERE WHAT IT READS IS OF BULK AT MOST 1048576: true; the input reads as it did. -/
def documentBytesUptoRow : OpenClaim := { program := "ytcikciefaggckaa", sum := "07be9d6c366ca23238f8426e0003f4260745bee2b1ff8b1b2bc1161e1281e13b", func := "syllabary/syllabarylaw29.DocumentBytes", spec := "documentBytes", unfollowed := true, recurses := true, apart := false, narrowed := true }
def DocumentBytesUptoSaid : Prop := documentBytesUptoRow.holds Try.pinned (OpenSpec.upto documentBytesSpec)

/-- 'syllabarylaw29.DocumentRestores', WHERE WHAT IT READS IS OF BULK AT MOST 1048576: true; the input reads as it did. -/
def documentRestoresUptoRow : OpenClaim := { program := "ytcikciefaggckaa", sum := "07be9d6c366ca23238f8426e0003f4260745bee2b1ff8b1b2bc1161e1281e13b", func := "syllabary/syllabarylaw29.DocumentRestores", spec := "documentRestores", unfollowed := true, recurses := true, apart := false, narrowed := true }
def DocumentRestoresUptoSaid : Prop := documentRestoresUptoRow.holds Try.pinned (OpenSpec.upto documentRestoresSpec)

/-- 'syllabarylaw29.DocumentJoins', WHERE WHAT IT READS IS OF BULK AT MOST 1048576: true; the input reads as it did. -/
def documentJoinsUptoRow : OpenClaim := { program := "ytcikciefaggckaa", sum := "07be9d6c366ca23238f8426e0003f4260745bee2b1ff8b1b2bc1161e1281e13b", func := "syllabary/syllabarylaw29.DocumentJoins", spec := "documentJoins", unfollowed := true, recurses := true, apart := false, narrowed := true }
def DocumentJoinsUptoSaid : Prop := documentJoinsUptoRow.holds Try.pinned (OpenSpec.upto documentJoinsSpec)

/-- 'syllabarylaw29.DocumentPuts', WHERE WHAT IT READS IS OF BULK AT MOST 1048576: true; the input reads as it did. -/
def documentPutsUptoRow : OpenClaim := { program := "ytcikciefaggckaa", sum := "07be9d6c366ca23238f8426e0003f4260745bee2b1ff8b1b2bc1161e1281e13b", func := "syllabary/syllabarylaw29.DocumentPuts", spec := "documentPuts", unfollowed := true, recurses := true, apart := false, narrowed := true }
def DocumentPutsUptoSaid : Prop := documentPutsUptoRow.holds Try.pinned (OpenSpec.upto documentPutsSpec)

end Rows
end Go.Proofs.Ytcikciefaggckaa

/-
  No cell of these rows narrows 'for every input' (looked for: loops, veiled, ifaces, maps, wideKeys, modest, calm, conditions, laid).
  DERIVED. THE GIVEN ROWS OF THIS SEAT. 10 by the template 'for every input the law returns true; each argument reads behind the call as it read before'; 0 by the template 'total and deterministic' (their statements: YtbngokalmfodiaaTotals.lean).
  GIVEN WITH THE SEED: the statements are not yours to turn. If you find one false, say at which input.
  Laid BY PROGRAM, IN A SANDBOX (cutbox-rows.mjs): the forced cells as the released guide's own fill.sh prints them over the translation 1a6eb707e3e2a3d4… (all of the seat's roots in one cut). By AI agents, Wed Nov 11 2026. No macro, syntax, notation, axiom, sorry.
-/
import Derived.Test.YtbngokalmfodiaaChecked
import GoSem.Claim
import GoSem.ClaimJoined
import GoSem.ClaimMapViews
import Derived.JoinedTies
import Derived.KernelRfl
namespace Go.Proofs.Ytbngokalmfodiaa
/- THE CELL 'sum', in the pinned program and in every row, IS THE sha256 OF THE DUMP (.gsa) THAT YtbngokalmfodiaaProg.lean LOADS. Nothing in Lean hashes anything: it is a label: what it is worth is what the hold of that sum in a sandbox is worth. -/
noncomputable def Try.pinned : Pinned := { name := "ytbngokalmfodiaa", sum := "1a6eb707e3e2a3d4109d2e5a98813013e940cca6f3e06c3cbfe7b56bd083c8be", checked := Try.checked }
namespace Rows
def none {H : Type} : Left H := { results := [], args := [] }

/-- 'jetwaylaw02.FieldNumbers': WHATEVER THE INPUT: true; the input reads as it did. -/
def fieldNumbersSpec : ChangeSpec := { name := "fieldNumbers", fn := fun _ => fun
  | [d] => { results := [.lit (.bool true)], args := [d] }
  | _ => none }
def fieldNumbersRow : OpenClaim := { program := "ytbngokalmfodiaa", sum := "1a6eb707e3e2a3d4109d2e5a98813013e940cca6f3e06c3cbfe7b56bd083c8be", func := "jetway/jetwaylaw02.FieldNumbers", spec := "fieldNumbers", apart := false }
def FieldNumbersSaid : Prop := fieldNumbersRow.holds Try.pinned (OpenSpec.ofChange fieldNumbersSpec)

/-- ITS FALSE NEIGHBOUR: 'it returns false'. Refute it at one input. -/
def fieldNumbersWrong : ChangeSpec := { name := "fieldNumbers", fn := fun _ => fun
  | [d] => { results := [.lit (.bool false)], args := [d] }
  | _ => none }
def FieldNumbersWrongFalsely : Prop := fieldNumbersRow.holds Try.pinned (OpenSpec.ofChange fieldNumbersWrong)

/-- 'jetwaylaw02.FieldOrder': WHATEVER THE INPUT: true; the input reads as it did. -/
def fieldOrderSpec : ChangeSpec := { name := "fieldOrder", fn := fun _ => fun
  | [d1, d2] => { results := [.lit (.bool true)], args := [d1, d2] }
  | _ => none }
def fieldOrderRow : OpenClaim := { program := "ytbngokalmfodiaa", sum := "1a6eb707e3e2a3d4109d2e5a98813013e940cca6f3e06c3cbfe7b56bd083c8be", func := "jetway/jetwaylaw02.FieldOrder", spec := "fieldOrder", apart := false }
def FieldOrderSaid : Prop := fieldOrderRow.holds Try.pinned (OpenSpec.ofChange fieldOrderSpec)

/-- ITS FALSE NEIGHBOUR: 'it returns false'. Refute it at one input. -/
def fieldOrderWrong : ChangeSpec := { name := "fieldOrder", fn := fun _ => fun
  | [d1, d2] => { results := [.lit (.bool false)], args := [d1, d2] }
  | _ => none }
def FieldOrderWrongFalsely : Prop := fieldOrderRow.holds Try.pinned (OpenSpec.ofChange fieldOrderWrong)

/-- 'jetwaylaw02.FieldTexts': WHATEVER THE INPUT: true; the input reads as it did. -/
def fieldTextsSpec : ChangeSpec := { name := "fieldTexts", fn := fun _ => fun
  | [d] => { results := [.lit (.bool true)], args := [d] }
  | _ => none }
def fieldTextsRow : OpenClaim := { program := "ytbngokalmfodiaa", sum := "1a6eb707e3e2a3d4109d2e5a98813013e940cca6f3e06c3cbfe7b56bd083c8be", func := "jetway/jetwaylaw02.FieldTexts", spec := "fieldTexts", apart := false }
def FieldTextsSaid : Prop := fieldTextsRow.holds Try.pinned (OpenSpec.ofChange fieldTextsSpec)

/-- ITS FALSE NEIGHBOUR: 'it returns false'. Refute it at one input. -/
def fieldTextsWrong : ChangeSpec := { name := "fieldTexts", fn := fun _ => fun
  | [d] => { results := [.lit (.bool false)], args := [d] }
  | _ => none }
def FieldTextsWrongFalsely : Prop := fieldTextsRow.holds Try.pinned (OpenSpec.ofChange fieldTextsWrong)

/-- 'jetwaylaw02.FieldInts': WHATEVER THE INPUT: true; the input reads as it did. -/
def fieldIntsSpec : ChangeSpec := { name := "fieldInts", fn := fun _ => fun
  | [d] => { results := [.lit (.bool true)], args := [d] }
  | _ => none }
def fieldIntsRow : OpenClaim := { program := "ytbngokalmfodiaa", sum := "1a6eb707e3e2a3d4109d2e5a98813013e940cca6f3e06c3cbfe7b56bd083c8be", func := "jetway/jetwaylaw02.FieldInts", spec := "fieldInts", apart := false }
def FieldIntsSaid : Prop := fieldIntsRow.holds Try.pinned (OpenSpec.ofChange fieldIntsSpec)

/-- ITS FALSE NEIGHBOUR: 'it returns false'. Refute it at one input. -/
def fieldIntsWrong : ChangeSpec := { name := "fieldInts", fn := fun _ => fun
  | [d] => { results := [.lit (.bool false)], args := [d] }
  | _ => none }
def FieldIntsWrongFalsely : Prop := fieldIntsRow.holds Try.pinned (OpenSpec.ofChange fieldIntsWrong)

/-- 'jetwaylaw02.FieldApart': WHATEVER THE INPUT: true; the input reads as it did. -/
def fieldApartSpec : ChangeSpec := { name := "fieldApart", fn := fun _ => fun
  | [d1, d2] => { results := [.lit (.bool true)], args := [d1, d2] }
  | _ => none }
def fieldApartRow : OpenClaim := { program := "ytbngokalmfodiaa", sum := "1a6eb707e3e2a3d4109d2e5a98813013e940cca6f3e06c3cbfe7b56bd083c8be", func := "jetway/jetwaylaw02.FieldApart", spec := "fieldApart", apart := false }
def FieldApartSaid : Prop := fieldApartRow.holds Try.pinned (OpenSpec.ofChange fieldApartSpec)

/-- ITS FALSE NEIGHBOUR: 'it returns false'. Refute it at one input. -/
def fieldApartWrong : ChangeSpec := { name := "fieldApart", fn := fun _ => fun
  | [d1, d2] => { results := [.lit (.bool false)], args := [d1, d2] }
  | _ => none }
def FieldApartWrongFalsely : Prop := fieldApartRow.holds Try.pinned (OpenSpec.ofChange fieldApartWrong)

/-- 'jetwaylaw02.FieldReads': WHATEVER THE INPUT: true; the input reads as it did. -/
def fieldReadsSpec : ChangeSpec := { name := "fieldReads", fn := fun _ => fun
  | [d1, d2] => { results := [.lit (.bool true)], args := [d1, d2] }
  | _ => none }
def fieldReadsRow : OpenClaim := { program := "ytbngokalmfodiaa", sum := "1a6eb707e3e2a3d4109d2e5a98813013e940cca6f3e06c3cbfe7b56bd083c8be", func := "jetway/jetwaylaw02.FieldReads", spec := "fieldReads", unfollowed := true, recurses := true, apart := false }
def FieldReadsSaid : Prop := fieldReadsRow.holds Try.pinned (OpenSpec.ofChange fieldReadsSpec)

/-- ITS FALSE NEIGHBOUR: 'it returns false'. Refute it at one input. -/
def fieldReadsWrong : ChangeSpec := { name := "fieldReads", fn := fun _ => fun
  | [d1, d2] => { results := [.lit (.bool false)], args := [d1, d2] }
  | _ => none }
def FieldReadsWrongFalsely : Prop := fieldReadsRow.holds Try.pinned (OpenSpec.ofChange fieldReadsWrong)

/-- 'jetwaylaw02.FieldStays': WHATEVER THE INPUT: true; the input reads as it did. -/
def fieldStaysSpec : ChangeSpec := { name := "fieldStays", fn := fun _ => fun
  | [d1, d2] => { results := [.lit (.bool true)], args := [d1, d2] }
  | _ => none }
def fieldStaysRow : OpenClaim := { program := "ytbngokalmfodiaa", sum := "1a6eb707e3e2a3d4109d2e5a98813013e940cca6f3e06c3cbfe7b56bd083c8be", func := "jetway/jetwaylaw02.FieldStays", spec := "fieldStays", unfollowed := true, recurses := true, apart := false }
def FieldStaysSaid : Prop := fieldStaysRow.holds Try.pinned (OpenSpec.ofChange fieldStaysSpec)

/-- ITS FALSE NEIGHBOUR: 'it returns false'. Refute it at one input. -/
def fieldStaysWrong : ChangeSpec := { name := "fieldStays", fn := fun _ => fun
  | [d1, d2] => { results := [.lit (.bool false)], args := [d1, d2] }
  | _ => none }
def FieldStaysWrongFalsely : Prop := fieldStaysRow.holds Try.pinned (OpenSpec.ofChange fieldStaysWrong)

/-- 'jetwaylaw02.FieldList': WHATEVER THE INPUT: true; the input reads as it did. -/
def fieldListSpec : ChangeSpec := { name := "fieldList", fn := fun _ => fun
  | [d] => { results := [.lit (.bool true)], args := [d] }
  | _ => none }
def fieldListRow : OpenClaim := { program := "ytbngokalmfodiaa", sum := "1a6eb707e3e2a3d4109d2e5a98813013e940cca6f3e06c3cbfe7b56bd083c8be", func := "jetway/jetwaylaw02.FieldList", spec := "fieldList", unfollowed := true, recurses := true, apart := false }
def FieldListSaid : Prop := fieldListRow.holds Try.pinned (OpenSpec.ofChange fieldListSpec)

/-- ITS FALSE NEIGHBOUR: 'it returns false'. Refute it at one input. -/
def fieldListWrong : ChangeSpec := { name := "fieldList", fn := fun _ => fun
  | [d] => { results := [.lit (.bool false)], args := [d] }
  | _ => none }
def FieldListWrongFalsely : Prop := fieldListRow.holds Try.pinned (OpenSpec.ofChange fieldListWrong)

/-- 'jetwaylaw02.FieldAgain': WHATEVER THE INPUT: true; the input reads as it did. -/
def fieldAgainSpec : ChangeSpec := { name := "fieldAgain", fn := fun _ => fun
  | [d] => { results := [.lit (.bool true)], args := [d] }
  | _ => none }
def fieldAgainRow : OpenClaim := { program := "ytbngokalmfodiaa", sum := "1a6eb707e3e2a3d4109d2e5a98813013e940cca6f3e06c3cbfe7b56bd083c8be", func := "jetway/jetwaylaw02.FieldAgain", spec := "fieldAgain", unfollowed := true, recurses := true, apart := false }
def FieldAgainSaid : Prop := fieldAgainRow.holds Try.pinned (OpenSpec.ofChange fieldAgainSpec)

/-- ITS FALSE NEIGHBOUR: 'it returns false'. Refute it at one input. -/
def fieldAgainWrong : ChangeSpec := { name := "fieldAgain", fn := fun _ => fun
  | [d] => { results := [.lit (.bool false)], args := [d] }
  | _ => none }
def FieldAgainWrongFalsely : Prop := fieldAgainRow.holds Try.pinned (OpenSpec.ofChange fieldAgainWrong)

/-- 'jetwaylaw02.FieldBack': WHATEVER THE INPUT: true; the input reads as it did. -/
def fieldBackSpec : ChangeSpec := { name := "fieldBack", fn := fun _ => fun
  | [d1, d2, d3] => { results := [.lit (.bool true)], args := [d1, d2, d3] }
  | _ => none }
def fieldBackRow : OpenClaim := { program := "ytbngokalmfodiaa", sum := "1a6eb707e3e2a3d4109d2e5a98813013e940cca6f3e06c3cbfe7b56bd083c8be", func := "jetway/jetwaylaw02.FieldBack", spec := "fieldBack", unfollowed := true, recurses := true, apart := false }
def FieldBackSaid : Prop := fieldBackRow.holds Try.pinned (OpenSpec.ofChange fieldBackSpec)

/-- ITS FALSE NEIGHBOUR: 'it returns false'. Refute it at one input. -/
def fieldBackWrong : ChangeSpec := { name := "fieldBack", fn := fun _ => fun
  | [d1, d2, d3] => { results := [.lit (.bool false)], args := [d1, d2, d3] }
  | _ => none }
def FieldBackWrongFalsely : Prop := fieldBackRow.holds Try.pinned (OpenSpec.ofChange fieldBackWrong)

/- THE SECOND FORM. 'bulk': how many values and letters a reading holds, each counted each time it is reached (what is shared counts as often as it is met; a slice's spare places count too). A statement '..UptoSaid' is the law's where the arguments, and the package variables that the reading takes, are together of bulk at most 1048576: NARROWER than '..Said'. Prove '..Said' where nothing that the law and all that it calls make is longer than what came in: it says more and counts as full. Else prove '..UptoSaid'. A law counts once. -/
mutual
def uptoBulk {H : Type} : DataW H → Nat
  | .lit (.string bytes) => bytes.length + 1
  | .lit _ => 1
  | .nil => 1
  | .ptr d => uptoBulk d + 1
  | .slice elems spare => uptoBulkAll elems + uptoBulkAll spare + 1
  | .agg parts => uptoBulkAll parts + 1
  | .iface _ d => uptoBulk d + 1
  | .map entries => uptoBulkEntries entries + 1
  | .held _ => 1
def uptoBulkAll {H : Type} : List (DataW H) → Nat
  | [] => 0
  | d :: r => uptoBulk d + uptoBulkAll r
def uptoBulkEntries {H : Type} : List (Lit × DataW H) → Nat
  | [] => 0
  | x :: r => uptoBulkEntry x + uptoBulkEntries r
def uptoBulkEntry {H : Type} : Lit × DataW H → Nat
  | (.string bytes, d) => bytes.length + uptoBulk d + 1
  | (_, d) => uptoBulk d + 1
 end
def uptoSmall : (H : Type) → List (DataW H) → Bool := fun _ ds => decide (uptoBulkAll ds ≤ 1048576)
def OpenSpec.upto (s : _root_.Go.ChangeSpec) : _root_.Go.OpenSpec := { _root_.Go.OpenSpec.ofChange s with cond := some uptoSmall }

/-- 'jetwaylaw02.FieldNumbers', WHERE WHAT IT READS IS OF BULK AT MOST 1048576: true; the input reads as it did. -/
def fieldNumbersUptoRow : OpenClaim := { program := "ytbngokalmfodiaa", sum := "1a6eb707e3e2a3d4109d2e5a98813013e940cca6f3e06c3cbfe7b56bd083c8be", func := "jetway/jetwaylaw02.FieldNumbers", spec := "fieldNumbers", apart := false, narrowed := true }
def FieldNumbersUptoSaid : Prop := fieldNumbersUptoRow.holds Try.pinned (OpenSpec.upto fieldNumbersSpec)

/-- 'jetwaylaw02.FieldOrder', WHERE WHAT IT READS IS OF BULK AT MOST 1048576: true; the input reads as it did. -/
def fieldOrderUptoRow : OpenClaim := { program := "ytbngokalmfodiaa", sum := "1a6eb707e3e2a3d4109d2e5a98813013e940cca6f3e06c3cbfe7b56bd083c8be", func := "jetway/jetwaylaw02.FieldOrder", spec := "fieldOrder", apart := false, narrowed := true }
def FieldOrderUptoSaid : Prop := fieldOrderUptoRow.holds Try.pinned (OpenSpec.upto fieldOrderSpec)

/-- 'jetwaylaw02.FieldTexts', WHERE WHAT IT READS IS OF BULK AT MOST 1048576: true; the input reads as it did. -/
def fieldTextsUptoRow : OpenClaim := { program := "ytbngokalmfodiaa", sum := "1a6eb707e3e2a3d4109d2e5a98813013e940cca6f3e06c3cbfe7b56bd083c8be", func := "jetway/jetwaylaw02.FieldTexts", spec := "fieldTexts", apart := false, narrowed := true }
def FieldTextsUptoSaid : Prop := fieldTextsUptoRow.holds Try.pinned (OpenSpec.upto fieldTextsSpec)

/-- 'jetwaylaw02.FieldInts', WHERE WHAT IT READS IS OF BULK AT MOST 1048576: true; the input reads as it did. -/
def fieldIntsUptoRow : OpenClaim := { program := "ytbngokalmfodiaa", sum := "1a6eb707e3e2a3d4109d2e5a98813013e940cca6f3e06c3cbfe7b56bd083c8be", func := "jetway/jetwaylaw02.FieldInts", spec := "fieldInts", apart := false, narrowed := true }
def FieldIntsUptoSaid : Prop := fieldIntsUptoRow.holds Try.pinned (OpenSpec.upto fieldIntsSpec)

/-- 'jetwaylaw02.FieldApart', WHERE WHAT IT READS IS OF BULK AT MOST 1048576: true; the input reads as it did. -/
def fieldApartUptoRow : OpenClaim := { program := "ytbngokalmfodiaa", sum := "1a6eb707e3e2a3d4109d2e5a98813013e940cca6f3e06c3cbfe7b56bd083c8be", func := "jetway/jetwaylaw02.FieldApart", spec := "fieldApart", apart := false, narrowed := true }
def FieldApartUptoSaid : Prop := fieldApartUptoRow.holds Try.pinned (OpenSpec.upto fieldApartSpec)

/-- 'jetwaylaw02.FieldReads', WHERE WHAT IT READS IS OF BULK AT MOST 1048576: true; the input reads as it did. -/
def fieldReadsUptoRow : OpenClaim := { program := "ytbngokalmfodiaa", sum := "1a6eb707e3e2a3d4109d2e5a98813013e940cca6f3e06c3cbfe7b56bd083c8be", func := "jetway/jetwaylaw02.FieldReads", spec := "fieldReads", unfollowed := true, recurses := true, apart := false, narrowed := true }
def FieldReadsUptoSaid : Prop := fieldReadsUptoRow.holds Try.pinned (OpenSpec.upto fieldReadsSpec)

/-- 'jetwaylaw02.FieldStays', WHERE WHAT IT READS IS OF BULK AT MOST 1048576: true; the input reads as it did. -/
def fieldStaysUptoRow : OpenClaim := { program := "ytbngokalmfodiaa", sum := "1a6eb707e3e2a3d4109d2e5a98813013e940cca6f3e06c3cbfe7b56bd083c8be", func := "jetway/jetwaylaw02.FieldStays", spec := "fieldStays", unfollowed := true, recurses := true, apart := false, narrowed := true }
def FieldStaysUptoSaid : Prop := fieldStaysUptoRow.holds Try.pinned (OpenSpec.upto fieldStaysSpec)

/-- 'jetwaylaw02.FieldList', WHERE WHAT IT READS IS OF BULK AT MOST 1048576: true; the input reads as it did. -/
def fieldListUptoRow : OpenClaim := { program := "ytbngokalmfodiaa", sum := "1a6eb707e3e2a3d4109d2e5a98813013e940cca6f3e06c3cbfe7b56bd083c8be", func := "jetway/jetwaylaw02.FieldList", spec := "fieldList", unfollowed := true, recurses := true, apart := false, narrowed := true }
def FieldListUptoSaid : Prop := fieldListUptoRow.holds Try.pinned (OpenSpec.upto fieldListSpec)

/-- 'jetwaylaw02.FieldAgain', WHERE WHAT IT READS IS OF BULK AT MOST 1048576: true; the input reads as it did. -/
def fieldAgainUptoRow : OpenClaim := { program := "ytbngokalmfodiaa", sum := "1a6eb707e3e2a3d4109d2e5a98813013e940cca6f3e06c3cbfe7b56bd083c8be", func := "jetway/jetwaylaw02.FieldAgain", spec := "fieldAgain", unfollowed := true, recurses := true, apart := false, narrowed := true }
def FieldAgainUptoSaid : Prop := fieldAgainUptoRow.holds Try.pinned (OpenSpec.upto fieldAgainSpec)

/-- 'jetwaylaw02.FieldBack', WHERE WHAT IT READS IS OF BULK AT MOST 1048576: true; the input reads as it did. -/
def fieldBackUptoRow : OpenClaim := { program := "ytbngokalmfodiaa", sum := "1a6eb707e3e2a3d4109d2e5a98813013e940cca6f3e06c3cbfe7b56bd083c8be", func := "jetway/jetwaylaw02.FieldBack", spec := "fieldBack", unfollowed := true, recurses := true, apart := false, narrowed := true }
def FieldBackUptoSaid : Prop := fieldBackUptoRow.holds Try.pinned (OpenSpec.upto fieldBackSpec)

end Rows
end Go.Proofs.Ytbngokalmfodiaa

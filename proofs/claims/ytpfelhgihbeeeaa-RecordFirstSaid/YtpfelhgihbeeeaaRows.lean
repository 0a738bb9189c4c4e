/-
  No cell of these rows narrows 'for every input' (looked for: loops, veiled, ifaces, maps, wideKeys, modest, calm, conditions, laid).
  DERIVED. THE GIVEN ROWS OF THIS SEAT. 7 by the template 'for every input the law returns true; each argument reads behind the call as it read before'; 0 by the template 'total and deterministic' (their statements: YtpfelhgihbeeeaaTotals.lean).
  GIVEN WITH THE SEED: the statements are not yours to turn. If you find one false, say at which input.
  Laid BY PROGRAM, IN A SANDBOX (cutbox-rows.mjs): the forced cells as the released guide's own fill.sh prints them over the translation 3caf2e06b2e3ab70… (all of the seat's roots in one cut). By AI agents, Wed Nov 11 2026. No macro, syntax, notation, axiom, sorry.
-/
import Derived.Test.YtpfelhgihbeeeaaChecked
import GoSem.Claim
import GoSem.ClaimJoined
import GoSem.ClaimMapViews
import Derived.JoinedTies
import Derived.KernelRfl
namespace Go.Proofs.Ytpfelhgihbeeeaa
/- THE CELL 'sum', in the pinned program and in every row, IS THE sha256 OF THE DUMP (.gsa) THAT YtpfelhgihbeeeaaProg.lean LOADS. Nothing in Lean hashes anything: it is a label: what it is worth is what the hold of that sum in a sandbox is worth. -/
noncomputable def Try.pinned : Pinned := { name := "ytpfelhgihbeeeaa", sum := "3caf2e06b2e3ab709e55c0182cde31dc81f9184d7408871d47cf0ee6f80be31f", checked := Try.checked }
namespace Rows
def none {H : Type} : Left H := { results := [], args := [] }

/-- 'jetwaylaw05.RecordPuts': WHATEVER THE INPUT: true; the input reads as it did. -/
def recordPutsSpec : ChangeSpec := { name := "recordPuts", fn := fun _ => fun
  | [d] => { results := [.lit (.bool true)], args := [d] }
  | _ => none }
def recordPutsRow : OpenClaim := { program := "ytpfelhgihbeeeaa", sum := "3caf2e06b2e3ab709e55c0182cde31dc81f9184d7408871d47cf0ee6f80be31f", func := "jetway/jetwaylaw05.RecordPuts", spec := "recordPuts", apart := false }
def RecordPutsSaid : Prop := recordPutsRow.holds Try.pinned (OpenSpec.ofChange recordPutsSpec)

/-- ITS FALSE NEIGHBOUR: 'it returns false'. Refute it at one input. -/
def recordPutsWrong : ChangeSpec := { name := "recordPuts", fn := fun _ => fun
  | [d] => { results := [.lit (.bool false)], args := [d] }
  | _ => none }
def RecordPutsWrongFalsely : Prop := recordPutsRow.holds Try.pinned (OpenSpec.ofChange recordPutsWrong)

/-- 'jetwaylaw05.RecordSizes': WHATEVER THE INPUT: true; the input reads as it did. -/
def recordSizesSpec : ChangeSpec := { name := "recordSizes", fn := fun _ => fun
  | [d] => { results := [.lit (.bool true)], args := [d] }
  | _ => none }
def recordSizesRow : OpenClaim := { program := "ytpfelhgihbeeeaa", sum := "3caf2e06b2e3ab709e55c0182cde31dc81f9184d7408871d47cf0ee6f80be31f", func := "jetway/jetwaylaw05.RecordSizes", spec := "recordSizes", apart := false }
def RecordSizesSaid : Prop := recordSizesRow.holds Try.pinned (OpenSpec.ofChange recordSizesSpec)

/-- ITS FALSE NEIGHBOUR: 'it returns false'. Refute it at one input. -/
def recordSizesWrong : ChangeSpec := { name := "recordSizes", fn := fun _ => fun
  | [d] => { results := [.lit (.bool false)], args := [d] }
  | _ => none }
def RecordSizesWrongFalsely : Prop := recordSizesRow.holds Try.pinned (OpenSpec.ofChange recordSizesWrong)

/-- 'jetwaylaw05.RecordScans': WHATEVER THE INPUT: true; the input reads as it did. -/
def recordScansSpec : ChangeSpec := { name := "recordScans", fn := fun _ => fun
  | [d] => { results := [.lit (.bool true)], args := [d] }
  | _ => none }
def recordScansRow : OpenClaim := { program := "ytpfelhgihbeeeaa", sum := "3caf2e06b2e3ab709e55c0182cde31dc81f9184d7408871d47cf0ee6f80be31f", func := "jetway/jetwaylaw05.RecordScans", spec := "recordScans", unfollowed := true, recurses := true, apart := false }
def RecordScansSaid : Prop := recordScansRow.holds Try.pinned (OpenSpec.ofChange recordScansSpec)

/-- ITS FALSE NEIGHBOUR: 'it returns false'. Refute it at one input. -/
def recordScansWrong : ChangeSpec := { name := "recordScans", fn := fun _ => fun
  | [d] => { results := [.lit (.bool false)], args := [d] }
  | _ => none }
def RecordScansWrongFalsely : Prop := recordScansRow.holds Try.pinned (OpenSpec.ofChange recordScansWrong)

/-- 'jetwaylaw05.RecordCut': WHATEVER THE INPUT: true; the input reads as it did. -/
def recordCutSpec : ChangeSpec := { name := "recordCut", fn := fun _ => fun
  | [d1, d2] => { results := [.lit (.bool true)], args := [d1, d2] }
  | _ => none }
def recordCutRow : OpenClaim := { program := "ytpfelhgihbeeeaa", sum := "3caf2e06b2e3ab709e55c0182cde31dc81f9184d7408871d47cf0ee6f80be31f", func := "jetway/jetwaylaw05.RecordCut", spec := "recordCut", unfollowed := true, recurses := true, apart := false }
def RecordCutSaid : Prop := recordCutRow.holds Try.pinned (OpenSpec.ofChange recordCutSpec)

/-- ITS FALSE NEIGHBOUR: 'it returns false'. Refute it at one input. -/
def recordCutWrong : ChangeSpec := { name := "recordCut", fn := fun _ => fun
  | [d1, d2] => { results := [.lit (.bool false)], args := [d1, d2] }
  | _ => none }
def RecordCutWrongFalsely : Prop := recordCutRow.holds Try.pinned (OpenSpec.ofChange recordCutWrong)

/-- 'jetwaylaw05.RecordTurned': WHATEVER THE INPUT: true; the input reads as it did. -/
def recordTurnedSpec : ChangeSpec := { name := "recordTurned", fn := fun _ => fun
  | [d1, d2, d3] => { results := [.lit (.bool true)], args := [d1, d2, d3] }
  | _ => none }
def recordTurnedRow : OpenClaim := { program := "ytpfelhgihbeeeaa", sum := "3caf2e06b2e3ab709e55c0182cde31dc81f9184d7408871d47cf0ee6f80be31f", func := "jetway/jetwaylaw05.RecordTurned", spec := "recordTurned", unfollowed := true, recurses := true, apart := false }
def RecordTurnedSaid : Prop := recordTurnedRow.holds Try.pinned (OpenSpec.ofChange recordTurnedSpec)

/-- ITS FALSE NEIGHBOUR: 'it returns false'. Refute it at one input. -/
def recordTurnedWrong : ChangeSpec := { name := "recordTurned", fn := fun _ => fun
  | [d1, d2, d3] => { results := [.lit (.bool false)], args := [d1, d2, d3] }
  | _ => none }
def RecordTurnedWrongFalsely : Prop := recordTurnedRow.holds Try.pinned (OpenSpec.ofChange recordTurnedWrong)

/-- 'jetwaylaw05.RecordAgain': WHATEVER THE INPUT: true; the input reads as it did. -/
def recordAgainSpec : ChangeSpec := { name := "recordAgain", fn := fun _ => fun
  | [d] => { results := [.lit (.bool true)], args := [d] }
  | _ => none }
def recordAgainRow : OpenClaim := { program := "ytpfelhgihbeeeaa", sum := "3caf2e06b2e3ab709e55c0182cde31dc81f9184d7408871d47cf0ee6f80be31f", func := "jetway/jetwaylaw05.RecordAgain", spec := "recordAgain", unfollowed := true, recurses := true, apart := false }
def RecordAgainSaid : Prop := recordAgainRow.holds Try.pinned (OpenSpec.ofChange recordAgainSpec)

/-- ITS FALSE NEIGHBOUR: 'it returns false'. Refute it at one input. -/
def recordAgainWrong : ChangeSpec := { name := "recordAgain", fn := fun _ => fun
  | [d] => { results := [.lit (.bool false)], args := [d] }
  | _ => none }
def RecordAgainWrongFalsely : Prop := recordAgainRow.holds Try.pinned (OpenSpec.ofChange recordAgainWrong)

/-- 'jetwaylaw05.RecordFirst': WHATEVER THE INPUT: true; the input reads as it did. -/
def recordFirstSpec : ChangeSpec := { name := "recordFirst", fn := fun _ => fun
  | [d1, d2] => { results := [.lit (.bool true)], args := [d1, d2] }
  | _ => none }
def recordFirstRow : OpenClaim := { program := "ytpfelhgihbeeeaa", sum := "3caf2e06b2e3ab709e55c0182cde31dc81f9184d7408871d47cf0ee6f80be31f", func := "jetway/jetwaylaw05.RecordFirst", spec := "recordFirst", unfollowed := true, recurses := true, apart := false }
def RecordFirstSaid : Prop := recordFirstRow.holds Try.pinned (OpenSpec.ofChange recordFirstSpec)

/-- ITS FALSE NEIGHBOUR: 'it returns false'. Refute it at one input. -/
def recordFirstWrong : ChangeSpec := { name := "recordFirst", fn := fun _ => fun
  | [d1, d2] => { results := [.lit (.bool false)], args := [d1, d2] }
  | _ => none }
def RecordFirstWrongFalsely : Prop := recordFirstRow.holds Try.pinned (OpenSpec.ofChange recordFirstWrong)

/- THE SECOND FORM. 'bulk': how many values and letters a reading holds, each counted each time it is reached (what is shared counts as often as it is met; a slice's spare places count too). A statement '..UptoSaid' is the law's where the arguments, and the package variables that the reading takes, are together of bulk at most 1048576: NARROWER than '..Said'. Prove '..Said' where nothing that the law and all that it calls make is longer than what came in: it says more and counts as full. Else prove '..UptoSaid'. A law counts once. -/
mutual
def uptoBulk {H : Type} : DataW H → Nat
  | .lit (.string bytes) => bytes.length + 1
  | .lit _ => 1
  | .nil => 1
  | .ptr d => uptoBulk d + 1
  | .slice elems spare => uptoBulkAll elems + uptoBulkAll spare + 1
  | .agg parts => uptoBulkAll parts + 1
  | .iface _ d => uptoBulk d + 1
  | .map entries => uptoBulkEntries entries + 1
  | .held _ => 1
def uptoBulkAll {H : Type} : List (DataW H) → Nat
  | [] => 0
  | d :: r => uptoBulk d + uptoBulkAll r
def uptoBulkEntries {H : Type} : List (Lit × DataW H) → Nat
  | [] => 0
  | x :: r => uptoBulkEntry x + uptoBulkEntries r
def uptoBulkEntry {H : Type} : Lit × DataW H → Nat
  | (.string bytes, d) => bytes.length + uptoBulk d + 1
  | (_, d) => uptoBulk d + 1
 end
def uptoSmall : (H : Type) → List (DataW H) → Bool := fun _ ds => decide (uptoBulkAll ds ≤ 1048576)
def OpenSpec.upto (s : _root_.Go.ChangeSpec) : _root_.Go.OpenSpec := { _root_.Go.OpenSpec.ofChange s with cond := some uptoSmall }

/-- 'jetwaylaw05.RecordPuts', WHERE WHAT IT READS IS OF BULK AT MOST 1048576: true; the input reads as it did. -/
def recordPutsUptoRow : OpenClaim := { program := "ytpfelhgihbeeeaa", sum := "3caf2e06b2e3ab709e55c0182cde31dc81f9184d7408871d47cf0ee6f80be31f", func := "jetway/jetwaylaw05.RecordPuts", spec := "recordPuts", apart := false, narrowed := true }
def RecordPutsUptoSaid : Prop := recordPutsUptoRow.holds Try.pinned (OpenSpec.upto recordPutsSpec)

/-- 'jetwaylaw05.RecordSizes', WHERE WHAT IT READS IS OF BULK AT MOST 1048576: true; the input reads as it did. -/
def recordSizesUptoRow : OpenClaim := { program := "ytpfelhgihbeeeaa", sum := "3caf2e06b2e3ab709e55c0182cde31dc81f9184d7408871d47cf0ee6f80be31f", func := "jetway/jetwaylaw05.RecordSizes", spec := "recordSizes", apart := false, narrowed := true }
def RecordSizesUptoSaid : Prop := recordSizesUptoRow.holds Try.pinned (OpenSpec.upto recordSizesSpec)

/-- 'jetwaylaw05.RecordScans', WHERE WHAT IT READS IS OF BULK AT MOST 1048576: true; the input reads as it did. -/
def recordScansUptoRow : OpenClaim := { program := "ytpfelhgihbeeeaa", sum := "3caf2e06b2e3ab709e55c0182cde31dc81f9184d7408871d47cf0ee6f80be31f", func := "jetway/jetwaylaw05.RecordScans", spec := "recordScans", unfollowed := true, recurses := true, apart := false, narrowed := true }
def RecordScansUptoSaid : Prop := recordScansUptoRow.holds Try.pinned (OpenSpec.upto recordScansSpec)

/-- 'jetwaylaw05.RecordCut', WHERE WHAT IT READS IS OF BULK AT MOST 1048576: true; the input reads as it did. -/
def recordCutUptoRow : OpenClaim := { program := "ytpfelhgihbeeeaa", sum := "3caf2e06b2e3ab709e55c0182cde31dc81f9184d7408871d47cf0ee6f80be31f", func := "jetway/jetwaylaw05.RecordCut", spec := "recordCut", unfollowed := true, recurses := true, apart := false, narrowed := true }
def RecordCutUptoSaid : Prop := recordCutUptoRow.holds Try.pinned (OpenSpec.upto recordCutSpec)

/-- 'jetwaylaw05.RecordTurned', WHERE WHAT IT READS IS OF BULK AT MOST 1048576: true; the input reads as it did. -/
def recordTurnedUptoRow : OpenClaim := { program := "ytpfelhgihbeeeaa", sum := "3caf2e06b2e3ab709e55c0182cde31dc81f9184d7408871d47cf0ee6f80be31f", func := "jetway/jetwaylaw05.RecordTurned", spec := "recordTurned", unfollowed := true, recurses := true, apart := false, narrowed := true }
def RecordTurnedUptoSaid : Prop := recordTurnedUptoRow.holds Try.pinned (OpenSpec.upto recordTurnedSpec)

/-- 'jetwaylaw05.RecordAgain', WHERE WHAT IT READS IS OF BULK AT MOST 1048576: true; the input reads as it did. -/
def recordAgainUptoRow : OpenClaim := { program := "ytpfelhgihbeeeaa", sum := "3caf2e06b2e3ab709e55c0182cde31dc81f9184d7408871d47cf0ee6f80be31f", func := "jetway/jetwaylaw05.RecordAgain", spec := "recordAgain", unfollowed := true, recurses := true, apart := false, narrowed := true }
def RecordAgainUptoSaid : Prop := recordAgainUptoRow.holds Try.pinned (OpenSpec.upto recordAgainSpec)

/-- 'jetwaylaw05.RecordFirst', WHERE WHAT IT READS IS OF BULK AT MOST 1048576: true; the input reads as it did. -/
def recordFirstUptoRow : OpenClaim := { program := "ytpfelhgihbeeeaa", sum := "3caf2e06b2e3ab709e55c0182cde31dc81f9184d7408871d47cf0ee6f80be31f", func := "jetway/jetwaylaw05.RecordFirst", spec := "recordFirst", unfollowed := true, recurses := true, apart := false, narrowed := true }
def RecordFirstUptoSaid : Prop := recordFirstUptoRow.holds Try.pinned (OpenSpec.upto recordFirstSpec)

end Rows
end Go.Proofs.Ytpfelhgihbeeeaa

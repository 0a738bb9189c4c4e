/-
  No cell of these rows narrows 'for every input' (looked for: loops, veiled, ifaces, maps, wideKeys, modest, calm, conditions, laid).
  DERIVED. THE GIVEN ROWS OF THIS SEAT. 9 by the template 'for every input the law returns true; each argument reads behind the call as it read before'; 0 by the template 'total and deterministic' (their statements: YthbjgeemenenhaaTotals.lean).
  GIVEN WITH THE SEED: the statements are not yours to turn. If you find one false, say at which input.
  Laid BY PROGRAM, IN A SANDBOX (cutbox-rows.mjs): the forced cells as the released guide's own fill.sh prints them over the translation f54e4ab8d50540d6… (all of the seat's roots in one cut). By AI agents, Wed Nov 11 2026. No macro, syntax, notation, axiom, sorry.
-/
import Derived.Test.YthbjgeemenenhaaChecked
import GoSem.Claim
import GoSem.ClaimJoined
import GoSem.ClaimMapViews
import Derived.JoinedTies
import Derived.KernelRfl
namespace Go.Proofs.Ythbjgeemenenhaa
/- THE CELL 'sum', in the pinned program and in every row, IS THE sha256 OF THE DUMP (.gsa) THAT YthbjgeemenenhaaProg.lean LOADS. Nothing in Lean hashes anything: it is a label: what it is worth is what the hold of that sum in a sandbox is worth. -/
noncomputable def Try.pinned : Pinned := { name := "ythbjgeemenenhaa", sum := "f54e4ab8d50540d6066af25acebce480199e3ffb5bc975d493f34514185351ed", checked := Try.checked }
namespace Rows
def none {H : Type} : Left H := { results := [], args := [] }

/-- 'jetwaylaw03.FareSums': WHATEVER THE INPUT: true; the input reads as it did. -/
def fareSumsSpec : ChangeSpec := { name := "fareSums", fn := fun _ => fun
  | [d] => { results := [.lit (.bool true)], args := [d] }
  | _ => none }
def fareSumsRow : OpenClaim := { program := "ythbjgeemenenhaa", sum := "f54e4ab8d50540d6066af25acebce480199e3ffb5bc975d493f34514185351ed", func := "jetway/jetwaylaw03.FareSums", spec := "fareSums", inPlace := ["math.Float64bits"], apart := false }
def FareSumsSaid : Prop := fareSumsRow.holds Try.pinned (OpenSpec.ofChange fareSumsSpec)

/-- ITS FALSE NEIGHBOUR: 'it returns false'. Refute it at one input. -/
def fareSumsWrong : ChangeSpec := { name := "fareSums", fn := fun _ => fun
  | [d] => { results := [.lit (.bool false)], args := [d] }
  | _ => none }
def FareSumsWrongFalsely : Prop := fareSumsRow.holds Try.pinned (OpenSpec.ofChange fareSumsWrong)

/-- 'jetwaylaw03.FareKeys': WHATEVER THE INPUT: true; the input reads as it did. -/
def fareKeysSpec : ChangeSpec := { name := "fareKeys", fn := fun _ => fun
  | [d1, d2] => { results := [.lit (.bool true)], args := [d1, d2] }
  | _ => none }
def fareKeysRow : OpenClaim := { program := "ythbjgeemenenhaa", sum := "f54e4ab8d50540d6066af25acebce480199e3ffb5bc975d493f34514185351ed", func := "jetway/jetwaylaw03.FareKeys", spec := "fareKeys", inPlace := ["math.Float64bits", "math.Float64frombits"], apart := false }
def FareKeysSaid : Prop := fareKeysRow.holds Try.pinned (OpenSpec.ofChange fareKeysSpec)

/-- ITS FALSE NEIGHBOUR: 'it returns false'. Refute it at one input. -/
def fareKeysWrong : ChangeSpec := { name := "fareKeys", fn := fun _ => fun
  | [d1, d2] => { results := [.lit (.bool false)], args := [d1, d2] }
  | _ => none }
def FareKeysWrongFalsely : Prop := fareKeysRow.holds Try.pinned (OpenSpec.ofChange fareKeysWrong)

/-- 'jetwaylaw03.FareRanks': WHATEVER THE INPUT: true; the input reads as it did. -/
def fareRanksSpec : ChangeSpec := { name := "fareRanks", fn := fun _ => fun
  | [d1, d2, d3] => { results := [.lit (.bool true)], args := [d1, d2, d3] }
  | _ => none }
def fareRanksRow : OpenClaim := { program := "ythbjgeemenenhaa", sum := "f54e4ab8d50540d6066af25acebce480199e3ffb5bc975d493f34514185351ed", func := "jetway/jetwaylaw03.FareRanks", spec := "fareRanks", apart := false }
def FareRanksSaid : Prop := fareRanksRow.holds Try.pinned (OpenSpec.ofChange fareRanksSpec)

/-- ITS FALSE NEIGHBOUR: 'it returns false'. Refute it at one input. -/
def fareRanksWrong : ChangeSpec := { name := "fareRanks", fn := fun _ => fun
  | [d1, d2, d3] => { results := [.lit (.bool false)], args := [d1, d2, d3] }
  | _ => none }
def FareRanksWrongFalsely : Prop := fareRanksRow.holds Try.pinned (OpenSpec.ofChange fareRanksWrong)

/-- 'jetwaylaw03.FareOrders': WHATEVER THE INPUT: true; the input reads as it did. -/
def fareOrdersSpec : ChangeSpec := { name := "fareOrders", fn := fun _ => fun
  | [d1, d2] => { results := [.lit (.bool true)], args := [d1, d2] }
  | _ => none }
def fareOrdersRow : OpenClaim := { program := "ythbjgeemenenhaa", sum := "f54e4ab8d50540d6066af25acebce480199e3ffb5bc975d493f34514185351ed", func := "jetway/jetwaylaw03.FareOrders", spec := "fareOrders", inPlace := ["math.Float64bits"], apart := false }
def FareOrdersSaid : Prop := fareOrdersRow.holds Try.pinned (OpenSpec.ofChange fareOrdersSpec)

/-- ITS FALSE NEIGHBOUR: 'it returns false'. Refute it at one input. -/
def fareOrdersWrong : ChangeSpec := { name := "fareOrders", fn := fun _ => fun
  | [d1, d2] => { results := [.lit (.bool false)], args := [d1, d2] }
  | _ => none }
def FareOrdersWrongFalsely : Prop := fareOrdersRow.holds Try.pinned (OpenSpec.ofChange fareOrdersWrong)

/-- 'jetwaylaw03.FareOne': WHATEVER THE INPUT: true; the input reads as it did. -/
def fareOneSpec : ChangeSpec := { name := "fareOne", fn := fun _ => fun
  | [d1, d2, d3] => { results := [.lit (.bool true)], args := [d1, d2, d3] }
  | _ => none }
def fareOneRow : OpenClaim := { program := "ythbjgeemenenhaa", sum := "f54e4ab8d50540d6066af25acebce480199e3ffb5bc975d493f34514185351ed", func := "jetway/jetwaylaw03.FareOne", spec := "fareOne", inPlace := ["math.Float64bits"], apart := false }
def FareOneSaid : Prop := fareOneRow.holds Try.pinned (OpenSpec.ofChange fareOneSpec)

/-- ITS FALSE NEIGHBOUR: 'it returns false'. Refute it at one input. -/
def fareOneWrong : ChangeSpec := { name := "fareOne", fn := fun _ => fun
  | [d1, d2, d3] => { results := [.lit (.bool false)], args := [d1, d2, d3] }
  | _ => none }
def FareOneWrongFalsely : Prop := fareOneRow.holds Try.pinned (OpenSpec.ofChange fareOneWrong)

/-- 'jetwaylaw03.FareBack': WHATEVER THE INPUT: true; the input reads as it did. -/
def fareBackSpec : ChangeSpec := { name := "fareBack", fn := fun _ => fun
  | [d1, d2] => { results := [.lit (.bool true)], args := [d1, d2] }
  | _ => none }
def fareBackRow : OpenClaim := { program := "ythbjgeemenenhaa", sum := "f54e4ab8d50540d6066af25acebce480199e3ffb5bc975d493f34514185351ed", func := "jetway/jetwaylaw03.FareBack", spec := "fareBack", inPlace := ["math.Float64frombits", "math.Float64bits"], apart := false }
def FareBackSaid : Prop := fareBackRow.holds Try.pinned (OpenSpec.ofChange fareBackSpec)

/-- ITS FALSE NEIGHBOUR: 'it returns false'. Refute it at one input. -/
def fareBackWrong : ChangeSpec := { name := "fareBack", fn := fun _ => fun
  | [d1, d2] => { results := [.lit (.bool false)], args := [d1, d2] }
  | _ => none }
def FareBackWrongFalsely : Prop := fareBackRow.holds Try.pinned (OpenSpec.ofChange fareBackWrong)

/-- 'jetwaylaw03.FareNext': WHATEVER THE INPUT: true; the input reads as it did. -/
def fareNextSpec : ChangeSpec := { name := "fareNext", fn := fun _ => fun
  | [d] => { results := [.lit (.bool true)], args := [d] }
  | _ => none }
def fareNextRow : OpenClaim := { program := "ythbjgeemenenhaa", sum := "f54e4ab8d50540d6066af25acebce480199e3ffb5bc975d493f34514185351ed", func := "jetway/jetwaylaw03.FareNext", spec := "fareNext", inPlace := ["math.Float64bits", "math.Float64frombits"], apart := false }
def FareNextSaid : Prop := fareNextRow.holds Try.pinned (OpenSpec.ofChange fareNextSpec)

/-- ITS FALSE NEIGHBOUR: 'it returns false'. Refute it at one input. -/
def fareNextWrong : ChangeSpec := { name := "fareNext", fn := fun _ => fun
  | [d] => { results := [.lit (.bool false)], args := [d] }
  | _ => none }
def FareNextWrongFalsely : Prop := fareNextRow.holds Try.pinned (OpenSpec.ofChange fareNextWrong)

/-- 'jetwaylaw03.FareLevels': WHATEVER THE INPUT: true; the input reads as it did. -/
def fareLevelsSpec : ChangeSpec := { name := "fareLevels", fn := fun _ => fun
  | [d1, d2] => { results := [.lit (.bool true)], args := [d1, d2] }
  | _ => none }
def fareLevelsRow : OpenClaim := { program := "ythbjgeemenenhaa", sum := "f54e4ab8d50540d6066af25acebce480199e3ffb5bc975d493f34514185351ed", func := "jetway/jetwaylaw03.FareLevels", spec := "fareLevels", inPlace := ["math.archFloor", "math.Float64bits", "math.Float64frombits", "math.archTrunc"], apart := false }
def FareLevelsSaid : Prop := fareLevelsRow.holds Try.pinned (OpenSpec.ofChange fareLevelsSpec)

/-- ITS FALSE NEIGHBOUR: 'it returns false'. Refute it at one input. -/
def fareLevelsWrong : ChangeSpec := { name := "fareLevels", fn := fun _ => fun
  | [d1, d2] => { results := [.lit (.bool false)], args := [d1, d2] }
  | _ => none }
def FareLevelsWrongFalsely : Prop := fareLevelsRow.holds Try.pinned (OpenSpec.ofChange fareLevelsWrong)

/-- 'jetwaylaw03.FareRises': WHATEVER THE INPUT: true; the input reads as it did. -/
def fareRisesSpec : ChangeSpec := { name := "fareRises", fn := fun _ => fun
  | [d1, d2, d3] => { results := [.lit (.bool true)], args := [d1, d2, d3] }
  | _ => none }
def fareRisesRow : OpenClaim := { program := "ythbjgeemenenhaa", sum := "f54e4ab8d50540d6066af25acebce480199e3ffb5bc975d493f34514185351ed", func := "jetway/jetwaylaw03.FareRises", spec := "fareRises", inPlace := ["math.archFloor", "math.Float64bits", "math.Float64frombits", "math.archTrunc"], apart := false }
def FareRisesSaid : Prop := fareRisesRow.holds Try.pinned (OpenSpec.ofChange fareRisesSpec)

/-- ITS FALSE NEIGHBOUR: 'it returns false'. Refute it at one input. -/
def fareRisesWrong : ChangeSpec := { name := "fareRises", fn := fun _ => fun
  | [d1, d2, d3] => { results := [.lit (.bool false)], args := [d1, d2, d3] }
  | _ => none }
def FareRisesWrongFalsely : Prop := fareRisesRow.holds Try.pinned (OpenSpec.ofChange fareRisesWrong)

/- THE SECOND FORM. 'bulk': how many values and letters a reading holds, each counted each time it is reached (what is shared counts as often as it is met; a slice's spare places count too). A statement '..UptoSaid' is the law's where the arguments, and the package variables that the reading takes, are together of bulk at most 1048576: NARROWER than '..Said'. Prove '..Said' where nothing that the law and all that it calls make is longer than what came in: it says more and counts as full. Else prove '..UptoSaid'. A law counts once. -/
mutual
def uptoBulk {H : Type} : DataW H → Nat
  | .lit (.string bytes) => bytes.length + 1
  | .lit _ => 1
  | .nil => 1
  | .ptr d => uptoBulk d + 1
  | .slice elems spare => uptoBulkAll elems + uptoBulkAll spare + 1
  | .agg parts => uptoBulkAll parts + 1
  | .iface _ d => uptoBulk d + 1
  | .map entries => uptoBulkEntries entries + 1
  | .held _ => 1
def uptoBulkAll {H : Type} : List (DataW H) → Nat
  | [] => 0
  | d :: r => uptoBulk d + uptoBulkAll r
def uptoBulkEntries {H : Type} : List (Lit × DataW H) → Nat
  | [] => 0
  | x :: r => uptoBulkEntry x + uptoBulkEntries r
def uptoBulkEntry {H : Type} : Lit × DataW H → Nat
  | (.string bytes, d) => bytes.length + uptoBulk d + 1
  | (_, d) => uptoBulk d + 1
 end
def uptoSmall : (H : Type) → List (DataW H) → Bool := fun _ ds => decide (uptoBulkAll ds ≤ 1048576)
def OpenSpec.upto (s : _root_.Go.ChangeSpec) : _root_.Go.OpenSpec := { _root_.Go.OpenSpec.ofChange s with cond := some uptoSmall }

/-- 'jetwaylaw03.FareSums', WHERE WHAT IT READS IS OF BULK AT MOST 1048576: true; the input reads as it did. -/
def fareSumsUptoRow : OpenClaim := { program := "ythbjgeemenenhaa", sum := "f54e4ab8d50540d6066af25acebce480199e3ffb5bc975d493f34514185351ed", func := "jetway/jetwaylaw03.FareSums", spec := "fareSums", inPlace := ["math.Float64bits"], apart := false, narrowed := true }
def FareSumsUptoSaid : Prop := fareSumsUptoRow.holds Try.pinned (OpenSpec.upto fareSumsSpec)

/-- 'jetwaylaw03.FareKeys', WHERE WHAT IT READS IS OF BULK AT MOST 1048576: true; the input reads as it did. -/
def fareKeysUptoRow : OpenClaim := { program := "ythbjgeemenenhaa", sum := "f54e4ab8d50540d6066af25acebce480199e3ffb5bc975d493f34514185351ed", func := "jetway/jetwaylaw03.FareKeys", spec := "fareKeys", inPlace := ["math.Float64bits", "math.Float64frombits"], apart := false, narrowed := true }
def FareKeysUptoSaid : Prop := fareKeysUptoRow.holds Try.pinned (OpenSpec.upto fareKeysSpec)

/-- 'jetwaylaw03.FareRanks', WHERE WHAT IT READS IS OF BULK AT MOST 1048576: true; the input reads as it did. -/
def fareRanksUptoRow : OpenClaim := { program := "ythbjgeemenenhaa", sum := "f54e4ab8d50540d6066af25acebce480199e3ffb5bc975d493f34514185351ed", func := "jetway/jetwaylaw03.FareRanks", spec := "fareRanks", apart := false, narrowed := true }
def FareRanksUptoSaid : Prop := fareRanksUptoRow.holds Try.pinned (OpenSpec.upto fareRanksSpec)

/-- 'jetwaylaw03.FareOrders', WHERE WHAT IT READS IS OF BULK AT MOST 1048576: true; the input reads as it did. -/
def fareOrdersUptoRow : OpenClaim := { program := "ythbjgeemenenhaa", sum := "f54e4ab8d50540d6066af25acebce480199e3ffb5bc975d493f34514185351ed", func := "jetway/jetwaylaw03.FareOrders", spec := "fareOrders", inPlace := ["math.Float64bits"], apart := false, narrowed := true }
def FareOrdersUptoSaid : Prop := fareOrdersUptoRow.holds Try.pinned (OpenSpec.upto fareOrdersSpec)

/-- 'jetwaylaw03.FareOne', WHERE WHAT IT READS IS OF BULK AT MOST 1048576: true; the input reads as it did. -/
def fareOneUptoRow : OpenClaim := { program := "ythbjgeemenenhaa", sum := "f54e4ab8d50540d6066af25acebce480199e3ffb5bc975d493f34514185351ed", func := "jetway/jetwaylaw03.FareOne", spec := "fareOne", inPlace := ["math.Float64bits"], apart := false, narrowed := true }
def FareOneUptoSaid : Prop := fareOneUptoRow.holds Try.pinned (OpenSpec.upto fareOneSpec)

/-- 'jetwaylaw03.FareBack', WHERE WHAT IT READS IS OF BULK AT MOST 1048576: true; the input reads as it did. -/
def fareBackUptoRow : OpenClaim := { program := "ythbjgeemenenhaa", sum := "f54e4ab8d50540d6066af25acebce480199e3ffb5bc975d493f34514185351ed", func := "jetway/jetwaylaw03.FareBack", spec := "fareBack", inPlace := ["math.Float64frombits", "math.Float64bits"], apart := false, narrowed := true }
def FareBackUptoSaid : Prop := fareBackUptoRow.holds Try.pinned (OpenSpec.upto fareBackSpec)

/-- 'jetwaylaw03.FareNext', WHERE WHAT IT READS IS OF BULK AT MOST 1048576: true; the input reads as it did. -/
def fareNextUptoRow : OpenClaim := { program := "ythbjgeemenenhaa", sum := "f54e4ab8d50540d6066af25acebce480199e3ffb5bc975d493f34514185351ed", func := "jetway/jetwaylaw03.FareNext", spec := "fareNext", inPlace := ["math.Float64bits", "math.Float64frombits"], apart := false, narrowed := true }
def FareNextUptoSaid : Prop := fareNextUptoRow.holds Try.pinned (OpenSpec.upto fareNextSpec)

/-- 'jetwaylaw03.FareLevels', WHERE WHAT IT READS IS OF BULK AT MOST 1048576: true; the input reads as it did. -/
def fareLevelsUptoRow : OpenClaim := { program := "ythbjgeemenenhaa", sum := "f54e4ab8d50540d6066af25acebce480199e3ffb5bc975d493f34514185351ed", func := "jetway/jetwaylaw03.FareLevels", spec := "fareLevels", inPlace := ["math.archFloor", "math.Float64bits", "math.Float64frombits", "math.archTrunc"], apart := false, narrowed := true }
def FareLevelsUptoSaid : Prop := fareLevelsUptoRow.holds Try.pinned (OpenSpec.upto fareLevelsSpec)

/-- 'jetwaylaw03.FareRises', WHERE WHAT IT READS IS OF BULK AT MOST 1048576: true; the input reads as it did. -/
def fareRisesUptoRow : OpenClaim := { program := "ythbjgeemenenhaa", sum := "f54e4ab8d50540d6066af25acebce480199e3ffb5bc975d493f34514185351ed", func := "jetway/jetwaylaw03.FareRises", spec := "fareRises", inPlace := ["math.archFloor", "math.Float64bits", "math.Float64frombits", "math.archTrunc"], apart := false, narrowed := true }
def FareRisesUptoSaid : Prop := fareRisesUptoRow.holds Try.pinned (OpenSpec.upto fareRisesSpec)

end Rows
end Go.Proofs.Ythbjgeemenenhaa

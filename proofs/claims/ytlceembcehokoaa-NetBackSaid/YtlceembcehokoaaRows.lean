/-
  No cell of these rows narrows 'for every input' (looked for: loops, veiled, ifaces, maps, wideKeys, modest, calm, conditions, laid).
  DERIVED. THE GIVEN ROWS OF THIS SEAT. 7 by the template 'for every input the law returns true; each argument reads behind the call as it read before'; 0 by the template 'total and deterministic' (their statements: YtlceembcehokoaaTotals.lean).
  GIVEN WITH THE SEED: the statements are not yours to turn. If you find one false, say at which input.
  Laid BY PROGRAM, IN A SANDBOX (cutbox-rows.mjs): the forced cells as the released guide's own fill.sh prints them over the translation 61373db082198b93… (all of the seat's roots in one cut). By AI agents, Wed Nov 11 2026. No macro, syntax, notation, axiom, sorry.
-/
import Derived.Test.YtlceembcehokoaaChecked
import GoSem.Claim
import GoSem.ClaimJoined
import GoSem.ClaimMapViews
import Derived.JoinedTies
import Derived.KernelRfl
namespace Go.Proofs.Ytlceembcehokoaa
/- THE CELL 'sum', in the pinned program and in every row, IS THE sha256 OF THE DUMP (.gsa) THAT YtlceembcehokoaaProg.lean LOADS. Nothing in Lean hashes anything: it is a label: what it is worth is what the hold of that sum in a sandbox is worth. -/
noncomputable def Try.pinned : Pinned := { name := "ytlceembcehokoaa", sum := "61373db082198b933ce139912017c661de97de51f1143d4170b59649071b1714", checked := Try.checked }
namespace Rows
def none {H : Type} : Left H := { results := [], args := [] }

/-- 'jetwaylaw20.NetCodes': WHATEVER THE INPUT: true; the input reads as it did. -/
def netCodesSpec : ChangeSpec := { name := "netCodes", fn := fun _ => fun
  | [d] => { results := [.lit (.bool true)], args := [d] }
  | _ => none }
def netCodesRow : OpenClaim := { program := "ytlceembcehokoaa", sum := "61373db082198b933ce139912017c661de97de51f1143d4170b59649071b1714", func := "jetway/jetwaylaw20.NetCodes", spec := "netCodes", unfollowed := true, recurses := true, plainKeys := false, apart := false }
def NetCodesSaid : Prop := netCodesRow.holds Try.pinned (OpenSpec.ofChange netCodesSpec)

/-- ITS FALSE NEIGHBOUR: 'it returns false'. Refute it at one input. -/
def netCodesWrong : ChangeSpec := { name := "netCodes", fn := fun _ => fun
  | [d] => { results := [.lit (.bool false)], args := [d] }
  | _ => none }
def NetCodesWrongFalsely : Prop := netCodesRow.holds Try.pinned (OpenSpec.ofChange netCodesWrong)

/-- 'jetwaylaw20.NetDecodes': WHATEVER THE INPUT: true; the input reads as it did. -/
def netDecodesSpec : ChangeSpec := { name := "netDecodes", fn := fun _ => fun
  | [d] => { results := [.lit (.bool true)], args := [d] }
  | _ => none }
def netDecodesRow : OpenClaim := { program := "ytlceembcehokoaa", sum := "61373db082198b933ce139912017c661de97de51f1143d4170b59649071b1714", func := "jetway/jetwaylaw20.NetDecodes", spec := "netDecodes", unfollowed := true, recurses := true, plainKeys := false, apart := false }
def NetDecodesSaid : Prop := netDecodesRow.holds Try.pinned (OpenSpec.ofChange netDecodesSpec)

/-- ITS FALSE NEIGHBOUR: 'it returns false'. Refute it at one input. -/
def netDecodesWrong : ChangeSpec := { name := "netDecodes", fn := fun _ => fun
  | [d] => { results := [.lit (.bool false)], args := [d] }
  | _ => none }
def NetDecodesWrongFalsely : Prop := netDecodesRow.holds Try.pinned (OpenSpec.ofChange netDecodesWrong)

/-- 'jetwaylaw20.NetBack': WHATEVER THE INPUT: true; the input reads as it did. -/
def netBackSpec : ChangeSpec := { name := "netBack", fn := fun _ => fun
  | [d1, d2, d3] => { results := [.lit (.bool true)], args := [d1, d2, d3] }
  | _ => none }
def netBackRow : OpenClaim := { program := "ytlceembcehokoaa", sum := "61373db082198b933ce139912017c661de97de51f1143d4170b59649071b1714", func := "jetway/jetwaylaw20.NetBack", spec := "netBack", unfollowed := true, recurses := true, plainKeys := false, apart := false }
def NetBackSaid : Prop := netBackRow.holds Try.pinned (OpenSpec.ofChange netBackSpec)

/-- ITS FALSE NEIGHBOUR: 'it returns false'. Refute it at one input. -/
def netBackWrong : ChangeSpec := { name := "netBack", fn := fun _ => fun
  | [d1, d2, d3] => { results := [.lit (.bool false)], args := [d1, d2, d3] }
  | _ => none }
def NetBackWrongFalsely : Prop := netBackRow.holds Try.pinned (OpenSpec.ofChange netBackWrong)

/-- 'jetwaylaw20.NetFull': WHATEVER THE INPUT: true; the input reads as it did. -/
def netFullSpec : ChangeSpec := { name := "netFull", fn := fun _ => fun
  | [d] => { results := [.lit (.bool true)], args := [d] }
  | _ => none }
def netFullRow : OpenClaim := { program := "ytlceembcehokoaa", sum := "61373db082198b933ce139912017c661de97de51f1143d4170b59649071b1714", func := "jetway/jetwaylaw20.NetFull", spec := "netFull", unfollowed := true, recurses := true, plainKeys := false, apart := false }
def NetFullSaid : Prop := netFullRow.holds Try.pinned (OpenSpec.ofChange netFullSpec)

/-- ITS FALSE NEIGHBOUR: 'it returns false'. Refute it at one input. -/
def netFullWrong : ChangeSpec := { name := "netFull", fn := fun _ => fun
  | [d] => { results := [.lit (.bool false)], args := [d] }
  | _ => none }
def NetFullWrongFalsely : Prop := netFullRow.holds Try.pinned (OpenSpec.ofChange netFullWrong)

/-- 'jetwaylaw20.NetCuts': WHATEVER THE INPUT: true; the input reads as it did. -/
def netCutsSpec : ChangeSpec := { name := "netCuts", fn := fun _ => fun
  | [d1, d2, d3] => { results := [.lit (.bool true)], args := [d1, d2, d3] }
  | _ => none }
def netCutsRow : OpenClaim := { program := "ytlceembcehokoaa", sum := "61373db082198b933ce139912017c661de97de51f1143d4170b59649071b1714", func := "jetway/jetwaylaw20.NetCuts", spec := "netCuts", unfollowed := true, recurses := true, plainKeys := false, apart := false }
def NetCutsSaid : Prop := netCutsRow.holds Try.pinned (OpenSpec.ofChange netCutsSpec)

/-- ITS FALSE NEIGHBOUR: 'it returns false'. Refute it at one input. -/
def netCutsWrong : ChangeSpec := { name := "netCuts", fn := fun _ => fun
  | [d1, d2, d3] => { results := [.lit (.bool false)], args := [d1, d2, d3] }
  | _ => none }
def NetCutsWrongFalsely : Prop := netCutsRow.holds Try.pinned (OpenSpec.ofChange netCutsWrong)

/-- 'jetwaylaw20.NetOrder': WHATEVER THE INPUT: true; the input reads as it did. -/
def netOrderSpec : ChangeSpec := { name := "netOrder", fn := fun _ => fun
  | [d] => { results := [.lit (.bool true)], args := [d] }
  | _ => none }
def netOrderRow : OpenClaim := { program := "ytlceembcehokoaa", sum := "61373db082198b933ce139912017c661de97de51f1143d4170b59649071b1714", func := "jetway/jetwaylaw20.NetOrder", spec := "netOrder", unfollowed := true, recurses := true, plainKeys := false, apart := false }
def NetOrderSaid : Prop := netOrderRow.holds Try.pinned (OpenSpec.ofChange netOrderSpec)

/-- ITS FALSE NEIGHBOUR: 'it returns false'. Refute it at one input. -/
def netOrderWrong : ChangeSpec := { name := "netOrder", fn := fun _ => fun
  | [d] => { results := [.lit (.bool false)], args := [d] }
  | _ => none }
def NetOrderWrongFalsely : Prop := netOrderRow.holds Try.pinned (OpenSpec.ofChange netOrderWrong)

/-- 'jetwaylaw20.NetScripts': WHATEVER THE INPUT: true; the input reads as it did. -/
def netScriptsSpec : ChangeSpec := { name := "netScripts", fn := fun _ => fun
  | [d] => { results := [.lit (.bool true)], args := [d] }
  | _ => none }
def netScriptsRow : OpenClaim := { program := "ytlceembcehokoaa", sum := "61373db082198b933ce139912017c661de97de51f1143d4170b59649071b1714", func := "jetway/jetwaylaw20.NetScripts", spec := "netScripts", unfollowed := true, recurses := true, plainKeys := false, apart := false }
def NetScriptsSaid : Prop := netScriptsRow.holds Try.pinned (OpenSpec.ofChange netScriptsSpec)

/-- ITS FALSE NEIGHBOUR: 'it returns false'. Refute it at one input. -/
def netScriptsWrong : ChangeSpec := { name := "netScripts", fn := fun _ => fun
  | [d] => { results := [.lit (.bool false)], args := [d] }
  | _ => none }
def NetScriptsWrongFalsely : Prop := netScriptsRow.holds Try.pinned (OpenSpec.ofChange netScriptsWrong)

/- THE SECOND FORM. 'bulk': how many values and letters a reading holds, each counted each time it is reached (what is shared counts as often as it is met; a slice's spare places count too). A statement '..UptoSaid' is the law's where the arguments, and the package variables that the reading takes, are together of bulk at most 1048576: NARROWER than '..Said'. Prove '..Said' where nothing that the law and all that it calls make is longer than what came in: it says more and counts as full. Else prove '..UptoSaid'. A law counts once. -/
mutual
def uptoBulk {H : Type} : DataW H → Nat
  | .lit (.string bytes) => bytes.length + 1
  | .lit _ => 1
  | .nil => 1
  | .ptr d => uptoBulk d + 1
  | .slice elems spare => uptoBulkAll elems + uptoBulkAll spare + 1
  | .agg parts => uptoBulkAll parts + 1
  | .iface _ d => uptoBulk d + 1
  | .map entries => uptoBulkEntries entries + 1
  | .held _ => 1
def uptoBulkAll {H : Type} : List (DataW H) → Nat
  | [] => 0
  | d :: r => uptoBulk d + uptoBulkAll r
def uptoBulkEntries {H : Type} : List (Lit × DataW H) → Nat
  | [] => 0
  | x :: r => uptoBulkEntry x + uptoBulkEntries r
def uptoBulkEntry {H : Type} : Lit × DataW H → Nat
  | (.string bytes, d) => bytes.length + uptoBulk d + 1
  | (_, d) => uptoBulk d + 1
 end
def uptoSmall : (H : Type) → List (DataW H) → Bool := fun _ ds => decide (uptoBulkAll ds ≤ 1048576)
def OpenSpec.upto (s : _root_.Go.ChangeSpec) : _root_.Go.OpenSpec := { _root_.Go.OpenSpec.ofChange s with cond := some uptoSmall }

/-- 'jetwaylaw20.NetCodes', WHERE WHAT IT READS IS OF BULK AT MOST 1048576: true; the input reads as it did. -/
def netCodesUptoRow : OpenClaim := { program := "ytlceembcehokoaa", sum := "61373db082198b933ce139912017c661de97de51f1143d4170b59649071b1714", func := "jetway/jetwaylaw20.NetCodes", spec := "netCodes", unfollowed := true, recurses := true, plainKeys := false, apart := false, narrowed := true }
def NetCodesUptoSaid : Prop := netCodesUptoRow.holds Try.pinned (OpenSpec.upto netCodesSpec)

/-- 'jetwaylaw20.NetDecodes', WHERE WHAT IT READS IS OF BULK AT MOST 1048576: true; the input reads as it did. -/
def netDecodesUptoRow : OpenClaim := { program := "ytlceembcehokoaa", sum := "61373db082198b933ce139912017c661de97de51f1143d4170b59649071b1714", func := "jetway/jetwaylaw20.NetDecodes", spec := "netDecodes", unfollowed := true, recurses := true, plainKeys := false, apart := false, narrowed := true }
def NetDecodesUptoSaid : Prop := netDecodesUptoRow.holds Try.pinned (OpenSpec.upto netDecodesSpec)

/-- 'jetwaylaw20.NetBack', WHERE WHAT IT READS IS OF BULK AT MOST 1048576: true; the input reads as it did. -/
def netBackUptoRow : OpenClaim := { program := "ytlceembcehokoaa", sum := "61373db082198b933ce139912017c661de97de51f1143d4170b59649071b1714", func := "jetway/jetwaylaw20.NetBack", spec := "netBack", unfollowed := true, recurses := true, plainKeys := false, apart := false, narrowed := true }
def NetBackUptoSaid : Prop := netBackUptoRow.holds Try.pinned (OpenSpec.upto netBackSpec)

/-- 'jetwaylaw20.NetFull', WHERE WHAT IT READS IS OF BULK AT MOST 1048576: true; the input reads as it did. -/
def netFullUptoRow : OpenClaim := { program := "ytlceembcehokoaa", sum := "61373db082198b933ce139912017c661de97de51f1143d4170b59649071b1714", func := "jetway/jetwaylaw20.NetFull", spec := "netFull", unfollowed := true, recurses := true, plainKeys := false, apart := false, narrowed := true }
def NetFullUptoSaid : Prop := netFullUptoRow.holds Try.pinned (OpenSpec.upto netFullSpec)

/-- 'jetwaylaw20.NetCuts', WHERE WHAT IT READS IS OF BULK AT MOST 1048576: true; the input reads as it did. -/
def netCutsUptoRow : OpenClaim := { program := "ytlceembcehokoaa", sum := "61373db082198b933ce139912017c661de97de51f1143d4170b59649071b1714", func := "jetway/jetwaylaw20.NetCuts", spec := "netCuts", unfollowed := true, recurses := true, plainKeys := false, apart := false, narrowed := true }
def NetCutsUptoSaid : Prop := netCutsUptoRow.holds Try.pinned (OpenSpec.upto netCutsSpec)

/-- 'jetwaylaw20.NetOrder', WHERE WHAT IT READS IS OF BULK AT MOST 1048576: true; the input reads as it did. -/
def netOrderUptoRow : OpenClaim := { program := "ytlceembcehokoaa", sum := "61373db082198b933ce139912017c661de97de51f1143d4170b59649071b1714", func := "jetway/jetwaylaw20.NetOrder", spec := "netOrder", unfollowed := true, recurses := true, plainKeys := false, apart := false, narrowed := true }
def NetOrderUptoSaid : Prop := netOrderUptoRow.holds Try.pinned (OpenSpec.upto netOrderSpec)

/-- 'jetwaylaw20.NetScripts', WHERE WHAT IT READS IS OF BULK AT MOST 1048576: true; the input reads as it did. -/
def netScriptsUptoRow : OpenClaim := { program := "ytlceembcehokoaa", sum := "61373db082198b933ce139912017c661de97de51f1143d4170b59649071b1714", func := "jetway/jetwaylaw20.NetScripts", spec := "netScripts", unfollowed := true, recurses := true, plainKeys := false, apart := false, narrowed := true }
def NetScriptsUptoSaid : Prop := netScriptsUptoRow.holds Try.pinned (OpenSpec.upto netScriptsSpec)

end Rows
end Go.Proofs.Ytlceembcehokoaa

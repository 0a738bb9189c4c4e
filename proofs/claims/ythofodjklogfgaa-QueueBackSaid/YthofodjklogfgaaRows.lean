/-
  No cell of these rows narrows 'for every input' (looked for: loops, veiled, ifaces, maps, wideKeys, modest, calm, conditions, laid).
  DERIVED. THE GIVEN ROWS OF THIS SEAT. 6 by the template 'for every input the law returns true; each argument reads behind the call as it read before'; 0 by the template 'total and deterministic' (their statements: YthofodjklogfgaaTotals.lean).
  GIVEN WITH THE SEED: the statements are not yours to turn. If you find one false, say at which input.
  Laid BY PROGRAM, IN A SANDBOX (cutbox-rows.mjs): the forced cells as the released guide's own fill.sh prints them over the translation 57043224b0c22721… (all of the seat's roots in one cut). By AI agents, Wed Nov 11 2026. No macro, syntax, notation, axiom, sorry.
-/
import Derived.Test.YthofodjklogfgaaChecked
import GoSem.Claim
import GoSem.ClaimJoined
import GoSem.ClaimMapViews
import Derived.JoinedTies
import Derived.KernelRfl
namespace Go.Proofs.Ythofodjklogfgaa
/- THE CELL 'sum', in the pinned program and in every row, IS THE sha256 OF THE DUMP (.gsa) THAT YthofodjklogfgaaProg.lean LOADS. Nothing in Lean hashes anything: it is a label: what it is worth is what the hold of that sum in a sandbox is worth. -/
noncomputable def Try.pinned : Pinned := { name := "ythofodjklogfgaa", sum := "57043224b0c22721d0d059cd7054e43f81f270d73418ce2220e76534b3933209", checked := Try.checked }
namespace Rows
def none {H : Type} : Left H := { results := [], args := [] }

/-- 'jetwaylaw17.QueueOrder': WHATEVER THE INPUT: true; the input reads as it did. -/
def queueOrderSpec : ChangeSpec := { name := "queueOrder", fn := fun _ => fun
  | [d] => { results := [.lit (.bool true)], args := [d] }
  | _ => none }
def queueOrderRow : OpenClaim := { program := "ythofodjklogfgaa", sum := "57043224b0c22721d0d059cd7054e43f81f270d73418ce2220e76534b3933209", func := "jetway/jetwaylaw17.QueueOrder", spec := "queueOrder", inPlace := ["slices.overlaps[jetway/queue.waiter]", "math.Float64bits"], unfollowed := true, recurses := true, apart := false }
def QueueOrderSaid : Prop := queueOrderRow.holds Try.pinned (OpenSpec.ofChange queueOrderSpec)

/-- ITS FALSE NEIGHBOUR: 'it returns false'. Refute it at one input. -/
def queueOrderWrong : ChangeSpec := { name := "queueOrder", fn := fun _ => fun
  | [d] => { results := [.lit (.bool false)], args := [d] }
  | _ => none }
def QueueOrderWrongFalsely : Prop := queueOrderRow.holds Try.pinned (OpenSpec.ofChange queueOrderWrong)

/-- 'jetwaylaw17.QueueEach': WHATEVER THE INPUT: true; the input reads as it did. -/
def queueEachSpec : ChangeSpec := { name := "queueEach", fn := fun _ => fun
  | [d] => { results := [.lit (.bool true)], args := [d] }
  | _ => none }
def queueEachRow : OpenClaim := { program := "ythofodjklogfgaa", sum := "57043224b0c22721d0d059cd7054e43f81f270d73418ce2220e76534b3933209", func := "jetway/jetwaylaw17.QueueEach", spec := "queueEach", inPlace := ["slices.overlaps[jetway/queue.waiter]"], unfollowed := true, recurses := true, apart := false }
def QueueEachSaid : Prop := queueEachRow.holds Try.pinned (OpenSpec.ofChange queueEachSpec)

/-- ITS FALSE NEIGHBOUR: 'it returns false'. Refute it at one input. -/
def queueEachWrong : ChangeSpec := { name := "queueEach", fn := fun _ => fun
  | [d] => { results := [.lit (.bool false)], args := [d] }
  | _ => none }
def QueueEachWrongFalsely : Prop := queueEachRow.holds Try.pinned (OpenSpec.ofChange queueEachWrong)

/-- 'jetwaylaw17.QueueFirst': WHATEVER THE INPUT: true; the input reads as it did. -/
def queueFirstSpec : ChangeSpec := { name := "queueFirst", fn := fun _ => fun
  | [d1, d2] => { results := [.lit (.bool true)], args := [d1, d2] }
  | _ => none }
def queueFirstRow : OpenClaim := { program := "ythofodjklogfgaa", sum := "57043224b0c22721d0d059cd7054e43f81f270d73418ce2220e76534b3933209", func := "jetway/jetwaylaw17.QueueFirst", spec := "queueFirst", inPlace := ["slices.overlaps[jetway/queue.waiter]", "math.Float64bits"], unfollowed := true, recurses := true, apart := false }
def QueueFirstSaid : Prop := queueFirstRow.holds Try.pinned (OpenSpec.ofChange queueFirstSpec)

/-- ITS FALSE NEIGHBOUR: 'it returns false'. Refute it at one input. -/
def queueFirstWrong : ChangeSpec := { name := "queueFirst", fn := fun _ => fun
  | [d1, d2] => { results := [.lit (.bool false)], args := [d1, d2] }
  | _ => none }
def QueueFirstWrongFalsely : Prop := queueFirstRow.holds Try.pinned (OpenSpec.ofChange queueFirstWrong)

/-- 'jetwaylaw17.QueueScripts': WHATEVER THE INPUT: true; the input reads as it did. -/
def queueScriptsSpec : ChangeSpec := { name := "queueScripts", fn := fun _ => fun
  | [d] => { results := [.lit (.bool true)], args := [d] }
  | _ => none }
def queueScriptsRow : OpenClaim := { program := "ythofodjklogfgaa", sum := "57043224b0c22721d0d059cd7054e43f81f270d73418ce2220e76534b3933209", func := "jetway/jetwaylaw17.QueueScripts", spec := "queueScripts", inPlace := ["slices.overlaps[jetway/queue.waiter]", "math.Float64bits"], unfollowed := true, recurses := true, apart := false }
def QueueScriptsSaid : Prop := queueScriptsRow.holds Try.pinned (OpenSpec.ofChange queueScriptsSpec)

/-- ITS FALSE NEIGHBOUR: 'it returns false'. Refute it at one input. -/
def queueScriptsWrong : ChangeSpec := { name := "queueScripts", fn := fun _ => fun
  | [d] => { results := [.lit (.bool false)], args := [d] }
  | _ => none }
def QueueScriptsWrongFalsely : Prop := queueScriptsRow.holds Try.pinned (OpenSpec.ofChange queueScriptsWrong)

/-- 'jetwaylaw17.QueueDecodes': WHATEVER THE INPUT: true; the input reads as it did. -/
def queueDecodesSpec : ChangeSpec := { name := "queueDecodes", fn := fun _ => fun
  | [d] => { results := [.lit (.bool true)], args := [d] }
  | _ => none }
def queueDecodesRow : OpenClaim := { program := "ythofodjklogfgaa", sum := "57043224b0c22721d0d059cd7054e43f81f270d73418ce2220e76534b3933209", func := "jetway/jetwaylaw17.QueueDecodes", spec := "queueDecodes", inPlace := ["slices.overlaps[jetway/queue.waiter]", "math.Float64frombits", "math.Float64bits"], unfollowed := true, recurses := true, apart := false }
def QueueDecodesSaid : Prop := queueDecodesRow.holds Try.pinned (OpenSpec.ofChange queueDecodesSpec)

/-- ITS FALSE NEIGHBOUR: 'it returns false'. Refute it at one input. -/
def queueDecodesWrong : ChangeSpec := { name := "queueDecodes", fn := fun _ => fun
  | [d] => { results := [.lit (.bool false)], args := [d] }
  | _ => none }
def QueueDecodesWrongFalsely : Prop := queueDecodesRow.holds Try.pinned (OpenSpec.ofChange queueDecodesWrong)

/-- 'jetwaylaw17.QueueBack': WHATEVER THE INPUT: true; the input reads as it did. -/
def queueBackSpec : ChangeSpec := { name := "queueBack", fn := fun _ => fun
  | [d1, d2] => { results := [.lit (.bool true)], args := [d1, d2] }
  | _ => none }
def queueBackRow : OpenClaim := { program := "ythofodjklogfgaa", sum := "57043224b0c22721d0d059cd7054e43f81f270d73418ce2220e76534b3933209", func := "jetway/jetwaylaw17.QueueBack", spec := "queueBack", inPlace := ["slices.overlaps[jetway/queue.waiter]", "math.Float64bits", "math.Float64frombits"], unfollowed := true, recurses := true, apart := false }
def QueueBackSaid : Prop := queueBackRow.holds Try.pinned (OpenSpec.ofChange queueBackSpec)

/-- ITS FALSE NEIGHBOUR: 'it returns false'. Refute it at one input. -/
def queueBackWrong : ChangeSpec := { name := "queueBack", fn := fun _ => fun
  | [d1, d2] => { results := [.lit (.bool false)], args := [d1, d2] }
  | _ => none }
def QueueBackWrongFalsely : Prop := queueBackRow.holds Try.pinned (OpenSpec.ofChange queueBackWrong)

/- THE SECOND FORM. 'bulk': how many values and letters a reading holds, each counted each time it is reached (what is shared counts as often as it is met; a slice's spare places count too). A statement '..UptoSaid' is the law's where the arguments, and the package variables that the reading takes, are together of bulk at most 1048576: NARROWER than '..Said'. Prove '..Said' where nothing that the law and all that it calls make is longer than what came in: it says more and counts as full. Else prove '..UptoSaid'. A law counts once. -/
mutual
def uptoBulk {H : Type} : DataW H → Nat
  | .lit (.string bytes) => bytes.length + 1
  | .lit _ => 1
  | .nil => 1
  | .ptr d => uptoBulk d + 1
  | .slice elems spare => uptoBulkAll elems + uptoBulkAll spare + 1
  | .agg parts => uptoBulkAll parts + 1
  | .iface _ d => uptoBulk d + 1
  | .map entries => uptoBulkEntries entries + 1
  | .held _ => 1
def uptoBulkAll {H : Type} : List (DataW H) → Nat
  | [] => 0
  | d :: r => uptoBulk d + uptoBulkAll r
def uptoBulkEntries {H : Type} : List (Lit × DataW H) → Nat
  | [] => 0
  | x :: r => uptoBulkEntry x + uptoBulkEntries r
def uptoBulkEntry {H : Type} : Lit × DataW H → Nat
  | (.string bytes, d) => bytes.length + uptoBulk d + 1
  | (_, d) => uptoBulk d + 1
 end
def uptoSmall : (H : Type) → List (DataW H) → Bool := fun _ ds => decide (uptoBulkAll ds ≤ 1048576)
def OpenSpec.upto (s : _root_.Go.ChangeSpec) : _root_.Go.OpenSpec := { _root_.Go.OpenSpec.ofChange s with cond := some uptoSmall }

/-- 'jetwaylaw17.QueueOrder', WHERE WHAT IT READS IS OF BULK AT MOST 1048576: true; the input reads as it did. -/
def queueOrderUptoRow : OpenClaim := { program := "ythofodjklogfgaa", sum := "57043224b0c22721d0d059cd7054e43f81f270d73418ce2220e76534b3933209", func := "jetway/jetwaylaw17.QueueOrder", spec := "queueOrder", inPlace := ["slices.overlaps[jetway/queue.waiter]", "math.Float64bits"], unfollowed := true, recurses := true, apart := false, narrowed := true }
def QueueOrderUptoSaid : Prop := queueOrderUptoRow.holds Try.pinned (OpenSpec.upto queueOrderSpec)

/-- 'jetwaylaw17.QueueEach', WHERE WHAT IT READS IS OF BULK AT MOST 1048576: true; the input reads as it did. -/
def queueEachUptoRow : OpenClaim := { program := "ythofodjklogfgaa", sum := "57043224b0c22721d0d059cd7054e43f81f270d73418ce2220e76534b3933209", func := "jetway/jetwaylaw17.QueueEach", spec := "queueEach", inPlace := ["slices.overlaps[jetway/queue.waiter]"], unfollowed := true, recurses := true, apart := false, narrowed := true }
def QueueEachUptoSaid : Prop := queueEachUptoRow.holds Try.pinned (OpenSpec.upto queueEachSpec)

/-- 'jetwaylaw17.QueueFirst', WHERE WHAT IT READS IS OF BULK AT MOST 1048576: true; the input reads as it did. -/
def queueFirstUptoRow : OpenClaim := { program := "ythofodjklogfgaa", sum := "57043224b0c22721d0d059cd7054e43f81f270d73418ce2220e76534b3933209", func := "jetway/jetwaylaw17.QueueFirst", spec := "queueFirst", inPlace := ["slices.overlaps[jetway/queue.waiter]", "math.Float64bits"], unfollowed := true, recurses := true, apart := false, narrowed := true }
def QueueFirstUptoSaid : Prop := queueFirstUptoRow.holds Try.pinned (OpenSpec.upto queueFirstSpec)

/-- 'jetwaylaw17.QueueScripts', WHERE WHAT IT READS IS OF BULK AT MOST 1048576: true; the input reads as it did. -/
def queueScriptsUptoRow : OpenClaim := { program := "ythofodjklogfgaa", sum := "57043224b0c22721d0d059cd7054e43f81f270d73418ce2220e76534b3933209", func := "jetway/jetwaylaw17.QueueScripts", spec := "queueScripts", inPlace := ["slices.overlaps[jetway/queue.waiter]", "math.Float64bits"], unfollowed := true, recurses := true, apart := false, narrowed := true }
def QueueScriptsUptoSaid : Prop := queueScriptsUptoRow.holds Try.pinned (OpenSpec.upto queueScriptsSpec)

/-- 'jetwaylaw17.QueueDecodes', WHERE WHAT IT READS IS OF BULK AT MOST 1048576: true; the input reads as it did. -/
def queueDecodesUptoRow : OpenClaim := { program := "ythofodjklogfgaa", sum := "57043224b0c22721d0d059cd7054e43f81f270d73418ce2220e76534b3933209", func := "jetway/jetwaylaw17.QueueDecodes", spec := "queueDecodes", inPlace := ["slices.overlaps[jetway/queue.waiter]", "math.Float64frombits", "math.Float64bits"], unfollowed := true, recurses := true, apart := false, narrowed := true }
def QueueDecodesUptoSaid : Prop := queueDecodesUptoRow.holds Try.pinned (OpenSpec.upto queueDecodesSpec)

/-- 'jetwaylaw17.QueueBack', WHERE WHAT IT READS IS OF BULK AT MOST 1048576: true; the input reads as it did. -/
def queueBackUptoRow : OpenClaim := { program := "ythofodjklogfgaa", sum := "57043224b0c22721d0d059cd7054e43f81f270d73418ce2220e76534b3933209", func := "jetway/jetwaylaw17.QueueBack", spec := "queueBack", inPlace := ["slices.overlaps[jetway/queue.waiter]", "math.Float64bits", "math.Float64frombits"], unfollowed := true, recurses := true, apart := false, narrowed := true }
def QueueBackUptoSaid : Prop := queueBackUptoRow.holds Try.pinned (OpenSpec.upto queueBackSpec)

end Rows
end Go.Proofs.Ythofodjklogfgaa

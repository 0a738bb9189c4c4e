/- Proved here, for the statement TopFairCardSaid: laws that its walk leans on. It holds with no condition. (Put together and shortened by a program out of many texts: QueueMath2.) -/
import Derived.Test.YtbeaoddjomdlcaaGreatDoorZ12
set_option linter.unusedVariables false
set_option linter.unusedSimpArgs false
set_option maxRecDepth 100000
set_option maxHeartbeats 64000000
namespace Go.Proofs.YtbeaoddjomdlcaaGreatDoor.QueueM
def build (Z : Nat → Wt) : Nat → List Wt
  | 0 => []
  | i + 1 => (QueueM.add (Z i) (build Z i)).2
structure Built (Z : Nat → Wt) (i : Nat) : Prop where
  good : Good (build Z i)
  len : (build Z i).length ≤ i
  mem : ∀ x, x ∈ build Z i ↔ ∃ j, j < i ∧ x = Z j ∧ right (Z j) = true
theorem Built.no {Z : Nat → Wt} (hd : ∀ i j, i < j → (Z i).id ≠ (Z j).id) {i : Nat} (h : Built Z i) : has (Z i).id (build Z i) = false := by
  rcases Bool.eq_false_or_eq_true (has (Z i).id (build Z i)) with hh | hh
  · obtain ⟨x, hx, he⟩ := has_iff.1 hh
    obtain ⟨j, hj, rfl, _⟩ := (h.mem x).1 hx
    exact absurd he (hd j i hj)
  · exact hh
end Go.Proofs.YtbeaoddjomdlcaaGreatDoor.QueueM

/- Proved here, for the statement TopFairCardSaid: laws that its walk leans on. It holds with no condition. (Put together and shortened by a program out of many texts: NestMath2.) -/
import Derived.Test.YtbeaoddjomdlcaaGreatDoorZ06
set_option linter.unusedVariables false
set_option linter.unusedSimpArgs false
set_option maxRecDepth 100000
set_option maxHeartbeats 64000000
namespace Go.Proofs.YtbeaoddjomdlcaaGreatDoor.NestM
def plus (s : List Int) (k : Nat) (m : Int) : List Int := s.set k (at_ s k + m)
def Asked (l s : List Int) (c : Int) : Prop := Right l s ∧ 0 ≤ c ∧ c < l.length
theorem le_least {l s : List Int} {c : Nat} (hc : c < l.length) (y : Int) : y ≤ least l s (c : Int) 0 ↔ y ≤ 10000 ∧ ∀ j : Nat, j ≤ c → y ≤ at_ l j - sfx s j := by
  rw [least_up hc, leastUp_le]
  constructor
  · intro ⟨h0, h⟩; exact ⟨h0, fun j hj => h j (by omega)⟩
  · intro ⟨h0, h⟩; exact ⟨h0, fun j hj => h j (by omega)⟩
theorem least_le {l s : List Int} {c : Nat} (hc : c < l.length) : least l s (c : Int) 0 ≤ 10000 := ((le_least hc _).1 (Int.le_refl _)).1
attribute [irreducible] plus
end Go.Proofs.YtbeaoddjomdlcaaGreatDoor.NestM

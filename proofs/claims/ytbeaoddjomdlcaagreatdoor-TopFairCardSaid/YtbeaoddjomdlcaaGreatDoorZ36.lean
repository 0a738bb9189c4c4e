/- Proved here, for the statement TopFairCardSaid: laws that its walk leans on. It holds with no condition. (Put together and shortened by a program out of many texts: EncMath.) -/
import Derived.Test.YtbeaoddjomdlcaaGreatDoorZ12
import Derived.Test.YtbeaoddjomdlcaaGreatDoorZ02
set_option linter.unusedVariables false
set_option linter.unusedSimpArgs false
set_option maxRecDepth 100000
set_option maxHeartbeats 64000000
namespace Go.Proofs.YtbeaoddjomdlcaaGreatDoor.QueueM
def nums (x : Wt) : List Nat := [x.id.toNat, x.cls.toNat, x.many.toNat, x.time.toNat, FareM.key x.score]
def wenc (x : Wt) : List UInt8 := (nums x).flatMap FieldM.num
def enc (l : List Wt) : List UInt8 := FieldM.num l.length ++ l.flatMap wenc
theorem num_le {n : Nat} (h : n < 18446744073709551616) : (FieldM.num n).length ≤ 9 := by
  rw [FieldM.num_length]
  have := FieldM.wid_le h
  omega
theorem nums_lt {x : Wt} (hr : right x = true) (hs : x.score < 18446744073709551616) : ∀ n ∈ nums x, n < 18446744073709551616 := by
  intro n hn
  have h := (right_iff x).1 hr
  have hk := FareM.key_lt hs
  simp only [nums, List.mem_cons, List.not_mem_nil, or_false] at hn
  rcases hn with rfl | rfl | rfl | rfl | rfl <;> omega
theorem flat_le : ∀ (ns : List Nat), (∀ n ∈ ns, n < 18446744073709551616) → (ns.flatMap FieldM.num).length ≤ 9 * ns.length
  | [], _ => by simp
  | n :: ns, h => by
    have h1 := num_le (h n (by simp))
    have h2 := flat_le ns (fun m hm => h m (by simp [hm]))
    rw [List.flatMap_cons, List.length_append, List.length_cons]
    omega
theorem take_flat (ns : List Nat) {j : Nat} (hj : j < ns.length) : (ns.take (j + 1)).flatMap FieldM.num = (ns.take j).flatMap FieldM.num ++ FieldM.num ns[j] := by
  rw [List.take_succ_eq_append_getElem hj, List.flatMap_append]
  simp
theorem take_wenc (l : List Wt) {j : Nat} (hj : j < l.length) : (l.take (j + 1)).flatMap wenc = (l.take j).flatMap wenc ++ wenc l[j] := by
  rw [List.take_succ_eq_append_getElem hj, List.flatMap_append]
  simp
theorem take_le {ns : List Nat} (h : ∀ n ∈ ns, n < 18446744073709551616) (j : Nat) : ((ns.take j).flatMap FieldM.num).length ≤ 9 * j := by
  have h1 := flat_le (ns.take j) (fun n hn => h n (List.mem_of_mem_take hn))
  have h2 : (ns.take j).length ≤ j := by rw [List.length_take]; omega
  omega
end Go.Proofs.YtbeaoddjomdlcaaGreatDoor.QueueM

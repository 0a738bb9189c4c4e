/- What the statements' whole computes: records one behind the other. -/
import Derived.Test.YtlceembcehokoaaNumber
import Derived.Test.YtlceembcehokoaaScanMath2
namespace Go.Proofs.Ytlceembcehokoaa.Rc
set_option maxRecDepth 100000
open Go.RowKit

def ends (l : List (List UInt8)) : List Nat := (List.range l.length).map fun k => (recs (l.take (k + 1))).length
theorem info_int : (Try.prog.info? 3).map (fun i => (i.zero, i.size, i.bytes)) = some (some (.int .i64 0), 1, 8) := by kernel_rfl
def nv (n : Nat) : Value := .int .i64 (n : Int)
theorem ends_take (l : List (List UInt8)) (k : Nat) (h : k < l.length) : ends (l.take (k + 1)) = ends (l.take k) ++ [(recs (l.take (k + 1))).length] := by
  unfold ends
  rw [List.length_take, List.length_take, Nat.min_eq_left (by omega), Nat.min_eq_left (by omega), List.range_succ, List.map_append]
  congr 1
  · apply List.map_congr_left
    intro j hj
    rw [List.mem_range] at hj
    rw [List.take_take, List.take_take, Nat.min_eq_left (by omega), Nat.min_eq_left (by omega)]
  · simp [List.take_take]
end Go.Proofs.Ytlceembcehokoaa.Rc

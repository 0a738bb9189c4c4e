/- Small words. (Out of field's Read7.) -/
import Derived.Test.YthofodjklogfgaaRead6
namespace Go.Proofs.Ythofodjklogfgaa
open Go.RowKit ReadM

theorem wrap_small {n : Nat} (h : n ≤ 140737488355328) : wrap64 (n : Int) = (n : Int) := by unfold wrap64; omega
theorem u64_small {n : Nat} (h : (n : Int) ≤ 9223372036854775807) : IntKind.u64.wrap (n : Int) = (n : Int) := by rw [IntKind.wrap_u64]; omega
end Go.Proofs.Ythofodjklogfgaa

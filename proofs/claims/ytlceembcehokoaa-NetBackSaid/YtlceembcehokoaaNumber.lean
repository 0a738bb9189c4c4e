/- What the program's number computes. -/
import Derived.Test.YtlceembcehokoaaSame
import Derived.Lib.BitFns
namespace Go.Proofs.Ytlceembcehokoaa.Rc
set_option maxRecDepth 100000
open Go.RowKit

theorem u32_shl_or (v c : Nat) (hv : v < 16777216) (hc : c < 256) : bits .or .u32 ((v : Int) * 256) (c : Int) = ((v * 256 + c : Nat) : Int) := by
  rw [show (v : Int) * 256 = ((v * 256 : Nat) : Int) by omega]
  rw [u32_or_nat (v * 256) c (by omega) (by omega)]
  congr 1
  rw [show v * 256 = 2 ^ 8 * v by omega, ← Nat.two_pow_add_eq_or_of_lt (by omega) v]
set_option maxHeartbeats 1000000 in
theorem number_any (w : World) (A : Option Addr) (c : Nat) (d : List UInt8) (hr : Rd w w.heap.size A (d.map bv)) (hd : d.length = 4) :
    Calls Try.prog 114 #[.slice A 4 c] w fun e w' => e = .returned (.int .u32 (num d : Int)) ∧ w = w' := by
  have HR := Lib.hid hr
  clear hr
  go_enter Try.func114, Try.ntmps114
  go_wp2_with fail
  go_loopw [3, 8] (fun v3 v8 wr => ∃ k : Nat, k ≤ 4 ∧ v3 = .int .u32 (num (d.take k) : Int) ∧ v8 = .int .i64 (k : Int) ∧ w = wr) (fun _ v8 _ => 4 - (intOf v8).toNat)
  case atStart => exact ⟨0, by omega, rfl, rfl, rfl⟩
  case round =>
    obtain ⟨k, hk, rfl, rfl, rfl⟩ := hrel
    by_cases h4 : k < 4
    · obtain ⟨b, o, rfl, _, hc⟩ := HR.out.at_ (k := k) (by simp; omega)
      rw [List.getElem_map] at hc
      have hN := num_take (d := d) (k := k) (by omega)
      have hnl : num (d.take k) < 16777216 := by
        have h1 := num_lt (d.take k)
        have h2 : 256 ^ (d.take k).length ≤ 256 ^ 3 := Nat.pow_le_pow_right (by omega) (by rw [List.length_take]; omega)
        omega
      have hcb := (d[k]).toNat_lt
      generalize d[k] = x at hc hN hcb
      unfold bv at hc
      generalize num (d.take k) = m at hN hnl
      have HN := Lib.hid hN
      have HOR := Lib.hid (u32_shl_or m x.toNat hnl (by omega))
      clear hN
      have hk0 : (0 : Int) ≤ (k : Int) := by omega
      have hk4 : (k : Int) < 4 := by omega
      go_wp2_with fail
      go_roundw
      case rel => exact ⟨k + 1, by omega, by rw [HN.out, ← HOR.out], by go_num, trivial⟩
      case measure => simp [intOf]; omega
    · obtain rfl : k = 4 := by omega
      have HT := Lib.hid (show d.take 4 = d from List.take_of_length_le (by omega))
      rw [HT.out]
      go_wp2_with fail
      go_ret
      exact ⟨rfl, rfl⟩
end Go.Proofs.Ytlceembcehokoaa.Rc

/- What Key and Of answer, of the program and of the reference: the place of a word, the word of a place. -/
import Derived.Test.YthofodjklogfgaaMem
import Derived.Test.YthofodjklogfgaaFareMath
import Derived.Test.YthofodjklogfgaaLevel0
import Derived.Handy
import Derived.WalkLawsBesides
import Derived.Laws.BitsAllLaws
import Derived.Laws.BitsLemmas
namespace Go.Proofs.Ythofodjklogfgaa
open Go.RowKit

/-! ### bits -/
def W64 : Nat := 18446744073709551616
theorem and_top (u : Nat) (hu : u < 18446744073709551616) : bits .and .u64 (u : Int) 9223372036854775808 = if u < 9223372036854775808 then 0 else 9223372036854775808 := by
  have h := u64_and_nat u 9223372036854775808 hu (by omega)
  have e : u &&& 9223372036854775808 = if u < 9223372036854775808 then 0 else 9223372036854775808 := by
    have := nat_bit 63 u
    rw [show (2 : Nat) ^ 63 = 9223372036854775808 by decide] at this
    rw [this]
    split <;> omega
  rw [e] at h
  rw [show ((9223372036854775808 : Nat) : Int) = 9223372036854775808 by rfl] at h
  rw [h]
  split <;> rfl
theorem or_top (u : Nat) (hu : u < 9223372036854775808) : bits .or .u64 (u : Int) 9223372036854775808 = ((u + 9223372036854775808 : Nat) : Int) := by
  have h := u64_or_nat u 9223372036854775808 (by omega) (by omega)
  have e : u ||| 9223372036854775808 = 9223372036854775808 + u := by
    rw [Nat.or_comm]
    exact nat_join 63 9223372036854775808 u (by decide) (by omega)
  rw [e, Nat.add_comm] at h
  exact h
theorem nat_not64 (u : Nat) (hu : u < 18446744073709551616) : 18446744073709551615 ^^^ u = 18446744073709551615 - u := by
  have h := congrArg BitVec.toNat (BitVec.allOnes_xor (x := BitVec.ofNat 64 u))
  rw [BitVec.toNat_xor, BitVec.toNat_not, BitVec.toNat_allOnes, BitVec.toNat_ofNat, Nat.mod_eq_of_lt (by simpa using hu)] at h
  simpa using h
theorem xor_max (u : Nat) (hu : u < 18446744073709551616) : bits .xor .u64 IntKind.u64.max (u : Int) = ((18446744073709551615 - u : Nat) : Int) := by
  have h := u64_xor_nat 18446744073709551615 u (by omega) hu
  rw [nat_not64 u hu] at h
  exact h
theorem andNot_top (u : Nat) (h0 : 9223372036854775808 ≤ u) (hu : u < 18446744073709551616) : bits .andNot .u64 (u : Int) 9223372036854775808 = ((u - 9223372036854775808 : Nat) : Int) := by
  have h := u64_andNot_nat u 9223372036854775808 hu (by omega)
  have e : u &&& (18446744073709551615 - 9223372036854775808) = u - 9223372036854775808 := by
    have := Nat.and_two_pow_sub_one_eq_mod u 63
    rw [show (2 : Nat) ^ 63 - 1 = 18446744073709551615 - 9223372036854775808 by decide] at this
    rw [this]
    omega
  rw [e] at h
  exact h
theorem key_hi {u : Nat} (hu : u < 18446744073709551616) (h : (bits .and .u64 (u : Int) 9223372036854775808 != 0) = true) : bits .xor .u64 IntKind.u64.max (u : Int) = ((FareM.key u : Nat) : Int) := by
  rw [and_top u hu] at h
  rw [xor_max u hu]
  unfold FareM.key
  split at h
  · simp at h
  · rename_i h2; rw [if_neg h2]
theorem key_lo {u : Nat} (hu : u < 18446744073709551616) (h : (bits .and .u64 (u : Int) 9223372036854775808 != 0) = false) : bits .or .u64 (u : Int) 9223372036854775808 = ((FareM.key u : Nat) : Int) := by
  rw [and_top u hu] at h
  unfold FareM.key
  split at h
  · rename_i h2; rw [if_pos h2, or_top u h2]
  · simp at h
theorem of_lo {u : Nat} (hu : u < 18446744073709551616) (h : (bits .and .u64 (u : Int) 9223372036854775808 == 0) = true) : bits .xor .u64 IntKind.u64.max (u : Int) = ((FareM.of u : Nat) : Int) := by
  rw [and_top u hu] at h
  rw [xor_max u hu]
  unfold FareM.of
  split at h
  · rename_i h2; rw [if_pos h2]
  · simp at h
theorem of_hi {u : Nat} (hu : u < 18446744073709551616) (h : (bits .and .u64 (u : Int) 9223372036854775808 == 0) = false) : bits .andNot .u64 (u : Int) 9223372036854775808 = ((FareM.of u : Nat) : Int) := by
  rw [and_top u hu] at h
  unfold FareM.of
  split at h
  · simp at h
  · rename_i h2; rw [if_neg h2, andNot_top u (by omega) hu]

/-! ### the library's functions without a body -/
theorem run_f64bits (w : World) (b : Nat) : (callFunc 55 #[.float .f64 b]).run Try.prog w = .ok (.value (.int .u64 (b : Int))) w := by kernel_rfl
/-- a word out of an integer: behind a name, so that no walk counts it out -/
def f64of (n : Int) : Nat := n.toNat
theorem run_f64from_int (w : World) (n : Int) : (callFunc 62 #[.int .u64 n]).run Try.prog w = .ok (.value (.float .f64 (f64of n))) w := by kernel_rfl
theorem run_f64from (w : World) (b : Nat) : (callFunc 62 #[.int .u64 (b : Int)]).run Try.prog w = .ok (.value (.float .f64 b)) w := by kernel_rfl

theorem ret_u64 {a b : Int} (h : a = b) : Ending.returned (.int .u64 a) = .returned (.int .u64 b) := by rw [h]
theorem ret_f64 {a b : Nat} (h : a = b) : Ending.returned (.float .f64 a) = .returned (.float .f64 b) := by rw [h]

/-! ### Key, Of -/
theorem key_any (u : Nat) (hu : u < 18446744073709551616) (w : World) :
    Calls Try.prog 44 #[.float .f64 u] w fun e w' => e = .returned (.int .u64 (FareM.key u : Int)) ∧ w' = w := by
  have hb := fun w => run_f64bits w u
  have HU := Lib.hid hu
  clear hu
  go_enter Try.func44, Try.ntmps44
  go_wp2
  · go_ret
    exact ⟨ret_u64 (key_hi HU.out ‹_›), rfl⟩
  · go_ret
    exact ⟨ret_u64 (key_lo HU.out ‹_›), rfl⟩
theorem of_any (u : Nat) (hu : u < 18446744073709551616) (w : World) :
    Calls Try.prog 38 #[.int .u64 (u : Int)] w fun e w' => e = .returned (.float .f64 (FareM.of u)) ∧ w' = w := by
  have HU := Lib.hid hu
  by_cases h : (bits .and .u64 (u : Int) 9223372036854775808 == 0) = true
  · have e1 := of_lo hu h
    have hb := fun w => run_f64from w (FareM.of u)
    clear hu
    go_enter Try.func38, Try.ntmps38
    go_wp2
    go_ret
    exact ⟨rfl, rfl⟩
  · have h : (bits .and .u64 (u : Int) 9223372036854775808 == 0) = false := by simpa using h
    have e1 := of_hi hu h
    have hb := fun w => run_f64from w (FareM.of u)
    clear hu
    go_enter Try.func38, Try.ntmps38
    go_wp2
    go_ret
    exact ⟨rfl, rfl⟩
theorem refKey_any (u : Nat) (hu : u < 18446744073709551616) (w : World) :
    Calls Try.prog 33 #[.float .f64 u] w fun e w' => e = .returned (.int .u64 (FareM.key u : Int)) ∧ w' = w := by
  have hb := fun w => run_f64bits w u
  by_cases h : u < 9223372036854775808
  · have e1 : IntKind.u64.wrap ((u : Int) + 9223372036854775808) = (FareM.key u : Int) := by
      unfold FareM.key
      rw [if_pos h, IntKind.wrap_u64]
      omega
    have h1 : decide ((u : Int) < 9223372036854775808) = true := by simp; omega
    have HU := Lib.hid hu
    have HH := Lib.hid h
    have H1 := Lib.hid e1
    clear hu h e1
    go_enter Try.func33, Try.ntmps33
    go_wp2
    go_ret
    exact ⟨ret_u64 H1.out, rfl⟩
  · have e1 : IntKind.u64.wrap (18446744073709551615 - (u : Int)) = (FareM.key u : Int) := by
      unfold FareM.key
      rw [if_neg h, IntKind.wrap_u64]
      omega
    have h1 : decide ((u : Int) < 9223372036854775808) = false := by simp; omega
    have HU := Lib.hid hu
    have HH := Lib.hid h
    have H1 := Lib.hid e1
    clear hu h e1
    go_enter Try.func33, Try.ntmps33
    go_wp2
    go_ret
    exact ⟨ret_u64 H1.out, rfl⟩
theorem refOf_any (u : Nat) (hu : u < 18446744073709551616) (w : World) :
    Calls Try.prog 41 #[.int .u64 (u : Int)] w fun e w' => e = .returned (.float .f64 (FareM.of u)) ∧ w' = w := by
  have hb := fun w n => run_f64from_int w n
  by_cases h : u < 9223372036854775808
  · have e1 : f64of (IntKind.u64.wrap (18446744073709551615 - (u : Int))) = FareM.of u := by
      unfold FareM.of f64of
      rw [if_pos h, IntKind.wrap_u64]
      omega
    have h1 : decide ((u : Int) < 9223372036854775808) = true := by simp; omega
    have h2 : decide (9223372036854775808 ≤ (u : Int)) = false := by simp; omega
    have HU := Lib.hid hu
    have HE := Lib.hid e1
    clear hu h e1
    go_enter Try.func41, Try.ntmps41
    go_wp2
    go_ret
    exact ⟨ret_f64 HE.out, rfl⟩
  · have e1 : f64of (IntKind.u64.wrap ((u : Int) - 9223372036854775808)) = FareM.of u := by
      unfold FareM.of f64of
      rw [if_neg h, IntKind.wrap_u64]
      omega
    have h1 : 9223372036854775808 ≤ (u : Int) := by omega
    have HU := Lib.hid hu
    have HE := Lib.hid e1
    clear hu h e1
    go_enter Try.func41, Try.ntmps41
    go_wp2
    go_ret
    exact ⟨ret_f64 HE.out, rfl⟩

/-! ### Order, Rank -/
end Go.Proofs.Ythofodjklogfgaa

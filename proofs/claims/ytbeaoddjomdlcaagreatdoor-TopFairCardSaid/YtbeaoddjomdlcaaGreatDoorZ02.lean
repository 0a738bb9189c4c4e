/- Proved here, for the statement TopFairCardSaid: laws that its walk leans on. It holds with no condition. (Put together and shortened by a program out of many texts: FieldMath.) -/
import Derived.Test.YtbeaoddjomdlcaaGreatDoorZ00
import Derived.Lib.BitFns
set_option linter.unusedVariables false
set_option linter.unusedSimpArgs false
set_option maxRecDepth 100000
set_option maxHeartbeats 64000000
namespace Go.Proofs.YtbeaoddjomdlcaaGreatDoor.FieldM
open Go.Lib
def wid (n : Nat) : Nat := (Lib.bitLen n + 7) / 8
def be : Nat → Nat → List UInt8
  | 0, _ => []
  | k + 1, n => be k (n / 256) ++ [UInt8.ofNat (n % 256)]
def num (n : Nat) : List UInt8 := UInt8.ofNat (wid n) :: be (wid n) n
theorem be_length (k n : Nat) : (be k n).length = k := by
  induction k generalizing n with
  | zero => rfl
  | succ k ih => rw [be, List.length_append, ih]; rfl
theorem bitLen_zero : Lib.bitLen 0 = 0 := by decide
theorem bitLen_pos {n : Nat} (h0 : n ≠ 0) (h : n < 18446744073709551616) : 1 ≤ Lib.bitLen n := by
  rw [bitLen_half n h0 (by simpa using h)]; omega
theorem bitLen_small {n : Nat} (h : n < 256) : Lib.bitLen n ≤ 8 := Lib.bitLen_le8 ⟨n, h⟩
theorem wid_zero : wid 0 = 0 := by unfold wid; rw [bitLen_zero]
theorem wid_step {n : Nat} (h0 : n ≠ 0) (h : n < 18446744073709551616) : wid n = wid (n / 256) + 1 := by
  unfold wid
  by_cases hs : n < 256
  · have h1 := bitLen_pos h0 h
    have h2 := bitLen_small hs
    have : n / 256 = 0 := by omega
    rw [this, bitLen_zero]
    omega
  · rw [bitLen_shift8 n (by omega) h]
    omega
theorem wid_lt (k : Nat) : ∀ n, n < 18446744073709551616 → (n < 256 ^ k ↔ wid n ≤ k) := by
  induction k with
  | zero =>
    intro n h
    rw [Nat.pow_zero]
    by_cases h0 : n = 0
    · subst h0; rw [wid_zero]; omega
    · rw [wid_step h0 h]; omega
  | succ k ih =>
    intro n h
    by_cases h0 : n = 0
    · subst h0; rw [wid_zero]; simp [Nat.pow_pos]
    · rw [wid_step h0 h]
      have := ih (n / 256) (by omega)
      rw [Nat.pow_succ]
      omega
theorem wid_le {n : Nat} (h : n < 18446744073709551616) : wid n ≤ 8 := by
  have := (wid_lt 8 n h).1
  exact this (by simpa using h)
theorem num_length (n : Nat) : (num n).length = wid n + 1 := by unfold num; rw [List.length_cons, be_length]
theorem be_get (k n j : Nat) (hj : j < k) : (be k n)[j]? = some (UInt8.ofNat (n / 256 ^ (k - 1 - j) % 256)) := by
  induction k generalizing n with
  | zero => omega
  | succ k ih =>
    rw [be]
    by_cases h : j < k
    · rw [List.getElem?_append_left (by rw [be_length]; exact h), ih (n / 256) h]
      have e : k + 1 - 1 - j = (k - 1 - j) + 1 := by omega
      rw [e, Nat.pow_succ, Nat.mul_comm, ← Nat.div_div_eq_div_mul]
    · have : j = k := by omega
      subst this
      rw [List.getElem?_append_right (by rw [be_length]; omega), be_length]
      simp
theorem be_take_succ (k n j : Nat) (hj : j < k) : (be k n).take (j + 1) = (be k n).take j ++ [UInt8.ofNat (n / 256 ^ (k - 1 - j) % 256)] := by
  rw [List.take_add_one, be_get k n j hj]
  rfl
def pre (n j : Nat) : List UInt8 := UInt8.ofNat (wid n) :: (be (wid n) n).take j
theorem pre_zero (n : Nat) : pre n 0 = [UInt8.ofNat (wid n)] := rfl
theorem pre_all (n : Nat) : pre n (wid n) = num n := by unfold pre num; rw [List.take_of_length_le (by rw [be_length]; omega)]
theorem pre_step {n r : Nat} (h0 : 0 < r) (hr : r ≤ wid n) : pre n (wid n - (r - 1)) = pre n (wid n - r) ++ [UInt8.ofNat (n / 256 ^ (r - 1) % 256)] := by
  unfold pre
  rw [show wid n - (r - 1) = (wid n - r) + 1 by omega, be_take_succ _ _ _ (by omega), show wid n - 1 - (wid n - r) = r - 1 by omega]
  rfl
theorem shr_byte (n k : Nat) : (n : Int) / 2 ^ (8 * k) % 256 = ((UInt8.ofNat (n / 256 ^ k % 256)).toNat : Int) := by
  have e : (UInt8.ofNat (n / 256 ^ k % 256)).toNat = n / 256 ^ k % 256 := by rw [UInt8.toNat_ofNat']; omega
  have p : (2 : Nat) ^ (8 * k) = 256 ^ k := by rw [Nat.pow_mul]
  rw [e, ← p]
  rfl
theorem be_cons (k n : Nat) : be (k + 1) n = UInt8.ofNat (n / 256 ^ k % 256) :: be k n := by
  induction k generalizing n with
  | zero => simp [be]
  | succ k ih =>
    rw [be, ih (n / 256), be]
    have e : n / 256 / 256 ^ k = n / 256 ^ (k + 1) := by rw [Nat.div_div_eq_div_mul, Nat.pow_succ, Nat.mul_comm]
    rw [e]
    simp
def int (x : Int) : List UInt8 := if 0 ≤ x then num x.toNat else UInt8.ofNat (wid (-x).toNat + 16) :: be (wid (-x).toNat) (-x).toNat
def text (b : List UInt8) : List UInt8 := num b.length ++ b
def val : List UInt8 → Nat → Nat
  | [], a => a
  | b :: l, a => val l (a * 256 + b.toNat)
theorem val_append (l m : List UInt8) (a : Nat) : val (l ++ m) a = val m (val l a) := by
  induction l generalizing a with
  | nil => rfl
  | cons b l ih => exact ih _
theorem val_be (k n a : Nat) : val (be k n) a = a * 256 ^ k + n % 256 ^ k := by
  induction k generalizing n with
  | zero => simp [be, val, Nat.mod_one]
  | succ k ih =>
    rw [be, val_append, ih]
    have e : (UInt8.ofNat (n % 256)).toNat = n % 256 := by rw [UInt8.toNat_ofNat']; omega
    show (a * 256 ^ k + n / 256 % 256 ^ k) * 256 + (UInt8.ofNat (n % 256)).toNat = _
    rw [e, Nat.pow_succ, Nat.add_mul, Nat.mul_assoc, Nat.add_assoc]
    congr 1
    have h1 : n % (256 ^ k * 256) = 256 * (n / 256 % 256 ^ k) + n % 256 := by rw [Nat.mul_comm (256 ^ k), Nat.mod_mul]; omega
    rw [h1]
    omega
theorem val_be_wid {n : Nat} (h : n < 18446744073709551616) : val (be (wid n) n) 0 = n := by
  rw [val_be, Nat.zero_mul, Nat.zero_add]
  exact Nat.mod_eq_of_lt ((wid_lt _ n h).2 (Nat.le_refl _))
end Go.Proofs.YtbeaoddjomdlcaaGreatDoor.FieldM

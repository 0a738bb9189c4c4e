/- Proved here, for the statement TopFairCardSaid: laws that its walk leans on. It holds with no condition. (Put together and shortened by a program out of many texts: FareMath.) -/
import Derived.Test.YtbeaoddjomdlcaaGreatDoorZ00
set_option linter.unusedVariables false
set_option linter.unusedSimpArgs false
set_option maxRecDepth 100000
set_option maxHeartbeats 64000000
namespace Go.Proofs.YtbeaoddjomdlcaaGreatDoor.FareM
open Ieee
def mag (r : Nat) : Nat := if r < 4503599627370496 then r else (4503599627370496 + r % 4503599627370496) * 2 ^ (r / 4503599627370496 - 1)
theorem mag_succ (r : Nat) : mag r < mag (r + 1) := by
  unfold mag
  by_cases h1 : r + 1 < 4503599627370496
  · rw [if_pos (by omega), if_pos h1]; omega
  · by_cases h0 : r < 4503599627370496
    · rw [if_pos h0, if_neg h1]
      have : r + 1 = 4503599627370496 := by omega
      rw [this]
      simp
      omega
    · rw [if_neg h0, if_neg h1]
      by_cases hm : (r + 1) % 4503599627370496 = 0
      · have e1 : (r + 1) / 4503599627370496 = r / 4503599627370496 + 1 := by omega
        have e2 : r % 4503599627370496 = 4503599627370495 := by omega
        obtain ⟨k, hk⟩ : ∃ k, r / 4503599627370496 = k + 1 := ⟨r / 4503599627370496 - 1, by omega⟩
        rw [hm, e1, e2, hk]
        simp only [Nat.add_sub_cancel, Nat.pow_succ]
        have : 0 < 2 ^ k := Nat.pos_pow_of_pos' k
        omega
      · have e1 : (r + 1) / 4503599627370496 = r / 4503599627370496 := by omega
        have e2 : (r + 1) % 4503599627370496 = r % 4503599627370496 + 1 := by omega
        rw [e1, e2]
        have : 0 < 2 ^ (r / 4503599627370496 - 1) := Nat.pos_pow_of_pos' _
        rw [← Nat.add_assoc, Nat.add_mul _ 1]
        omega
where Nat.pos_pow_of_pos' (k : Nat) : 0 < 2 ^ k := Nat.pow_pos (by omega)
theorem mag_lt {a b : Nat} (h : a < b) : mag a < mag b := by
  induction b with
  | zero => omega
  | succ b ih =>
    rcases Nat.lt_or_ge a b with hb | hb
    · exact Nat.lt_trans (ih hb) (mag_succ b)
    · have : a = b := by omega
      subst this
      exact mag_succ a
theorem mag_lt_iff {a b : Nat} : mag a < mag b ↔ a < b := by
  constructor
  · intro h
    rcases Nat.lt_or_ge a b with hb | hb
    · exact hb
    · rcases Nat.eq_or_lt_of_le hb with e | e
      · subst e; omega
      · have := mag_lt e; omega
  · exact mag_lt
def rung (u : Nat) : Nat := u % 9223372036854775808
def neg (u : Nat) : Bool := u / 9223372036854775808 % 2 == 1
def nan (u : Nat) : Bool := decide (9218868437227405312 < rung u)
def worth (u : Nat) : Int := if neg u then -(mag (rung u) : Int) else (mag (rung u) : Int)
theorem binade_eq : double.binade = 4503599627370496 := by decide
theorem inf_eq : double.infRung = 9218868437227405312 := by decide
theorem sign_eq : double.signWeight = 9223372036854775808 := by decide
theorem least_eq : double.leastPlace = -1074 := by decide
theorem read_eq (u : Nat) : double.read u =
    if rung u < 4503599627370496 then .number (neg u) (rung u) (-1074)
    else if rung u < 9218868437227405312 then .number (neg u) (4503599627370496 + rung u % 4503599627370496) (-1074 + ((rung u / 4503599627370496 - 1 : Nat) : Int))
    else if rung u = 9218868437227405312 then .infinity (neg u)
    else .nan (neg u) (rung u - 9218868437227405312) := by
  unfold Format.read rung neg
  simp only [binade_eq, inf_eq, sign_eq, least_eq]
theorem read_number {u : Nat} (h : rung u < 9218868437227405312) : ∃ m e : Nat, double.read u = .number (neg u) m (-1074 + (e : Int)) ∧ mag (rung u) = m * 2 ^ e := by
  rw [read_eq]
  unfold mag
  by_cases h0 : rung u < 4503599627370496
  · rw [if_pos h0, if_pos h0]
    exact ⟨rung u, 0, by simp, by simp⟩
  · rw [if_neg h0, if_pos h, if_neg h0]
    exact ⟨_, _, rfl, rfl⟩
theorem read_inf {u : Nat} (h : rung u = 9218868437227405312) : double.read u = .infinity (neg u) := by
  rw [read_eq, if_neg (by omega), if_neg (by omega), if_pos h]
theorem read_nan {u : Nat} (h : nan u = true) : double.read u = .nan (neg u) (rung u - 9218868437227405312) := by
  have : 9218868437227405312 < rung u := by simpa [nan] using h
  rw [read_eq, if_neg (by omega), if_neg (by omega), if_neg (by omega)]
theorem signed_mul (s : Bool) (m k c : Nat) : signed s m (k + c) = signed s m k * (2 ^ c : Nat) := by
  unfold signed
  cases s <;> simp [Nat.shiftLeft_eq, Nat.pow_add, ← Nat.mul_assoc, Int.neg_mul]
theorem compare_mul (a b : Int) (c : Nat) : compare (a * (2 ^ c : Nat)) (b * (2 ^ c : Nat)) = compare a b := by
  have hc : (0 : Int) < (2 ^ c : Nat) := by
    have : 0 < 2 ^ c := Nat.pow_pos (by omega)
    omega
  simp only [compare, compareOfLessAndEq]
  have e1 : a * (2 ^ c : Nat) < b * (2 ^ c : Nat) ↔ a < b := Int.mul_lt_mul_right hc
  have e2 : a * (2 ^ c : Nat) = b * (2 ^ c : Nat) ↔ a = b := Int.mul_eq_mul_right_iff (by omega)
  simp only [e1, e2]
theorem cmp_lt {a b : Int} (h : a < b) : compare a b = .lt := by
  simp only [compare, compareOfLessAndEq]; rw [if_pos h]
theorem cmp_gt {a b : Int} (h : b < a) : compare a b = .gt := by
  simp only [compare, compareOfLessAndEq]; rw [if_neg (by omega), if_neg (by omega)]
theorem cmp_eq {a b : Int} (h : a = b) : compare a b = .eq := by
  subst h; simp only [compare, compareOfLessAndEq]; simp
theorem worth_eq {u m e : Nat} (h : mag (rung u) = m * 2 ^ e) : worth u = signed (neg u) m e := by
  unfold worth signed
  rw [h, Nat.shiftLeft_eq]
theorem order_eq {u v : Nat} (hu : nan u = false) (hv : nan v = false) : double.order u v = some (compare (worth u) (worth v)) := by
  have hu' : rung u ≤ 9218868437227405312 := by simpa [nan] using hu
  have hv' : rung v ≤ 9218868437227405312 := by simpa [nan] using hv
  unfold Format.order
  rcases Nat.eq_or_lt_of_le hu' with eu | lu
  · rw [read_inf eu]
    rcases Nat.eq_or_lt_of_le hv' with ev | lv
    · rw [read_inf ev]
      show some (compare (neg v).toNat (neg u).toNat) = _
      unfold worth
      rw [eu, ev]
      have hp : (0 : Int) < mag 9218868437227405312 := by
        have := mag_lt (show 0 < 9218868437227405312 by omega)
        omega
      generalize (mag 9218868437227405312 : Int) = M at hp
      cases neg u <;> cases neg v
      · rw [cmp_eq (by simp)]; rfl
      · rw [cmp_gt (by simp; omega)]; rfl
      · rw [cmp_lt (by simp; omega)]; rfl
      · rw [cmp_eq (by simp)]; rfl
    · obtain ⟨n, j, hr, hm⟩ := read_number lv
      rw [hr]
      show some (if neg u then Ordering.lt else Ordering.gt) = _
      have hlt : mag (rung v) < mag (rung u) := mag_lt (by omega)
      unfold worth
      generalize mag (rung v) = V at hlt
      generalize mag (rung u) = U at hlt
      cases neg u <;> cases neg v
      · rw [cmp_gt (by simp; omega)]; rfl
      · rw [cmp_gt (by simp; omega)]; rfl
      · rw [cmp_lt (by simp; omega)]; rfl
      · rw [cmp_lt (by simp; omega)]; rfl
  · obtain ⟨m, i, hr, hm⟩ := read_number lu
    rw [hr]
    rcases Nat.eq_or_lt_of_le hv' with ev | lv
    · rw [read_inf ev]
      show some (if neg v then Ordering.gt else Ordering.lt) = _
      have hlt : mag (rung u) < mag (rung v) := mag_lt (by omega)
      unfold worth
      generalize mag (rung v) = V at hlt
      generalize mag (rung u) = U at hlt
      cases neg u <;> cases neg v
      · rw [cmp_lt (by simp; omega)]; rfl
      · rw [cmp_gt (by simp; omega)]; rfl
      · rw [cmp_lt (by simp; omega)]; rfl
      · rw [cmp_gt (by simp; omega)]; rfl
    · obtain ⟨n, j, hr2, hm2⟩ := read_number lv
      rw [hr2]
      show some (compare (signed (neg u) m ((-1074 + (i : Int)) - min (-1074 + (i : Int)) (-1074 + (j : Int))).toNat) (signed (neg v) n ((-1074 + (j : Int)) - min (-1074 + (i : Int)) (-1074 + (j : Int))).toNat)) = _
      rw [worth_eq hm, worth_eq hm2]
      obtain ⟨c, hc1, hc2⟩ : ∃ c, i = ((-1074 + (i : Int)) - min (-1074 + (i : Int)) (-1074 + (j : Int))).toNat + c ∧ j = ((-1074 + (j : Int)) - min (-1074 + (i : Int)) (-1074 + (j : Int))).toNat + c := ⟨min i j, by omega, by omega⟩
      generalize ((-1074 + (i : Int)) - min (-1074 + (i : Int)) (-1074 + (j : Int))).toNat = a at hc1
      generalize ((-1074 + (j : Int)) - min (-1074 + (i : Int)) (-1074 + (j : Int))).toNat = b at hc2
      rw [hc1, hc2, signed_mul, signed_mul, compare_mul]
theorem order_nan_left {u : Nat} (v : Nat) (hu : nan u = true) : double.order u v = none := by
  unfold Format.order
  rw [read_nan hu]
  rfl
theorem order_nan_right (u : Nat) {v : Nat} (hv : nan v = true) : double.order u v = none := by
  unfold Format.order
  rw [read_nan hv]
  cases double.read u <;> rfl
def key (u : Nat) : Nat := if u < 9223372036854775808 then u + 9223372036854775808 else 18446744073709551615 - u
def of (k : Nat) : Nat := if k < 9223372036854775808 then 18446744073709551615 - k else k - 9223372036854775808
def sgnI (a b : Int) : Int := if a < b then -1 else if b < a then 1 else 0
def rank (u v : Nat) : Int := if nan u then (if nan v then 0 else -1) else if nan v then 1 else sgnI (worth u) (worth v)
theorem key_lt {u : Nat} (h : u < 18446744073709551616) : key u < 18446744073709551616 := by unfold key; split <;> omega
theorem of_lt {u : Nat} (h : u < 18446744073709551616) : of u < 18446744073709551616 := by unfold of; split <;> omega
theorem key_of {k : Nat} (h : k < 18446744073709551616) : key (of k) = k := by unfold key of; split <;> split <;> omega
theorem of_key {k : Nat} (h : k < 18446744073709551616) : of (key k) = k := by unfold key of; split <;> split <;> omega
end Go.Proofs.YtbeaoddjomdlcaaGreatDoor.FareM

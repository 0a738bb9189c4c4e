/- Codes of numbers as bytes stand in the order of the numbers; no code of a whole number begins another's: plain Lean. -/
import Derived.Test.YtlceembcehokoaaFieldMath
import GoSem.Op.String
namespace Go.Proofs.Ytlceembcehokoaa.FieldM
open Go.Lib

theorem ofNat_lt {a b : Nat} (ha : a < 256) (hb : b < 256) : (UInt8.ofNat a < UInt8.ofNat b) ↔ a < b := by
  rw [UInt8.lt_iff_toNat_lt, UInt8.toNat_ofNat', UInt8.toNat_ofNat']; omega
theorem ofNat_inj {a b : Nat} (ha : a < 256) (hb : b < 256) : (UInt8.ofNat a = UInt8.ofNat b) ↔ a = b := by
  constructor
  · intro h
    have := congrArg UInt8.toNat h
    rw [UInt8.toNat_ofNat', UInt8.toNat_ofNat'] at this
    omega
  · rintro rfl; rfl
theorem less_ofNat (a b : Nat) (x y : List UInt8) (ha : a < 256) (hb : b < 256) : Op.bytesLess (UInt8.ofNat a :: x) (UInt8.ofNat b :: y) = if a < b then true else if a = b then Op.bytesLess x y else false := by
  rw [Op.bytesLess]
  by_cases h : a < b
  · rw [if_pos h]; simp [(ofNat_lt ha hb).2 h]
  · have h1 : ¬ UInt8.ofNat a < UInt8.ofNat b := fun hh => h ((ofNat_lt ha hb).1 hh)
    rw [if_neg h]
    by_cases h2 : a = b
    · subst h2; simp [h1]
    · have h3 : ¬ UInt8.ofNat a = UInt8.ofNat b := fun hh => h2 ((ofNat_inj ha hb).1 hh)
      rw [if_neg h2]; simp [h1, h3]
theorem be_mod (k n : Nat) : be k (n % 256 ^ k) = be k n := by
  induction k generalizing n with
  | zero => rfl
  | succ k ih =>
    rw [be, be, ← ih (n / 256)]
    have e1 : n % 256 ^ (k + 1) / 256 = n / 256 % 256 ^ k := by rw [Nat.pow_succ, Nat.mul_comm, Nat.mod_mul, Nat.add_mul_div_left _ _ (by omega), Nat.div_eq_of_lt (Nat.mod_lt _ (by omega)), Nat.zero_add]
    have e2 : n % 256 ^ (k + 1) % 256 = n % 256 := by rw [Nat.pow_succ]; exact Nat.mod_mul_left_mod n (256 ^ k) 256
    rw [e1, e2]
theorem be_less (k : Nat) : ∀ a b, a < 256 ^ k → b < 256 ^ k → Op.bytesLess (be k a) (be k b) = decide (a < b) := by
  induction k with
  | zero =>
    intro a b ha hb
    have : a = 0 := by simpa using ha
    have : b = 0 := by simpa using hb
    subst a b
    rfl
  | succ k ih =>
    intro a b ha hb
    have hp : 0 < 256 ^ k := Nat.pow_pos (by omega)
    rw [Nat.pow_succ] at ha hb
    have ha1 : a / 256 ^ k < 256 := Nat.div_lt_of_lt_mul ha
    have hb1 : b / 256 ^ k < 256 := Nat.div_lt_of_lt_mul hb
    rw [be_cons, be_cons, Nat.mod_eq_of_lt ha1, Nat.mod_eq_of_lt hb1, less_ofNat _ _ _ _ ha1 hb1, ← be_mod k a, ← be_mod k b, ih _ _ (Nat.mod_lt _ hp) (Nat.mod_lt _ hp)]
    have da := Nat.div_add_mod a (256 ^ k)
    have db := Nat.div_add_mod b (256 ^ k)
    have ra := Nat.mod_lt a hp
    have rb := Nat.mod_lt b hp
    generalize 256 ^ k = p at *
    generalize a / p = qa at *
    generalize b / p = qb at *
    generalize a % p = xa at *
    generalize b % p = xb at *
    by_cases h : qa < qb
    · rw [if_pos h]
      have : p * (qa + 1) ≤ p * qb := Nat.mul_le_mul_left _ h
      rw [Nat.mul_add] at this
      symm; rw [decide_eq_true_eq]; omega
    · rw [if_neg h]
      by_cases h2 : qa = qb
      · subst h2
        rw [if_pos rfl]
        rw [Bool.eq_iff_iff, decide_eq_true_eq, decide_eq_true_eq]; omega
      · rw [if_neg h2]
        have : p * (qb + 1) ≤ p * qa := Nat.mul_le_mul_left _ (by omega)
        rw [Nat.mul_add] at this
        symm; rw [decide_eq_false_iff_not]; omega
theorem num_less {a b : Nat} (ha : a < 18446744073709551616) (hb : b < 18446744073709551616) : Op.bytesLess (num a) (num b) = decide (a < b) := by
  unfold num
  have wa := wid_le ha
  have wb := wid_le hb
  rw [less_ofNat _ _ _ _ (by omega) (by omega)]
  by_cases h : wid a < wid b
  · rw [if_pos h]
    have h1 := (wid_lt (wid a) a ha).2 (Nat.le_refl _)
    have h2 : ¬ b < 256 ^ wid a := fun hh => by have := (wid_lt (wid a) b hb).1 hh; omega
    symm; rw [decide_eq_true_eq]; omega
  · rw [if_neg h]
    by_cases h2 : wid a = wid b
    · rw [if_pos h2, h2]
      exact be_less _ _ _ ((wid_lt _ a ha).2 (by omega)) ((wid_lt _ b hb).2 (Nat.le_refl _))
    · rw [if_neg h2]
      have h1 := (wid_lt (wid b) b hb).2 (Nat.le_refl _)
      have h3 : ¬ a < 256 ^ wid b := fun hh => by have := (wid_lt (wid b) a ha).1 hh; omega
      symm; rw [decide_eq_false_iff_not]; omega
theorem num_inj {a b : Nat} (ha : a < 18446744073709551616) (hb : b < 18446744073709551616) (h : num a = num b) : a = b := by
  have h1 := num_less ha hb
  have h2 := num_less hb ha
  rw [h] at h1 h2
  rw [h1] at h2
  by_cases c1 : a < b
  · have c2 : ¬ b < a := by omega
    rw [decide_eq_true c1, decide_eq_false c2] at h2
    cases h2
  · by_cases c2 : b < a
    · rw [decide_eq_false c1, decide_eq_true c2] at h2
      cases h2
    · omega
theorem num_beq {a b : Nat} (ha : a < 18446744073709551616) (hb : b < 18446744073709551616) : (num a == num b) = decide (a = b) := by
  by_cases h : a = b
  · subst h; simp
  · rw [decide_eq_false h, beq_eq_false_iff_ne]
    exact fun hh => h (num_inj ha hb hh)

/-! ### whole numbers -/
/-- the first byte of a whole number's code, as a number -/
def first (x : Int) : Nat := if 0 ≤ x then wid x.natAbs else wid x.natAbs + 16
theorem int_eq (x : Int) : int x = UInt8.ofNat (first x) :: be (wid x.natAbs) x.natAbs := by
  unfold int first num
  split
  · rw [show x.toNat = x.natAbs by omega]
  · rw [show (-x).toNat = x.natAbs by omega]
theorem first_lt {x : Int} (h1 : -9223372036854775808 ≤ x) (h2 : x ≤ 9223372036854775807) : first x < 256 ∧ wid x.natAbs ≤ 8 := by
  have := wid_le (n := x.natAbs) (by omega)
  unfold first
  split <;> omega
theorem int_apart {a b : Int} (ha1 : -9223372036854775808 ≤ a) (ha2 : a ≤ 9223372036854775807) (hb1 : -9223372036854775808 ≤ b) (hb2 : b ≤ 9223372036854775807)
    (h : (int a).take (min (int a).length (int b).length) = (int b).take (min (int a).length (int b).length)) : a = b := by
  have fa := first_lt ha1 ha2
  have fb := first_lt hb1 hb2
  rw [int_length, int_length] at h
  obtain ⟨m, hm⟩ : ∃ m, min (wid a.natAbs + 1) (wid b.natAbs + 1) = m + 1 := ⟨min (wid a.natAbs) (wid b.natAbs), by omega⟩
  rw [hm, int_eq, int_eq, List.take_succ_cons, List.take_succ_cons] at h
  injection h with h1 h2
  have h3 := (ofNat_inj fa.1 fb.1).1 h1
  unfold first at h3
  have hw : wid a.natAbs = wid b.natAbs ∧ (0 ≤ a ↔ 0 ≤ b) := by
    split at h3 <;> split at h3 <;> omega
  rw [List.take_of_length_le (by rw [be_length]; omega), List.take_of_length_le (by rw [be_length]; omega), hw.1] at h2
  have h4 : a.natAbs = b.natAbs := by
    have v1 := val_be (wid b.natAbs) a.natAbs 0
    have v2 := val_be (wid b.natAbs) b.natAbs 0
    rw [h2, v2, Nat.mod_eq_of_lt ((wid_lt _ a.natAbs (by omega)).2 (by omega)), Nat.mod_eq_of_lt ((wid_lt _ b.natAbs (by omega)).2 (Nat.le_refl _))] at v1
    omega
  omega
theorem int_apart_beq {a b : Int} (ha1 : -9223372036854775808 ≤ a) (ha2 : a ≤ 9223372036854775807) (hb1 : -9223372036854775808 ≤ b) (hb2 : b ≤ 9223372036854775807) :
    ((int a).take (min (int a).length (int b).length) == (int b).take (min (int a).length (int b).length)) = (a == b) := by
  by_cases h : a = b
  · subst h; simp
  · rw [beq_eq_false_iff_ne.2 h, beq_eq_false_iff_ne]
    exact fun hh => h (int_apart ha1 ha2 hb1 hb2 hh)
end Go.Proofs.Ytlceembcehokoaa.FieldM

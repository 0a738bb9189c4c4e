/- Proved here, for the statement TopFairCardSaid: laws that its walk leans on. It holds with no condition. (Put together and shortened by a program out of many texts: FareRound.) -/
import Derived.Test.YtbeaoddjomdlcaaGreatDoorZ11
set_option linter.unusedVariables false
set_option linter.unusedSimpArgs false
set_option maxRecDepth 100000
set_option maxHeartbeats 64000000
namespace Go.Proofs.YtbeaoddjomdlcaaGreatDoor.FareM
open Ieee
def E1 : Nat := 1074
def E2 : Nat := 2200
def E3 : Nat := 1126
theorem E1_eq : E1 = 1074 := rfl
theorem E2_eq : E2 = 2200 := rfl
theorem E21 : E2 = E1 + E3 := rfl
theorem E31 : E3 = E1 + 52 := rfl
def rne (n g : Nat) : Nat := n / g + if g < 2 * (n % g) ∨ (g = 2 * (n % g) ∧ n / g % 2 = 1) then 1 else 0
theorem cut_even (neg : Bool) (n drop : Nat) : Toward.even.cut neg n drop = rne n (2 ^ drop) := by
  unfold Toward.cut rne
  by_cases h : drop ≤ n.log2 + 2
  · rw [Nat.min_eq_left h]
    simp only [Nat.shiftLeft_eq, Nat.one_mul]
    congr 1
    by_cases h1 : 2 ^ drop < 2 * (n % 2 ^ drop)
    · simp [h1]
    · by_cases h2 : 2 ^ drop = 2 * (n % 2 ^ drop)
      · by_cases h3 : n / 2 ^ drop % 2 = 1
        · rw [if_pos (.inr ⟨h2, h3⟩)]
          simp only [beq_iff_eq.2 h2, beq_iff_eq.2 h3]
          simp
        · rw [if_neg (by rintro (h | ⟨_, h⟩); exact h1 h; exact h3 h)]
          have e3 : (n / 2 ^ drop % 2 == 1) = false := by simpa using h3
          simp only [e3]
          simp [h1]
      · rw [if_neg (by rintro (h | ⟨h, _⟩); exact h1 h; exact h2 h)]
        have e2 : (2 ^ drop == 2 * (n % 2 ^ drop)) = false := by simpa using h2
        simp only [e2]
        simp [h1]
  · rw [Nat.min_eq_right (by omega)]
    simp only [Nat.shiftLeft_eq, Nat.one_mul]
    have hl : n < 2 ^ (n.log2 + 1) := Nat.lt_log2_self
    have h2 : 2 ^ (n.log2 + 2) = 2 * 2 ^ (n.log2 + 1) := by rw [Nat.pow_succ]; omega
    have h3 : 2 ^ (n.log2 + 2) ≤ 2 ^ drop := Nat.pow_le_pow_right (by omega) (by omega)
    rw [Nat.div_eq_of_lt (by omega), Nat.mod_eq_of_lt (show n < 2 ^ (n.log2 + 2) by omega), Nat.div_eq_of_lt (show n < 2 ^ drop by omega), Nat.mod_eq_of_lt (show n < 2 ^ drop by omega)]
    rw [if_neg (by omega)]
    have e1 : ¬ 2 ^ (n.log2 + 2) < 2 * n := by omega
    simp [e1]
theorem rne_scale (n g c : Nat) (hc : 0 < c) : rne (n * c) (g * c) = rne n g := by
  unfold rne
  rw [Nat.mul_div_mul_right _ _ hc, Nat.mul_mod_mul_right]
  have e1 : g * c < 2 * (n % g * c) ↔ g < 2 * (n % g) := by rw [← Nat.mul_assoc]; exact Nat.mul_lt_mul_right hc
  have e2 : g * c = 2 * (n % g * c) ↔ g = 2 * (n % g) := by rw [← Nat.mul_assoc]; exact Nat.mul_right_cancel_iff hc
  simp only [e1, e2]
theorem rne_up (n g : Nat) (hg : 0 < g) : 2 * n ≤ (2 * rne n g + 1) * g ∧ (2 * n = (2 * rne n g + 1) * g → rne n g % 2 = 0) := by
  have h1 := Nat.div_add_mod n g
  have h2 := Nat.mod_lt n hg
  unfold rne
  generalize n / g = q at *
  generalize n % g = t at *
  rw [Nat.mul_comm g q] at h1
  split
  · have e : (2 * (q + 1) + 1) * g = 2 * (q * g) + 3 * g := by rw [Nat.add_mul, Nat.mul_assoc, Nat.add_mul]; omega
    rw [e]
    omega
  · rename_i h
    simp only [Nat.add_zero]
    have e : (2 * q + 1) * g = 2 * (q * g) + g := by rw [Nat.add_mul, Nat.mul_assoc, Nat.one_mul]
    rw [e]
    refine ⟨by omega, fun he => ?_⟩
    have ht : g = 2 * t := by omega
    rcases Nat.mod_two_eq_zero_or_one q with hq | hq
    · exact hq
    · exact absurd (.inr ⟨ht, hq⟩) h
theorem rne_low (n g : Nat) (hg : 0 < g) : 2 * rne n g * g ≤ 2 * n + g ∧ (2 * rne n g * g = 2 * n + g → rne n g % 2 = 0) := by
  have h1 := Nat.div_add_mod n g
  have h2 := Nat.mod_lt n hg
  unfold rne
  generalize n / g = q at *
  generalize n % g = t at *
  rw [Nat.mul_comm g q] at h1
  split
  · rename_i h
    have e : 2 * (q + 1) * g = 2 * (q * g) + 2 * g := by rw [Nat.mul_add, Nat.add_mul, Nat.mul_assoc]
    rw [e]
    refine ⟨by omega, fun he => ?_⟩
    omega
  · rw [Nat.add_zero]
    have e : 2 * q * g = 2 * (q * g) := by rw [Nat.mul_assoc]
    rw [e]
    omega
theorem rne_mono (a b g : Nat) (hg : 0 < g) (h : a ≤ b) : rne a g ≤ rne b g := by
  obtain ⟨l1, l2⟩ := rne_low a g hg
  obtain ⟨u1, u2⟩ := rne_up b g hg
  generalize rne a g = r at *
  generalize rne b g = s at *
  rcases Nat.lt_or_ge s r with hlt | hge
  · exfalso
    have e : (2 * s + 1) * g = 2 * s * g + g := by rw [Nat.add_mul, Nat.one_mul]
    rw [e] at u1 u2
    rcases Nat.lt_or_ge (s + 1) r with h2 | h2
    · have h3 : 2 * (s + 2) * g ≤ 2 * r * g := Nat.mul_le_mul_right _ (by omega)
      have e2 : 2 * (s + 2) * g = 2 * s * g + 4 * g := by rw [Nat.mul_add, Nat.add_mul]
      omega
    · obtain rfl : r = s + 1 := by omega
      have e2 : 2 * (s + 1) * g = 2 * s * g + 2 * g := by rw [Nat.mul_add, Nat.add_mul]
      rw [e2] at l1 l2
      have := l2 (by omega)
      have := u2 (by omega)
      omega
  · exact hge
theorem rne_exact (c g : Nat) (hg : 0 < g) : rne (c * g) g = c := by
  unfold rne
  rw [Nat.mul_div_cancel _ hg, Nat.mul_mod_left]
  rw [if_neg (by omega)]
  rfl
def last (X : Nat) : Nat := max (X.log2 - 52) 1126
def R (X : Nat) : Nat := if X = 0 then 0 else (last X - 1126) * 4503599627370496 + rne X (2 ^ last X)
theorem log2_mono {X Y : Nat} (hX : X ≠ 0) (h : X ≤ Y) : X.log2 ≤ Y.log2 := (Nat.le_log2 (by omega)).2 (Nat.le_trans (Nat.log2_self_le hX) h)
theorem kept_le {X : Nat} (hX : X ≠ 0) : rne X (2 ^ last X) ≤ 9007199254740992 := by
  have h1 : X < 2 ^ (X.log2 + 1) := Nat.lt_log2_self
  have h2 : 2 ^ (X.log2 + 1) ≤ 2 ^ (53 + last X) := Nat.pow_le_pow_right (by omega) (by unfold last; omega)
  have h3 := rne_mono X (2 ^ 53 * 2 ^ last X) (2 ^ last X) (Nat.two_pow_pos _) (by rw [← Nat.pow_add]; omega)
  rw [rne_exact _ _ (Nat.two_pow_pos _)] at h3
  exact h3
theorem kept_ge {X : Nat} (hX : X ≠ 0) (h : 1126 + 52 ≤ X.log2) : 4503599627370496 ≤ rne X (2 ^ last X) := by
  have h1 : 2 ^ X.log2 ≤ X := Nat.log2_self_le hX
  have h2 : X.log2 = 52 + last X := by unfold last; omega
  have h3 := rne_mono (2 ^ 52 * 2 ^ last X) X (2 ^ last X) (Nat.two_pow_pos _) (by rw [← Nat.pow_add, ← h2]; exact h1)
  rw [rne_exact _ _ (Nat.two_pow_pos _)] at h3
  exact h3
theorem R_mono {X Y : Nat} (h : X ≤ Y) : R X ≤ R Y := by
  unfold R
  by_cases hX : X = 0
  · rw [if_pos hX]; exact Nat.zero_le _
  · rw [if_neg hX, if_neg (by omega)]
    have hl := log2_mono hX h
    have hll : last X ≤ last Y := by unfold last; omega
    rcases Nat.eq_or_lt_of_le hll with e | lt
    · rw [e]
      exact Nat.add_le_add_left (rne_mono _ _ _ (Nat.two_pow_pos _) h) _
    · have k1 := kept_le hX
      have k2 := kept_ge (X := Y) (by omega) (by unfold last at lt; omega)
      have h3 : 1126 ≤ last X := by unfold last; omega
      generalize rne X (2 ^ last X) = a at *
      generalize rne Y (2 ^ last Y) = b at *
      generalize last X = p at *
      generalize last Y = q at *
      omega
theorem log2_shift {m : Nat} (k : Nat) (hm : m ≠ 0) : (m * 2 ^ k).log2 = m.log2 + k := by
  have hp : 0 < 2 ^ k := Nat.two_pow_pos _
  have hne : m * 2 ^ k ≠ 0 := Nat.mul_ne_zero hm (by omega)
  apply Nat.le_antisymm
  · have h1 : m < 2 ^ (m.log2 + 1) := Nat.lt_log2_self
    have h2 : m * 2 ^ k < 2 ^ (m.log2 + 1 + k) := by rw [Nat.pow_add]; exact Nat.mul_lt_mul_of_pos_right h1 hp
    have := (Nat.log2_lt hne).2 h2
    omega
  · refine (Nat.le_log2 hne).2 ?_
    rw [Nat.pow_add]
    exact Nat.mul_le_mul_right _ (Nat.log2_self_le hm)
theorem nearest_eq (s : Bool) (m k : Nat) : double.nearest s m ((k : Int) - 2200) = double.word s (min (R (m * 2 ^ k)) 9218868437227405312) := by
  unfold Format.nearest
  by_cases hm : m = 0
  · rw [if_pos hm, hm, Nat.zero_mul]
    simp [R]
  · rw [if_neg hm]
    have hne : m * 2 ^ k ≠ 0 := Nat.mul_ne_zero hm (by have := Nat.two_pow_pos k; omega)
    have hlast : max ((k : Int) - 2200 + (m.log2 : Nat) - (double.fractionBits : Nat)) double.leastPlace = (last (m * 2 ^ k) : Int) - 2200 := by
      rw [least_eq, show (double.fractionBits : Int) = 52 from rfl]
      unfold last
      rw [log2_shift k hm]
      omega
    simp only [hlast]
    rw [least_eq, binade_eq, inf_eq]
    have h1126 : 1126 ≤ last (m * 2 ^ k) := by unfold last; omega
    congr 1
    congr 1
    unfold R
    rw [if_neg hne]
    generalize last (m * 2 ^ k) = L at h1126
    rw [show ((L : Int) - 2200 - -1074).toNat = L - 1126 by omega]
    congr 1
    rw [cut_even, Nat.shiftLeft_eq, show ((k : Int) - 2200 - ((L : Int) - 2200)).toNat = k - L by omega, show ((L : Int) - 2200 - ((k : Int) - 2200)).toNat = L - k by omega]
    rcases Nat.le_total k L with h | h
    · rw [show k - L = 0 by omega, Nat.pow_zero, Nat.mul_one]
      have := rne_scale m (2 ^ (L - k)) (2 ^ k) (Nat.two_pow_pos _)
      rw [← Nat.pow_add, show L - k + k = L by omega] at this
      exact this.symm
    · rw [show L - k = 0 by omega, Nat.pow_zero]
      have := rne_scale (m * 2 ^ (k - L)) 1 (2 ^ L) (Nat.two_pow_pos _)
      rw [Nat.one_mul, Nat.mul_assoc, ← Nat.pow_add, show k - L + L = k by omega] at this
      exact this.symm
theorem R_whole {k : Nat} (h0 : k ≠ 0) (hk : k.log2 ≤ 51) : R (k * 2 ^ E2) = (k.log2 + 1022) * 4503599627370496 + k * 2 ^ (52 - k.log2) := by
  have hne : k * 2 ^ E2 ≠ 0 := Nat.mul_ne_zero h0 (by have := Nat.two_pow_pos E2; omega)
  unfold R
  rw [if_neg hne]
  have hl : last (k * 2 ^ E2) = k.log2 + 2148 := by unfold last; rw [log2_shift _ h0, E2_eq]; omega
  rw [hl, show k.log2 + 2148 - 1126 = k.log2 + 1022 by omega]
  have e : k * 2 ^ E2 = k * 2 ^ (52 - k.log2) * 2 ^ (k.log2 + 2148) := by
    rw [Nat.mul_assoc, ← Nat.pow_add, show 52 - k.log2 + (k.log2 + 2148) = E2 by rw [E2_eq]; omega]
  rw [e, rne_exact _ _ (Nat.two_pow_pos _)]
theorem whole_kept {k : Nat} (h0 : k ≠ 0) (hk : k.log2 ≤ 51) : 4503599627370496 ≤ k * 2 ^ (52 - k.log2) ∧ k * 2 ^ (52 - k.log2) < 9007199254740992 := by
  have h1 : 2 ^ k.log2 ≤ k := Nat.log2_self_le h0
  have h2 : k < 2 ^ (k.log2 + 1) := Nat.lt_log2_self
  have hp : 0 < 2 ^ (52 - k.log2) := Nat.two_pow_pos _
  have e1 : 2 ^ k.log2 * 2 ^ (52 - k.log2) = 2 ^ 52 := by rw [← Nat.pow_add, show k.log2 + (52 - k.log2) = 52 by omega]
  have e2 : 2 ^ (k.log2 + 1) * 2 ^ (52 - k.log2) = 2 ^ 53 := by rw [← Nat.pow_add, show k.log2 + 1 + (52 - k.log2) = 53 by omega]
  have h3 := Nat.mul_le_mul_right (2 ^ (52 - k.log2)) h1
  have h4 := Nat.mul_lt_mul_of_pos_right h2 hp
  rw [e1] at h3
  rw [e2] at h4
  exact ⟨h3, h4⟩
theorem mag_whole {k : Nat} (hk : k.log2 ≤ 51) : mag (R (k * 2 ^ E2)) = k * 2 ^ E1 ∧ R (k * 2 ^ E2) < 9218868437227405312 := by
  by_cases h0 : k = 0
  · subst h0; rw [Nat.zero_mul, Nat.zero_mul]; simp [R, mag]
  · rw [R_whole h0 hk]
    obtain ⟨h1, h2⟩ := whole_kept h0 hk
    have e3 : k * 2 ^ E1 = k * 2 ^ (52 - k.log2) * 2 ^ (k.log2 + 1022) := by
      rw [Nat.mul_assoc, ← Nat.pow_add, show 52 - k.log2 + (k.log2 + 1022) = E1 by rw [E1_eq]; omega]
    rw [e3]
    generalize k * 2 ^ (52 - k.log2) = c at h1 h2
    generalize k.log2 = l at hk
    unfold mag
    refine ⟨?_, by omega⟩
    rw [if_neg (by omega), show ((l + 1022) * 4503599627370496 + c) / 4503599627370496 - 1 = l + 1022 by omega, show ((l + 1022) * 4503599627370496 + c) % 4503599627370496 = c - 4503599627370496 by omega, show 4503599627370496 + (c - 4503599627370496) = c by omega]
theorem log2_small {k : Nat} (h : k < 4503599627370496) : k.log2 ≤ 51 := by
  by_cases h0 : k = 0
  · subst h0; decide
  · have := (Nat.log2_lt (k := 52) h0).2 (by simpa using h); omega
def fl (k : Nat) : Nat := R (k * 2 ^ E2)
theorem word_pos (r : Nat) : double.word false r = r := rfl
theorem nearest_fl {k : Nat} (h : k < 4503599627370496) : FloatKind.f64.nearest (k : Int) = fl k := by
  have h1 := nearest_eq false k E2
  rw [show ((E2 : Nat) : Int) - 2200 = 0 by rw [E2_eq]; omega, word_pos, Nat.min_eq_left (Nat.le_of_lt (mag_whole (log2_small h)).2)] at h1
  unfold fl
  rw [← h1]
  unfold FloatKind.nearest FloatKind.encode
  show double.nearest (decide ((k : Int) < 0)) (k : Int).natAbs 0 = _
  rw [show decide ((k : Int) < 0) = false by simp, Int.natAbs_natCast]
theorem fl_lt {k : Nat} (h : k < 4503599627370496) : fl k < 9218868437227405312 := (mag_whole (log2_small h)).2
theorem fl_mag {k : Nat} (h : k < 4503599627370496) : mag (fl k) = k * 2 ^ E1 := (mag_whole (log2_small h)).1
theorem low_rung {u : Nat} (h : u < 9218868437227405312) : rung u = u ∧ neg u = false := by
  unfold rung neg
  refine ⟨by omega, ?_⟩
  rw [Nat.div_eq_of_lt (by omega)]
  rfl
theorem low_worth {u : Nat} (h : u < 9218868437227405312) : worth u = (mag u : Int) ∧ nan u = false := by
  obtain ⟨h1, h2⟩ := low_rung h
  unfold worth nan
  rw [h1, h2]
  exact ⟨rfl, by simp; omega⟩
theorem mul_fl {u k : Nat} (hu : u < 9218868437227405312) (hk : k < 4503599627370496) : double.mul u (fl k) = some (min (R (mag u * k * 2 ^ E3)) 9218868437227405312) := by
  obtain ⟨r1, n1⟩ := low_rung hu
  obtain ⟨r2, n2⟩ := low_rung (fl_lt hk)
  obtain ⟨m, e, h1, h2⟩ := read_number (u := u) (by rw [r1]; exact hu)
  obtain ⟨m', e', h3, h4⟩ := read_number (u := fl k) (by rw [r2]; exact fl_lt hk)
  rw [r1] at h2
  rw [r2, fl_mag hk] at h4
  rw [n1] at h1
  rw [n2] at h3
  unfold Format.mul
  rw [h1, h3]
  show some (double.nearest (false ^^ false) (m * m') (-1074 + (e : Int) + (-1074 + (e' : Int)))) = _
  have hp : (-1074 + (e : Int) + (-1074 + (e' : Int))) = ((e + e' + 52 : Nat) : Int) - 2200 := by omega
  have harg : m * m' * 2 ^ (e + e' + 52) = mag u * k * 2 ^ E3 := by
    have : m * m' * 2 ^ (e + e' + 52) = m * 2 ^ e * (m' * 2 ^ e') * 2 ^ 52 := by
      rw [Nat.pow_add, Nat.pow_add]
      simp only [Nat.mul_assoc, Nat.mul_left_comm, Nat.mul_comm]
    rw [this, ← h4, h2, E31, Nat.pow_add]
    simp only [Nat.mul_assoc]
  rw [hp, nearest_eq, harg, show (false ^^ false) = false from rfl, word_pos]
def prod (u k : Nat) : Nat := R (mag u * k * 2 ^ E3)
theorem prod_le {u k : Nat} (hu : mag u ≤ 2 ^ E1) : prod u k ≤ fl k := by
  refine R_mono ?_
  rw [E21, Nat.pow_add, ← Nat.mul_assoc]
  refine Nat.mul_le_mul_right _ ?_
  rw [Nat.mul_comm]
  exact Nat.mul_le_mul_left _ hu
theorem mag_mono {a b : Nat} (h : a ≤ b) : mag a ≤ mag b := by
  rcases Nat.eq_or_lt_of_le h with e | l
  · rw [e]; exact Nat.le_refl _
  · exact Nat.le_of_lt (mag_lt l)
def level (u k : Nat) : Nat := mag (prod u k) / 2 ^ E1
theorem level_le {u k : Nat} (hu : mag u ≤ 2 ^ E1) (hk : k < 4503599627370496) : level u k ≤ k := by
  unfold level
  have h := mag_mono (prod_le (k := k) hu)
  rw [fl_mag hk] at h
  have := Nat.div_le_div_right (c := 2 ^ E1) h
  rwa [Nat.mul_div_cancel _ (Nat.two_pow_pos _)] at this
theorem mul_prod {u k : Nat} (hu : u < 9218868437227405312) (hm : mag u ≤ 2 ^ E1) (hk : k < 4503599627370496) : double.mul u (fl k) = some (prod u k) := by
  rw [mul_fl hu hk]
  unfold prod
  rw [Nat.min_eq_left]
  exact Nat.le_trans (prod_le hm) (Nat.le_of_lt (fl_lt hk))
theorem cut_down (n drop : Nat) : Toward.down.cut false n drop = n / 2 ^ drop := by
  unfold Toward.cut
  simp only [Bool.false_and, Bool.toNat_false, Nat.add_zero, Nat.shiftLeft_eq, Nat.one_mul]
  by_cases h : drop ≤ n.log2 + 2
  · rw [Nat.min_eq_left h]
  · rw [Nat.min_eq_right (by omega)]
    have hl : n < 2 ^ (n.log2 + 1) := Nat.lt_log2_self
    have h2 : 2 ^ (n.log2 + 1) ≤ 2 ^ (n.log2 + 2) := Nat.pow_le_pow_right (by omega) (by omega)
    have h3 : 2 ^ (n.log2 + 2) ≤ 2 ^ drop := Nat.pow_le_pow_right (by omega) (by omega)
    rw [Nat.div_eq_of_lt (by omega), Nat.div_eq_of_lt (by omega)]
theorem cut_zero (n drop : Nat) : Toward.zero.cut false n drop = n / 2 ^ drop := by
  have h := cut_down n drop
  unfold Toward.cut at h ⊢
  simpa using h
theorem cut_value {m e : Nat} : (m <<< (-1074 + (e : Int)).toNat) / 2 ^ (-(-1074 + (e : Int))).toNat = m * 2 ^ e / 2 ^ E1 := by
  rw [Nat.shiftLeft_eq]
  rcases Nat.le_total e 1074 with h | h
  · rw [show (-1074 + (e : Int)).toNat = 0 by omega, show (-(-1074 + (e : Int))).toNat = 1074 - e by omega, Nat.pow_zero, Nat.mul_one]
    rw [show 2 ^ E1 = 2 ^ (1074 - e) * 2 ^ e by rw [← Nat.pow_add, E1_eq]; congr 1; omega, Nat.mul_div_mul_right _ _ (Nat.two_pow_pos _)]
  · rw [show (-1074 + (e : Int)).toNat = e - 1074 by omega, show (-(-1074 + (e : Int))).toNat = 0 by omega, Nat.pow_zero, Nat.div_one]
    rw [show 2 ^ e = 2 ^ (e - 1074) * 2 ^ E1 by rw [← Nat.pow_add, E1_eq]; congr 1; omega, ← Nat.mul_assoc, Nat.mul_div_cancel _ (Nat.two_pow_pos _)]
theorem floor_eq {u : Nat} (hu : u < 9218868437227405312) : (double.read u).integral .down = .number false (mag u / 2 ^ E1) 0 := by
  obtain ⟨r1, n1⟩ := low_rung hu
  obtain ⟨m, e, h1, h2⟩ := read_number (u := u) (by rw [r1]; exact hu)
  rw [r1] at h2
  rw [h1, n1]
  show Datum.number false (Toward.down.cut false (m <<< (-1074 + (e : Int)).toNat) (-(-1074 + (e : Int))).toNat) 0 = _
  rw [cut_down, cut_value, h2]
theorem toInt_eq {u : Nat} (hu : u < 9218868437227405312) : (double.read u).toInt .zero = some ((mag u / 2 ^ E1 : Nat) : Int) := by
  obtain ⟨r1, n1⟩ := low_rung hu
  obtain ⟨m, e, h1, h2⟩ := read_number (u := u) (by rw [r1]; exact hu)
  rw [r1] at h2
  rw [h1, n1]
  show some (signed false (Toward.zero.cut false (m <<< (-1074 + (e : Int)).toNat) (-(-1074 + (e : Int))).toNat) 0) = _
  rw [cut_zero, cut_value, h2]
  simp [signed]
theorem toInt_fl {k : Nat} (h : k < 4503599627370496) : (double.read (fl k)).toInt .zero = some (k : Int) := by
  rw [toInt_eq (fl_lt h), fl_mag h, Nat.mul_div_cancel _ (Nat.two_pow_pos _)]
theorem write_fl {k : Nat} (h : k < 4503599627370496) : double.write (.number false k 0) = fl k := by
  have := nearest_fl h
  unfold FloatKind.nearest FloatKind.encode at this
  rw [show decide ((k : Int) < 0) = false by simp, Int.natAbs_natCast] at this
  exact this
theorem one_eq : fl 1 = 4607182418800017408 := by
  unfold fl
  rw [R_whole (by omega) (by decide)]
  rfl
theorem one_mag : mag 4607182418800017408 = 2 ^ E1 := by rw [← one_eq, fl_mag (by omega), Nat.one_mul]
theorem one_worth : worth 4607182418800017408 = ((2 ^ E1 : Nat) : Int) := by rw [(low_worth (by omega)).1, one_mag]
theorem zero_worth : worth 0 = 0 := by rw [(low_worth (by omega)).1]; simp [mag]
def levelOf (u k : Nat) : Nat := if nan u = true ∨ worth u ≤ 0 then 0 else if worth 4607182418800017408 ≤ worth u then k else level u k
theorem part_low {u : Nat} (hu : u < 18446744073709551616) (h1 : 0 < worth u) (h2 : worth u < worth 4607182418800017408) : u < 9218868437227405312 ∧ mag u ≤ 2 ^ E1 ∧ worth u = (mag u : Int) := by
  have hn : neg u = false := by
    rcases Bool.eq_false_or_eq_true (neg u) with h | h
    · unfold worth at h1; rw [if_pos h] at h1; omega
    · exact h
  have hr : rung u = u := by
    unfold neg at hn
    unfold rung
    have : ¬ u / 9223372036854775808 % 2 = 1 := by simpa using hn
    omega
  have hw : worth u = (mag u : Int) := by unfold worth; rw [hn, hr]; rfl
  rw [one_worth, hw] at h2
  have h3 : mag u < mag 4607182418800017408 := by rw [one_mag]; omega
  have h4 := mag_lt_iff.1 h3
  exact ⟨by omega, by rw [← one_mag]; exact Nat.le_of_lt h3, hw⟩
end Go.Proofs.YtbeaoddjomdlcaaGreatDoor.FareM

/- The laws FareOne, FareBack, FareNext, walked. -/
import Derived.Test.YthbjgeemenenhaaFareLaws
namespace Go.Proofs.Ythbjgeemenenhaa
open Go.RowKit

theorem worth_zero : FareM.worth 0 = 0 := by decide +kernel
theorem nan_zero : FareM.nan 0 = false := by decide +kernel

/-- what FareOne's walk is told of a and b: whether each is a number, whether both are nought, and that then the places stand as worth -/
def OneCase (a b : Nat) (x r : Int) : Prop :=
  ((FloatKind.f64.format.order a a == some Ordering.eq) = false) ∨
  ((FloatKind.f64.format.order a a == some Ordering.eq) = true ∧ (FloatKind.f64.format.order b b == some Ordering.eq) = false) ∨
  ((FloatKind.f64.format.order a a == some Ordering.eq) = true ∧ (FloatKind.f64.format.order b b == some Ordering.eq) = true ∧ (FloatKind.f64.format.order a 0 != some Ordering.eq) = false ∧ (FloatKind.f64.format.order b 0 != some Ordering.eq) = false) ∨
  ((FloatKind.f64.format.order a a == some Ordering.eq) = true ∧ (FloatKind.f64.format.order b b == some Ordering.eq) = true ∧ (FloatKind.f64.format.order a 0 != some Ordering.eq) = true ∧ r = x) ∨
  ((FloatKind.f64.format.order a a == some Ordering.eq) = true ∧ (FloatKind.f64.format.order b b == some Ordering.eq) = true ∧ (FloatKind.f64.format.order a 0 != some Ordering.eq) = false ∧ (FloatKind.f64.format.order b 0 != some Ordering.eq) = true ∧ r = x)
theorem ne_zero_eq {u : Nat} (h : FareM.nan u = false) : (FloatKind.f64.format.order u 0 != some Ordering.eq) = decide (FareM.worth u ≠ 0) := by
  have := eq_eq h nan_zero
  rw [worth_zero] at this
  simp only [bne, this]
  simp
theorem one_case (a b : Nat) (ha : a < 18446744073709551616) (hb : b < 18446744073709551616) : OneCase a b (FareM.sgn (FareM.key a) (FareM.key b)) (FareM.rank a b) := by
  unfold OneCase
  rcases Bool.eq_false_or_eq_true (FareM.nan a) with na | na
  · exact .inl (any_nan_left a .eq na)
  · have ea : (FloatKind.f64.format.order a a == some Ordering.eq) = true := by rw [eq_eq na na]; simp
    rcases Bool.eq_false_or_eq_true (FareM.nan b) with nb | nb
    · exact .inr (.inl ⟨ea, any_nan_left b .eq nb⟩)
    · have eb : (FloatKind.f64.format.order b b == some Ordering.eq) = true := by rw [eq_eq nb nb]; simp
      have za := ne_zero_eq na
      have zb := ne_zero_eq nb
      have hr : FareM.rank a b = FareM.sgnI (FareM.worth a) (FareM.worth b) := by simp [FareM.rank, na, nb]
      by_cases wa : FareM.worth a = 0
      · have za : (FloatKind.f64.format.order a 0 != some Ordering.eq) = false := by rw [za]; simpa using wa
        by_cases wb : FareM.worth b = 0
        · exact .inr (.inr (.inl ⟨ea, eb, za, by rw [zb]; simpa using wb⟩))
        · exact .inr (.inr (.inr (.inr ⟨ea, eb, za, by rw [zb]; simpa using wb, by rw [hr, FareM.sgn_key ha hb (.inr wb)]⟩)))
      · exact .inr (.inr (.inr (.inl ⟨ea, eb, by rw [za]; simpa using wa, by rw [hr, FareM.sgn_key ha hb (.inl wa)]⟩)))

/-- the contracts at FareOne's own arguments, behind a name each -/
structure OneK (a b c : Nat) (x y z r : Int) : Prop where
  k1 : ∀ w, Calls Try.prog 20 #[.float .f64 a, .float .f64 b] w fun e w' => e = .returned (.int .i64 x) ∧ w' = w
  k2 : ∀ w, Calls Try.prog 20 #[.float .f64 b, .float .f64 c] w fun e w' => e = .returned (.int .i64 y) ∧ w' = w
  k3 : ∀ w, Calls Try.prog 20 #[.float .f64 a, .float .f64 c] w fun e w' => e = .returned (.int .i64 z) ∧ w' = w
  k4 : ∀ w, Calls Try.prog 20 #[.float .f64 b, .float .f64 a] w fun e w' => e = .returned (.int .i64 (-x)) ∧ w' = w
  k5 : ∀ w, Calls Try.prog 19 #[.float .f64 a, .float .f64 b] w fun e w' => e = .returned (.int .i64 r) ∧ w' = w
  k6 : ∀ w, Calls Try.prog 19 #[.float .f64 b, .float .f64 a] w fun e w' => e = .returned (.int .i64 (-r)) ∧ w' = w
set_option maxHeartbeats 1000000 in
theorem one_d1 (w : World) (a b c : Nat) (y z : Int) (r : Int) (K : OneK a b c 1 y z r) (C : OneCase a b 1 r) (B1 : -1 ≤ r) (B2 : r ≤ 1)  :
    Calls Try.prog 7 #[.float .f64 a, .float .f64 b, .float .f64 c] w fun e w' => e = .returned (.bool true) ∧ Below w.heap.size w w' := by
  rcases C with C1 | ⟨C1, C2⟩ | ⟨C1, C2, C3, C4⟩ | ⟨C1, C2, C3, rfl⟩ | ⟨C1, C2, C3, C4, rfl⟩
  all_goals
    go_enter Try.func7, Try.ntmps7
    go_wp2_with fail
    refine (order_10 _).mono ?_
    rintro e w' ⟨rfl, rfl⟩
    go_wp2_with fail
    refine (K.k1 _).mono ?_
    rintro e w' ⟨rfl, rfl⟩
    go_wp2_with fail
    refine (K.k2 _).mono ?_
    rintro e w' ⟨rfl, rfl⟩
    go_wp2_with fail
    refine (K.k3 _).mono ?_
    rintro e w' ⟨rfl, rfl⟩
    go_wp2_with fail
    refine (K.k4 _).mono ?_
    rintro e w' ⟨rfl, rfl⟩
    go_wp2_with fail
    refine (K.k6 _).mono ?_
    rintro e w' ⟨rfl, rfl⟩
    go_wp2_with fail
    refine (K.k5 _).mono ?_
    rintro e w' ⟨rfl, rfl⟩
    go_wp2_with fail
  · go_ret; exact ⟨rfl, Below.refl _ _⟩
  · go_ret; exact ⟨rfl, Below.refl _ _⟩
  · go_ret; exact ⟨rfl, Below.refl _ _⟩
  · refine (K.k5 _).mono ?_
    rintro e w' ⟨rfl, rfl⟩
    go_wp2_with fail
    go_ret; exact ⟨rfl, Below.refl _ _⟩
  · refine (K.k5 _).mono ?_
    rintro e w' ⟨rfl, rfl⟩
    go_wp2_with fail
    go_ret; exact ⟨rfl, Below.refl _ _⟩
set_option maxHeartbeats 1000000 in
theorem one_d2 (w : World) (a b c : Nat) (z : Int) (r : Int) (K : OneK a b c 0 1 z r) (C : OneCase a b 0 r) (B1 : -1 ≤ r) (B2 : r ≤ 1)  :
    Calls Try.prog 7 #[.float .f64 a, .float .f64 b, .float .f64 c] w fun e w' => e = .returned (.bool true) ∧ Below w.heap.size w w' := by
  rcases C with C1 | ⟨C1, C2⟩ | ⟨C1, C2, C3, C4⟩ | ⟨C1, C2, C3, rfl⟩ | ⟨C1, C2, C3, C4, rfl⟩
  all_goals
    go_enter Try.func7, Try.ntmps7
    go_wp2_with fail
    refine (order_10 _).mono ?_
    rintro e w' ⟨rfl, rfl⟩
    go_wp2_with fail
    refine (K.k1 _).mono ?_
    rintro e w' ⟨rfl, rfl⟩
    go_wp2_with fail
    refine (K.k2 _).mono ?_
    rintro e w' ⟨rfl, rfl⟩
    go_wp2_with fail
    refine (K.k3 _).mono ?_
    rintro e w' ⟨rfl, rfl⟩
    go_wp2_with fail
    refine (K.k4 _).mono ?_
    rintro e w' ⟨rfl, rfl⟩
    go_wp2_with fail
    refine (K.k6 _).mono ?_
    rintro e w' ⟨rfl, rfl⟩
    go_wp2_with fail
    refine (K.k5 _).mono ?_
    rintro e w' ⟨rfl, rfl⟩
    go_wp2_with fail
  · go_ret; exact ⟨rfl, Below.refl _ _⟩
  · go_ret; exact ⟨rfl, Below.refl _ _⟩
  · go_ret; exact ⟨rfl, Below.refl _ _⟩
  · refine (K.k5 _).mono ?_
    rintro e w' ⟨rfl, rfl⟩
    go_wp2_with fail
    go_ret; exact ⟨rfl, Below.refl _ _⟩
  · refine (K.k5 _).mono ?_
    rintro e w' ⟨rfl, rfl⟩
    go_wp2_with fail
    go_ret; exact ⟨rfl, Below.refl _ _⟩
set_option maxHeartbeats 1000000 in
theorem one_d3 (w : World) (a b c : Nat) (y z : Int) (r : Int) (K : OneK a b c 0 y z r) (C : OneCase a b 0 r) (B1 : -1 ≤ r) (B2 : r ≤ 1) (D1 : y ≤ 0) (D2 : z ≤ 0) :
    Calls Try.prog 7 #[.float .f64 a, .float .f64 b, .float .f64 c] w fun e w' => e = .returned (.bool true) ∧ Below w.heap.size w w' := by
  rcases C with C1 | ⟨C1, C2⟩ | ⟨C1, C2, C3, C4⟩ | ⟨C1, C2, C3, rfl⟩ | ⟨C1, C2, C3, C4, rfl⟩
  all_goals
    go_enter Try.func7, Try.ntmps7
    go_wp2_with fail
    refine (order_10 _).mono ?_
    rintro e w' ⟨rfl, rfl⟩
    go_wp2_with fail
    refine (K.k1 _).mono ?_
    rintro e w' ⟨rfl, rfl⟩
    go_wp2_with fail
    refine (K.k2 _).mono ?_
    rintro e w' ⟨rfl, rfl⟩
    go_wp2_with fail
    refine (K.k3 _).mono ?_
    rintro e w' ⟨rfl, rfl⟩
    go_wp2_with fail
    refine (K.k4 _).mono ?_
    rintro e w' ⟨rfl, rfl⟩
    go_wp2_with fail
    refine (K.k6 _).mono ?_
    rintro e w' ⟨rfl, rfl⟩
    go_wp2_with fail
    refine (K.k5 _).mono ?_
    rintro e w' ⟨rfl, rfl⟩
    go_wp2_with fail
  · go_ret; exact ⟨rfl, Below.refl _ _⟩
  · go_ret; exact ⟨rfl, Below.refl _ _⟩
  · go_ret; exact ⟨rfl, Below.refl _ _⟩
  · refine (K.k5 _).mono ?_
    rintro e w' ⟨rfl, rfl⟩
    go_wp2_with fail
    go_ret; exact ⟨rfl, Below.refl _ _⟩
  · refine (K.k5 _).mono ?_
    rintro e w' ⟨rfl, rfl⟩
    go_wp2_with fail
    go_ret; exact ⟨rfl, Below.refl _ _⟩
set_option maxHeartbeats 1000000 in
theorem one_d4 (w : World) (a b c : Nat) (z : Int) (r : Int) (K : OneK a b c (-1) 1 z r) (C : OneCase a b (-1) r) (B1 : -1 ≤ r) (B2 : r ≤ 1)  :
    Calls Try.prog 7 #[.float .f64 a, .float .f64 b, .float .f64 c] w fun e w' => e = .returned (.bool true) ∧ Below w.heap.size w w' := by
  rcases C with C1 | ⟨C1, C2⟩ | ⟨C1, C2, C3, C4⟩ | ⟨C1, C2, C3, rfl⟩ | ⟨C1, C2, C3, C4, rfl⟩
  all_goals
    go_enter Try.func7, Try.ntmps7
    go_wp2_with fail
    refine (order_10 _).mono ?_
    rintro e w' ⟨rfl, rfl⟩
    go_wp2_with fail
    refine (K.k1 _).mono ?_
    rintro e w' ⟨rfl, rfl⟩
    go_wp2_with fail
    refine (K.k2 _).mono ?_
    rintro e w' ⟨rfl, rfl⟩
    go_wp2_with fail
    refine (K.k3 _).mono ?_
    rintro e w' ⟨rfl, rfl⟩
    go_wp2_with fail
    refine (K.k4 _).mono ?_
    rintro e w' ⟨rfl, rfl⟩
    go_wp2_with fail
    refine (K.k6 _).mono ?_
    rintro e w' ⟨rfl, rfl⟩
    go_wp2_with fail
    refine (K.k5 _).mono ?_
    rintro e w' ⟨rfl, rfl⟩
    go_wp2_with fail
  · go_ret; exact ⟨rfl, Below.refl _ _⟩
  · go_ret; exact ⟨rfl, Below.refl _ _⟩
  · go_ret; exact ⟨rfl, Below.refl _ _⟩
  · refine (K.k5 _).mono ?_
    rintro e w' ⟨rfl, rfl⟩
    go_wp2_with fail
    go_ret; exact ⟨rfl, Below.refl _ _⟩
  · refine (K.k5 _).mono ?_
    rintro e w' ⟨rfl, rfl⟩
    go_wp2_with fail
    go_ret; exact ⟨rfl, Below.refl _ _⟩
set_option maxHeartbeats 1000000 in
theorem one_d5 (w : World) (a b c : Nat) (y : Int) (r : Int) (K : OneK a b c (-1) y (-1) r) (C : OneCase a b (-1) r) (B1 : -1 ≤ r) (B2 : r ≤ 1) (D1 : y ≤ 0) :
    Calls Try.prog 7 #[.float .f64 a, .float .f64 b, .float .f64 c] w fun e w' => e = .returned (.bool true) ∧ Below w.heap.size w w' := by
  rcases C with C1 | ⟨C1, C2⟩ | ⟨C1, C2, C3, C4⟩ | ⟨C1, C2, C3, rfl⟩ | ⟨C1, C2, C3, C4, rfl⟩
  all_goals
    go_enter Try.func7, Try.ntmps7
    go_wp2_with fail
    refine (order_10 _).mono ?_
    rintro e w' ⟨rfl, rfl⟩
    go_wp2_with fail
    refine (K.k1 _).mono ?_
    rintro e w' ⟨rfl, rfl⟩
    go_wp2_with fail
    refine (K.k2 _).mono ?_
    rintro e w' ⟨rfl, rfl⟩
    go_wp2_with fail
    refine (K.k3 _).mono ?_
    rintro e w' ⟨rfl, rfl⟩
    go_wp2_with fail
    refine (K.k4 _).mono ?_
    rintro e w' ⟨rfl, rfl⟩
    go_wp2_with fail
    refine (K.k6 _).mono ?_
    rintro e w' ⟨rfl, rfl⟩
    go_wp2_with fail
    refine (K.k5 _).mono ?_
    rintro e w' ⟨rfl, rfl⟩
    go_wp2_with fail
  · go_ret; exact ⟨rfl, Below.refl _ _⟩
  · go_ret; exact ⟨rfl, Below.refl _ _⟩
  · go_ret; exact ⟨rfl, Below.refl _ _⟩
  · refine (K.k5 _).mono ?_
    rintro e w' ⟨rfl, rfl⟩
    go_wp2_with fail
    go_ret; exact ⟨rfl, Below.refl _ _⟩
  · refine (K.k5 _).mono ?_
    rintro e w' ⟨rfl, rfl⟩
    go_wp2_with fail
    go_ret; exact ⟨rfl, Below.refl _ _⟩
theorem one_walk (w : World) (a : Nat) (ha : (Lit.float .f64 a).wf = true) (b : Nat) (hb : (Lit.float .f64 b).wf = true) (c : Nat) (hc : (Lit.float .f64 c).wf = true) :
    Calls Try.prog 7 #[.float .f64 a, .float .f64 b, .float .f64 c] w fun e w' => e = .returned (.bool true) ∧ Below w.heap.size w w' := by
  have K : OneK a b c (FareM.sgn (FareM.key a) (FareM.key b)) (FareM.sgn (FareM.key b) (FareM.key c)) (FareM.sgn (FareM.key a) (FareM.key c)) (FareM.rank a b) :=
    ⟨fun w => order_any a b (wf_f64 ha) (wf_f64 hb) w, fun w => order_any b c (wf_f64 hb) (wf_f64 hc) w, fun w => order_any a c (wf_f64 ha) (wf_f64 hc) w,
      fun w => by have := order_any b a (wf_f64 hb) (wf_f64 ha) w; rwa [FareM.sgn_anti] at this, fun w => rank_any a b w, fun w => by have := rank_any b a w; rwa [FareM.rank_anti] at this⟩
  have T := FareM.sgn_trans (FareM.key a) (FareM.key b) (FareM.key c)
  have C := one_case a b (wf_f64 ha) (wf_f64 hb)
  have B1 := FareM.sgn_bd (FareM.key a) (FareM.key b)
  obtain ⟨B2, B3⟩ := FareM.rank_bd a b
  have B4 := FareM.sgn_bd (FareM.key b) (FareM.key c)
  have B5 := FareM.sgn_bd (FareM.key a) (FareM.key c)
  generalize FareM.sgn (FareM.key a) (FareM.key b) = x at *
  generalize FareM.sgn (FareM.key b) (FareM.key c) = y at *
  generalize FareM.sgn (FareM.key a) (FareM.key c) = z at *
  generalize FareM.rank a b = r at *
  have D : (x = 1) ∨ (x = 0 ∧ y = 1) ∨ (x = 0 ∧ y ≤ 0 ∧ z ≤ 0) ∨ (x = -1 ∧ y = 1) ∨ (x = -1 ∧ y ≤ 0 ∧ z = -1) := by omega
  rcases D with rfl | ⟨rfl, rfl⟩ | ⟨rfl, D1, D2⟩ | ⟨rfl, rfl⟩ | ⟨rfl, D1, rfl⟩
  · exact one_d1 w a b c _ _ r K C B2 B3
  · exact one_d2 w a b c _ r K C B2 B3
  · exact one_d3 w a b c _ _ r K C B2 B3 D1 D2
  · exact one_d4 w a b c _ r K C B2 B3
  · exact one_d5 w a b c _ r K C B2 B3 D1
end Go.Proofs.Ythbjgeemenenhaa

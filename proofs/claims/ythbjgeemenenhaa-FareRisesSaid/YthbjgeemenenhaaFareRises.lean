/- The law FareRises walked. -/
import Derived.Test.YthbjgeemenenhaaFareLevel
namespace Go.Proofs.Ythbjgeemenenhaa
open Go.RowKit

def ints2f : Int → List Value := fun n => [.int .i64 n]
def ints2 (xs : List Int) : List Value := xs.flatMap ints2f
/-- what the law asks of three levels -/
theorem lvl_rises (u v : Nat) (low high : Int) (hu : u < 18446744073709551616) (hv : v < 18446744073709551616) (hlh : low ≤ high) (e1 : (lvl u low).2 = 0) (e3 : (lvl u high).2 = 0) :
    0 ≤ (lvl u low).1 ∧ (lvl u low).1 ≤ low ∧ (lvl u high).1 ≤ high ∧ (lvl u low).1 ≤ (lvl u high).1 ∧
    (FareM.nan u = false → FareM.nan v = false → FareM.worth u < FareM.worth v → (lvl u low).1 ≤ (lvl v low).1) ∧ (FareM.nan u = false → FareM.nan v = false → FareM.worth v < FareM.worth u → (lvl v low).1 ≤ (lvl u low).1) := by
  have h1 : 0 ≤ low ∧ low ≤ 10000 := by
    by_cases h : 0 ≤ low ∧ low ≤ 10000
    · exact h
    · unfold lvl at e1; rw [if_neg h] at e1; cases e1
  have h3 : 0 ≤ high ∧ high ≤ 10000 := by
    by_cases h : 0 ≤ high ∧ high ≤ 10000
    · exact h
    · unfold lvl at e3; rw [if_neg h] at e3; cases e3
  obtain ⟨l, rfl⟩ := Int.eq_ofNat_of_zero_le h1.1
  obtain ⟨k, rfl⟩ := Int.eq_ofNat_of_zero_le h3.1
  unfold lvl
  rw [if_pos h1, if_pos h1, if_pos h3]
  simp only [Int.toNat_natCast]
  refine ⟨by omega, ?_, ?_, ?_, ?_, ?_⟩
  · have := FareM.levelOf_le (k := l) hu (by omega); omega
  · have := FareM.levelOf_le (k := k) hu (by omega); omega
  · have := FareM.levelOf_more (k := l) (l := k) hu (by omega); omega
  · intro n1 n2 h
    have := FareM.levelOf_mono (k := l) hu hv (by omega) n1 n2 (by omega); omega
  · intro n1 n2 h
    have := FareM.levelOf_mono (k := l) hv hu (by omega) n2 n1 (by omega); omega
theorem lt_any (u v : Nat) : (FloatKind.f64.format.order u v == some Ordering.lt) = (!FareM.nan u && !FareM.nan v && decide (FareM.worth u < FareM.worth v)) := by
  rcases Bool.eq_false_or_eq_true (FareM.nan u) with h | h
  · rw [any_nan_left v _ h, h]; rfl
  · rcases Bool.eq_false_or_eq_true (FareM.nan v) with k | k
    · rw [any_nan_right u _ k, h, k]; rfl
    · rw [lt_eq h k, h, k]; rfl
set_option maxRecDepth 100000 in
set_option maxHeartbeats 2000000 in
theorem rises_lt (w : World) (u v : Nat) (p q x e y f z g : Int) (h : p < q)
    (K1 : Hid (∀ w, Calls Try.prog 23 #[.float .f64 u, .int .i64 p] w fun e' w' => e' = .returned (.tuple #[.int .i64 x, .int .i64 e]) ∧ w' = w))
    (K2 : Hid (∀ w, Calls Try.prog 23 #[.float .f64 v, .int .i64 p] w fun e' w' => e' = .returned (.tuple #[.int .i64 y, .int .i64 f]) ∧ w' = w))
    (K3 : Hid (∀ w, Calls Try.prog 23 #[.float .f64 u, .int .i64 q] w fun e' w' => e' = .returned (.tuple #[.int .i64 z, .int .i64 g]) ∧ w' = w))
    (HM : Hid (e = 0 → f = 0 → g = 0 → 0 ≤ x ∧ x ≤ p ∧ z ≤ q ∧ x ≤ z ∧ ((FloatKind.f64.format.order u v == some Ordering.lt) = true → x ≤ y) ∧ ((FloatKind.f64.format.order v u == some Ordering.lt) = true → y ≤ x))) :
    Calls Try.prog 11 #[.float .f64 u, .float .f64 v, .agg #[.int .i64 p, .int .i64 q]] w fun e w' => e = .returned (.bool true) ∧ Below w.heap.size w w' := by
  by_cases e0 : e = 0
  · subst e0
    by_cases f0 : f = 0
    · subst f0
      by_cases g0 : g = 0
      · subst g0
        obtain ⟨m1, m2, m3, m4, m5, m6⟩ := HM.out rfl rfl rfl
        rcases Bool.eq_false_or_eq_true (FloatKind.f64.format.order u v == some Ordering.lt) with c1 | c1
        · have m5' := m5 c1
          have t1 : ¬ y < x := by omega
          rcases Bool.eq_false_or_eq_true (FloatKind.f64.format.order v u == some Ordering.lt) with c2 | c2
          · have m6' := m6 c2
            have t2 : ¬ x < y := by omega
            have t3 : ¬ z < x := by omega
            clear m5 m6 HM
            go_enter Try.func11, Try.ntmps11
            go_wp2_with fail
            refine (level_one _).mono ?_
            rintro e' w' ⟨rfl, rfl⟩
            go_wp2_with fail
            refine (K1.out _).mono ?_
            rintro e' w' ⟨rfl, rfl⟩
            go_wp2_with fail
            refine (K2.out _).mono ?_
            rintro e' w' ⟨rfl, rfl⟩
            go_wp2_with fail
            refine (K3.out _).mono ?_
            rintro e' w' ⟨rfl, rfl⟩
            go_wp2_with fail
            go_ret
            exact ⟨by simp, (Below.refl _ _).alloc (Nat.le_refl _) _⟩
          · have t3 : ¬ z < x := by omega
            clear m5 m6 HM
            go_enter Try.func11, Try.ntmps11
            go_wp2_with fail
            refine (level_one _).mono ?_
            rintro e' w' ⟨rfl, rfl⟩
            go_wp2_with fail
            refine (K1.out _).mono ?_
            rintro e' w' ⟨rfl, rfl⟩
            go_wp2_with fail
            refine (K2.out _).mono ?_
            rintro e' w' ⟨rfl, rfl⟩
            go_wp2_with fail
            refine (K3.out _).mono ?_
            rintro e' w' ⟨rfl, rfl⟩
            go_wp2_with fail
            go_ret
            exact ⟨by simp, (Below.refl _ _).alloc (Nat.le_refl _) _⟩
        · rcases Bool.eq_false_or_eq_true (FloatKind.f64.format.order v u == some Ordering.lt) with c2 | c2
          · have m6' := m6 c2
            have t2 : ¬ x < y := by omega
            have t3 : ¬ z < x := by omega
            clear m5 m6 HM
            go_enter Try.func11, Try.ntmps11
            go_wp2_with fail
            refine (level_one _).mono ?_
            rintro e' w' ⟨rfl, rfl⟩
            go_wp2_with fail
            refine (K1.out _).mono ?_
            rintro e' w' ⟨rfl, rfl⟩
            go_wp2_with fail
            refine (K2.out _).mono ?_
            rintro e' w' ⟨rfl, rfl⟩
            go_wp2_with fail
            refine (K3.out _).mono ?_
            rintro e' w' ⟨rfl, rfl⟩
            go_wp2_with fail
            go_ret
            exact ⟨by simp, (Below.refl _ _).alloc (Nat.le_refl _) _⟩
          · have t3 : ¬ z < x := by omega
            clear m5 m6 HM
            go_enter Try.func11, Try.ntmps11
            go_wp2_with fail
            refine (level_one _).mono ?_
            rintro e' w' ⟨rfl, rfl⟩
            go_wp2_with fail
            refine (K1.out _).mono ?_
            rintro e' w' ⟨rfl, rfl⟩
            go_wp2_with fail
            refine (K2.out _).mono ?_
            rintro e' w' ⟨rfl, rfl⟩
            go_wp2_with fail
            refine (K3.out _).mono ?_
            rintro e' w' ⟨rfl, rfl⟩
            go_wp2_with fail
            go_ret
            exact ⟨by simp, (Below.refl _ _).alloc (Nat.le_refl _) _⟩
      · have b : (g != 0) = true := by rw [bne_iff_ne]; exact g0
        clear HM
        go_enter Try.func11, Try.ntmps11
        go_wp2_with fail
        refine (level_one _).mono ?_
        rintro e' w' ⟨rfl, rfl⟩
        go_wp2_with fail
        refine (K1.out _).mono ?_
        rintro e' w' ⟨rfl, rfl⟩
        go_wp2_with fail
        refine (K2.out _).mono ?_
        rintro e' w' ⟨rfl, rfl⟩
        go_wp2_with fail
        refine (K3.out _).mono ?_
        rintro e' w' ⟨rfl, rfl⟩
        go_wp2_with fail
        go_ret
        exact ⟨by simp, (Below.refl _ _).alloc (Nat.le_refl _) _⟩
    · have b : (f != 0) = true := by rw [bne_iff_ne]; exact f0
      clear HM
      go_enter Try.func11, Try.ntmps11
      go_wp2_with fail
      refine (level_one _).mono ?_
      rintro e' w' ⟨rfl, rfl⟩
      go_wp2_with fail
      refine (K1.out _).mono ?_
      rintro e' w' ⟨rfl, rfl⟩
      go_wp2_with fail
      refine (K2.out _).mono ?_
      rintro e' w' ⟨rfl, rfl⟩
      go_wp2_with fail
      refine (K3.out _).mono ?_
      rintro e' w' ⟨rfl, rfl⟩
      go_wp2_with fail
      go_ret
      exact ⟨by simp, (Below.refl _ _).alloc (Nat.le_refl _) _⟩
  · have b : (e != 0) = true := by rw [bne_iff_ne]; exact e0
    clear HM
    go_enter Try.func11, Try.ntmps11
    go_wp2_with fail
    refine (level_one _).mono ?_
    rintro e' w' ⟨rfl, rfl⟩
    go_wp2_with fail
    refine (K1.out _).mono ?_
    rintro e' w' ⟨rfl, rfl⟩
    go_wp2_with fail
    refine (K2.out _).mono ?_
    rintro e' w' ⟨rfl, rfl⟩
    go_wp2_with fail
    refine (K3.out _).mono ?_
    rintro e' w' ⟨rfl, rfl⟩
    go_wp2_with fail
    go_ret
    exact ⟨by simp, (Below.refl _ _).alloc (Nat.le_refl _) _⟩
set_option maxRecDepth 100000 in
set_option maxHeartbeats 2000000 in
theorem rises_gt (w : World) (u v : Nat) (p q x e y f z g : Int) (h : q < p)
    (K1 : Hid (∀ w, Calls Try.prog 23 #[.float .f64 u, .int .i64 q] w fun e' w' => e' = .returned (.tuple #[.int .i64 x, .int .i64 e]) ∧ w' = w))
    (K2 : Hid (∀ w, Calls Try.prog 23 #[.float .f64 v, .int .i64 q] w fun e' w' => e' = .returned (.tuple #[.int .i64 y, .int .i64 f]) ∧ w' = w))
    (K3 : Hid (∀ w, Calls Try.prog 23 #[.float .f64 u, .int .i64 p] w fun e' w' => e' = .returned (.tuple #[.int .i64 z, .int .i64 g]) ∧ w' = w))
    (HM : Hid (e = 0 → f = 0 → g = 0 → 0 ≤ x ∧ x ≤ q ∧ z ≤ p ∧ x ≤ z ∧ ((FloatKind.f64.format.order u v == some Ordering.lt) = true → x ≤ y) ∧ ((FloatKind.f64.format.order v u == some Ordering.lt) = true → y ≤ x))) :
    Calls Try.prog 11 #[.float .f64 u, .float .f64 v, .agg #[.int .i64 p, .int .i64 q]] w fun e w' => e = .returned (.bool true) ∧ Below w.heap.size w w' := by
  by_cases e0 : e = 0
  · subst e0
    by_cases f0 : f = 0
    · subst f0
      by_cases g0 : g = 0
      · subst g0
        obtain ⟨m1, m2, m3, m4, m5, m6⟩ := HM.out rfl rfl rfl
        rcases Bool.eq_false_or_eq_true (FloatKind.f64.format.order u v == some Ordering.lt) with c1 | c1
        · have m5' := m5 c1
          have t1 : ¬ y < x := by omega
          rcases Bool.eq_false_or_eq_true (FloatKind.f64.format.order v u == some Ordering.lt) with c2 | c2
          · have m6' := m6 c2
            have t2 : ¬ x < y := by omega
            have t3 : ¬ z < x := by omega
            clear m5 m6 HM
            go_enter Try.func11, Try.ntmps11
            go_wp2_with fail
            refine (level_one _).mono ?_
            rintro e' w' ⟨rfl, rfl⟩
            go_wp2_with fail
            refine (K1.out _).mono ?_
            rintro e' w' ⟨rfl, rfl⟩
            go_wp2_with fail
            refine (K2.out _).mono ?_
            rintro e' w' ⟨rfl, rfl⟩
            go_wp2_with fail
            refine (K3.out _).mono ?_
            rintro e' w' ⟨rfl, rfl⟩
            go_wp2_with fail
            go_ret
            exact ⟨by simp, (Below.refl _ _).alloc (Nat.le_refl _) _⟩
          · have t3 : ¬ z < x := by omega
            clear m5 m6 HM
            go_enter Try.func11, Try.ntmps11
            go_wp2_with fail
            refine (level_one _).mono ?_
            rintro e' w' ⟨rfl, rfl⟩
            go_wp2_with fail
            refine (K1.out _).mono ?_
            rintro e' w' ⟨rfl, rfl⟩
            go_wp2_with fail
            refine (K2.out _).mono ?_
            rintro e' w' ⟨rfl, rfl⟩
            go_wp2_with fail
            refine (K3.out _).mono ?_
            rintro e' w' ⟨rfl, rfl⟩
            go_wp2_with fail
            go_ret
            exact ⟨by simp, (Below.refl _ _).alloc (Nat.le_refl _) _⟩
        · rcases Bool.eq_false_or_eq_true (FloatKind.f64.format.order v u == some Ordering.lt) with c2 | c2
          · have m6' := m6 c2
            have t2 : ¬ x < y := by omega
            have t3 : ¬ z < x := by omega
            clear m5 m6 HM
            go_enter Try.func11, Try.ntmps11
            go_wp2_with fail
            refine (level_one _).mono ?_
            rintro e' w' ⟨rfl, rfl⟩
            go_wp2_with fail
            refine (K1.out _).mono ?_
            rintro e' w' ⟨rfl, rfl⟩
            go_wp2_with fail
            refine (K2.out _).mono ?_
            rintro e' w' ⟨rfl, rfl⟩
            go_wp2_with fail
            refine (K3.out _).mono ?_
            rintro e' w' ⟨rfl, rfl⟩
            go_wp2_with fail
            go_ret
            exact ⟨by simp, (Below.refl _ _).alloc (Nat.le_refl _) _⟩
          · have t3 : ¬ z < x := by omega
            clear m5 m6 HM
            go_enter Try.func11, Try.ntmps11
            go_wp2_with fail
            refine (level_one _).mono ?_
            rintro e' w' ⟨rfl, rfl⟩
            go_wp2_with fail
            refine (K1.out _).mono ?_
            rintro e' w' ⟨rfl, rfl⟩
            go_wp2_with fail
            refine (K2.out _).mono ?_
            rintro e' w' ⟨rfl, rfl⟩
            go_wp2_with fail
            refine (K3.out _).mono ?_
            rintro e' w' ⟨rfl, rfl⟩
            go_wp2_with fail
            go_ret
            exact ⟨by simp, (Below.refl _ _).alloc (Nat.le_refl _) _⟩
      · have b : (g != 0) = true := by rw [bne_iff_ne]; exact g0
        clear HM
        go_enter Try.func11, Try.ntmps11
        go_wp2_with fail
        refine (level_one _).mono ?_
        rintro e' w' ⟨rfl, rfl⟩
        go_wp2_with fail
        refine (K1.out _).mono ?_
        rintro e' w' ⟨rfl, rfl⟩
        go_wp2_with fail
        refine (K2.out _).mono ?_
        rintro e' w' ⟨rfl, rfl⟩
        go_wp2_with fail
        refine (K3.out _).mono ?_
        rintro e' w' ⟨rfl, rfl⟩
        go_wp2_with fail
        go_ret
        exact ⟨by simp, (Below.refl _ _).alloc (Nat.le_refl _) _⟩
    · have b : (f != 0) = true := by rw [bne_iff_ne]; exact f0
      clear HM
      go_enter Try.func11, Try.ntmps11
      go_wp2_with fail
      refine (level_one _).mono ?_
      rintro e' w' ⟨rfl, rfl⟩
      go_wp2_with fail
      refine (K1.out _).mono ?_
      rintro e' w' ⟨rfl, rfl⟩
      go_wp2_with fail
      refine (K2.out _).mono ?_
      rintro e' w' ⟨rfl, rfl⟩
      go_wp2_with fail
      refine (K3.out _).mono ?_
      rintro e' w' ⟨rfl, rfl⟩
      go_wp2_with fail
      go_ret
      exact ⟨by simp, (Below.refl _ _).alloc (Nat.le_refl _) _⟩
  · have b : (e != 0) = true := by rw [bne_iff_ne]; exact e0
    clear HM
    go_enter Try.func11, Try.ntmps11
    go_wp2_with fail
    refine (level_one _).mono ?_
    rintro e' w' ⟨rfl, rfl⟩
    go_wp2_with fail
    refine (K1.out _).mono ?_
    rintro e' w' ⟨rfl, rfl⟩
    go_wp2_with fail
    refine (K2.out _).mono ?_
    rintro e' w' ⟨rfl, rfl⟩
    go_wp2_with fail
    refine (K3.out _).mono ?_
    rintro e' w' ⟨rfl, rfl⟩
    go_wp2_with fail
    go_ret
    exact ⟨by simp, (Below.refl _ _).alloc (Nat.le_refl _) _⟩
set_option maxRecDepth 100000 in
set_option maxHeartbeats 2000000 in
theorem rises_eq (w : World) (u v : Nat) (p x e y f z g : Int)
    (K1 : Hid (∀ w, Calls Try.prog 23 #[.float .f64 u, .int .i64 p] w fun e' w' => e' = .returned (.tuple #[.int .i64 x, .int .i64 e]) ∧ w' = w))
    (K2 : Hid (∀ w, Calls Try.prog 23 #[.float .f64 v, .int .i64 p] w fun e' w' => e' = .returned (.tuple #[.int .i64 y, .int .i64 f]) ∧ w' = w))
    (K3 : Hid (∀ w, Calls Try.prog 23 #[.float .f64 u, .int .i64 p] w fun e' w' => e' = .returned (.tuple #[.int .i64 z, .int .i64 g]) ∧ w' = w))
    (HM : Hid (e = 0 → f = 0 → g = 0 → 0 ≤ x ∧ x ≤ p ∧ z ≤ p ∧ x ≤ z ∧ ((FloatKind.f64.format.order u v == some Ordering.lt) = true → x ≤ y) ∧ ((FloatKind.f64.format.order v u == some Ordering.lt) = true → y ≤ x))) :
    Calls Try.prog 11 #[.float .f64 u, .float .f64 v, .agg #[.int .i64 p, .int .i64 p]] w fun e w' => e = .returned (.bool true) ∧ Below w.heap.size w w' := by
  by_cases e0 : e = 0
  · subst e0
    by_cases f0 : f = 0
    · subst f0
      by_cases g0 : g = 0
      · subst g0
        obtain ⟨m1, m2, m3, m4, m5, m6⟩ := HM.out rfl rfl rfl
        rcases Bool.eq_false_or_eq_true (FloatKind.f64.format.order u v == some Ordering.lt) with c1 | c1
        · have m5' := m5 c1
          have t1 : ¬ y < x := by omega
          rcases Bool.eq_false_or_eq_true (FloatKind.f64.format.order v u == some Ordering.lt) with c2 | c2
          · have m6' := m6 c2
            have t2 : ¬ x < y := by omega
            have t3 : ¬ z < x := by omega
            clear m5 m6 HM
            go_enter Try.func11, Try.ntmps11
            go_wp2_with fail
            refine (level_one _).mono ?_
            rintro e' w' ⟨rfl, rfl⟩
            go_wp2_with fail
            refine (K1.out _).mono ?_
            rintro e' w' ⟨rfl, rfl⟩
            go_wp2_with fail
            refine (K2.out _).mono ?_
            rintro e' w' ⟨rfl, rfl⟩
            go_wp2_with fail
            refine (K3.out _).mono ?_
            rintro e' w' ⟨rfl, rfl⟩
            go_wp2_with fail
            go_ret
            exact ⟨by simp, (Below.refl _ _).alloc (Nat.le_refl _) _⟩
          · have t3 : ¬ z < x := by omega
            clear m5 m6 HM
            go_enter Try.func11, Try.ntmps11
            go_wp2_with fail
            refine (level_one _).mono ?_
            rintro e' w' ⟨rfl, rfl⟩
            go_wp2_with fail
            refine (K1.out _).mono ?_
            rintro e' w' ⟨rfl, rfl⟩
            go_wp2_with fail
            refine (K2.out _).mono ?_
            rintro e' w' ⟨rfl, rfl⟩
            go_wp2_with fail
            refine (K3.out _).mono ?_
            rintro e' w' ⟨rfl, rfl⟩
            go_wp2_with fail
            go_ret
            exact ⟨by simp, (Below.refl _ _).alloc (Nat.le_refl _) _⟩
        · rcases Bool.eq_false_or_eq_true (FloatKind.f64.format.order v u == some Ordering.lt) with c2 | c2
          · have m6' := m6 c2
            have t2 : ¬ x < y := by omega
            have t3 : ¬ z < x := by omega
            clear m5 m6 HM
            go_enter Try.func11, Try.ntmps11
            go_wp2_with fail
            refine (level_one _).mono ?_
            rintro e' w' ⟨rfl, rfl⟩
            go_wp2_with fail
            refine (K1.out _).mono ?_
            rintro e' w' ⟨rfl, rfl⟩
            go_wp2_with fail
            refine (K2.out _).mono ?_
            rintro e' w' ⟨rfl, rfl⟩
            go_wp2_with fail
            refine (K3.out _).mono ?_
            rintro e' w' ⟨rfl, rfl⟩
            go_wp2_with fail
            go_ret
            exact ⟨by simp, (Below.refl _ _).alloc (Nat.le_refl _) _⟩
          · have t3 : ¬ z < x := by omega
            clear m5 m6 HM
            go_enter Try.func11, Try.ntmps11
            go_wp2_with fail
            refine (level_one _).mono ?_
            rintro e' w' ⟨rfl, rfl⟩
            go_wp2_with fail
            refine (K1.out _).mono ?_
            rintro e' w' ⟨rfl, rfl⟩
            go_wp2_with fail
            refine (K2.out _).mono ?_
            rintro e' w' ⟨rfl, rfl⟩
            go_wp2_with fail
            refine (K3.out _).mono ?_
            rintro e' w' ⟨rfl, rfl⟩
            go_wp2_with fail
            go_ret
            exact ⟨by simp, (Below.refl _ _).alloc (Nat.le_refl _) _⟩
      · have b : (g != 0) = true := by rw [bne_iff_ne]; exact g0
        clear HM
        go_enter Try.func11, Try.ntmps11
        go_wp2_with fail
        refine (level_one _).mono ?_
        rintro e' w' ⟨rfl, rfl⟩
        go_wp2_with fail
        refine (K1.out _).mono ?_
        rintro e' w' ⟨rfl, rfl⟩
        go_wp2_with fail
        refine (K2.out _).mono ?_
        rintro e' w' ⟨rfl, rfl⟩
        go_wp2_with fail
        refine (K3.out _).mono ?_
        rintro e' w' ⟨rfl, rfl⟩
        go_wp2_with fail
        go_ret
        exact ⟨by simp, (Below.refl _ _).alloc (Nat.le_refl _) _⟩
    · have b : (f != 0) = true := by rw [bne_iff_ne]; exact f0
      clear HM
      go_enter Try.func11, Try.ntmps11
      go_wp2_with fail
      refine (level_one _).mono ?_
      rintro e' w' ⟨rfl, rfl⟩
      go_wp2_with fail
      refine (K1.out _).mono ?_
      rintro e' w' ⟨rfl, rfl⟩
      go_wp2_with fail
      refine (K2.out _).mono ?_
      rintro e' w' ⟨rfl, rfl⟩
      go_wp2_with fail
      refine (K3.out _).mono ?_
      rintro e' w' ⟨rfl, rfl⟩
      go_wp2_with fail
      go_ret
      exact ⟨by simp, (Below.refl _ _).alloc (Nat.le_refl _) _⟩
  · have b : (e != 0) = true := by rw [bne_iff_ne]; exact e0
    clear HM
    go_enter Try.func11, Try.ntmps11
    go_wp2_with fail
    refine (level_one _).mono ?_
    rintro e' w' ⟨rfl, rfl⟩
    go_wp2_with fail
    refine (K1.out _).mono ?_
    rintro e' w' ⟨rfl, rfl⟩
    go_wp2_with fail
    refine (K2.out _).mono ?_
    rintro e' w' ⟨rfl, rfl⟩
    go_wp2_with fail
    refine (K3.out _).mono ?_
    rintro e' w' ⟨rfl, rfl⟩
    go_wp2_with fail
    go_ret
    exact ⟨by simp, (Below.refl _ _).alloc (Nat.le_refl _) _⟩
theorem rises_fact (u v : Nat) (low high : Int) (hu : u < 18446744073709551616) (hv : v < 18446744073709551616) (hlh : low ≤ high) :
    (lvl u low).2 = 0 → (lvl v low).2 = 0 → (lvl u high).2 = 0 → 0 ≤ (lvl u low).1 ∧ (lvl u low).1 ≤ low ∧ (lvl u high).1 ≤ high ∧ (lvl u low).1 ≤ (lvl u high).1 ∧
    ((FloatKind.f64.format.order u v == some Ordering.lt) = true → (lvl u low).1 ≤ (lvl v low).1) ∧ ((FloatKind.f64.format.order v u == some Ordering.lt) = true → (lvl v low).1 ≤ (lvl u low).1) := by
  intro e1 _ e3
  obtain ⟨h1, h2, h3, h4, h5, h6⟩ := lvl_rises u v low high hu hv hlh e1 e3
  refine ⟨h1, h2, h3, h4, ?_, ?_⟩
  · rw [lt_any]
    intro h
    simp only [Bool.and_eq_true, Bool.not_eq_true', decide_eq_true_eq] at h
    exact h5 h.1.1 h.1.2 h.2
  · rw [lt_any]
    intro h
    simp only [Bool.and_eq_true, Bool.not_eq_true', decide_eq_true_eq] at h
    exact h6 h.1.2 h.1.1 h.2
theorem rises_walk (w : World) (u : Nat) (wu : (Lit.float .f64 u).wf = true) (v : Nat) (wv : (Lit.float .f64 v).wf = true) (a : List Int) (ha : a.length = 2 ∧ ∀ x ∈ a, (Lit.int .i64 x).wf = true) :
    Calls Try.prog 11 #[.float .f64 u, .float .f64 v, .agg (ints2 a).toArray] w fun e w' => e = .returned (.bool true) ∧ Below w.heap.size w w' := by
  have hu := f_wf wu
  have hv := f_wf wv
  obtain ⟨p, q, rfl⟩ : ∃ p q, a = [p, q] := by
    match a, ha.1 with
    | [p, q], _ => exact ⟨p, q, rfl⟩
  rcases Int.lt_trichotomy p q with h | h | h
  · exact rises_lt w u v p q _ _ _ _ _ _ h (Lib.hid (fun w => level_all u p w hu)) (Lib.hid (fun w => level_all v p w hv)) (Lib.hid (fun w => level_all u q w hu)) (Lib.hid (rises_fact u v p q hu hv (by omega)))
  · subst h
    exact rises_eq w u v p _ _ _ _ _ _ (Lib.hid (fun w => level_all u p w hu)) (Lib.hid (fun w => level_all v p w hv)) (Lib.hid (fun w => level_all u p w hu)) (Lib.hid (rises_fact u v p p hu hv (by omega)))
  · exact rises_gt w u v p q _ _ _ _ _ _ h (Lib.hid (fun w => level_all u q w hu)) (Lib.hid (fun w => level_all v q w hv)) (Lib.hid (fun w => level_all u p w hu)) (Lib.hid (rises_fact u v q p hu hv (by omega)))
end Go.Proofs.Ythbjgeemenenhaa

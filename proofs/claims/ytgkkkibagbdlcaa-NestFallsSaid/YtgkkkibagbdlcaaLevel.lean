/- How floats stand to one another; what Level computes, of the program and of the reference. (Drawn from the texts of the seat fare: gen in wip/fare.) -/
import Derived.Test.YtgkkkibagbdlcaaMem
import Derived.Test.YtgkkkibagbdlcaaFareMath
import Derived.Test.YtgkkkibagbdlcaaFareRound
import Derived.Handy
import Derived.WalkLawsBesides
import Derived.Laws.BitsAllLaws
import Derived.Laws.BitsLemmas
import Derived.Test.YtgkkkibagbdlcaaRows
namespace Go.Proofs.Ytgkkkibagbdlcaa
open Go.RowKit

theorem f64_format : FloatKind.f64.format = Ieee.double := rfl
theorem isnan_eq (u : Nat) : (FloatKind.f64.format.order u u != some Ordering.eq) = FareM.nan u := by
  rw [f64_format]
  by_cases h : FareM.nan u = true
  · rw [FareM.order_nan_left u h, h]; rfl
  · have h : FareM.nan u = false := by simpa using h
    rw [FareM.order_eq h h, FareM.cmp_eq rfl, h]; rfl
theorem lt_eq {u v : Nat} (hu : FareM.nan u = false) (hv : FareM.nan v = false) : (FloatKind.f64.format.order u v == some Ordering.lt) = decide (FareM.worth u < FareM.worth v) := by
  rw [f64_format, FareM.order_eq hu hv]
  rcases Int.lt_trichotomy (FareM.worth u) (FareM.worth v) with h | h | h
  · rw [FareM.cmp_lt h]; simp [h]
  · rw [FareM.cmp_eq h, h]; simp
  · rw [FareM.cmp_gt h]; simp; omega
theorem gt_eq {u v : Nat} (hu : FareM.nan u = false) (hv : FareM.nan v = false) : (FloatKind.f64.format.order u v == some Ordering.gt) = decide (FareM.worth v < FareM.worth u) := by
  rw [f64_format, FareM.order_eq hu hv]
  rcases Int.lt_trichotomy (FareM.worth u) (FareM.worth v) with h | h | h
  · rw [FareM.cmp_lt h]; simp; omega
  · rw [FareM.cmp_eq h, h]; simp
  · rw [FareM.cmp_gt h]; simp [h]
theorem eq_eq {u v : Nat} (hu : FareM.nan u = false) (hv : FareM.nan v = false) : (FloatKind.f64.format.order u v == some Ordering.eq) = decide (FareM.worth u = FareM.worth v) := by
  rw [f64_format, FareM.order_eq hu hv]
  rcases Int.lt_trichotomy (FareM.worth u) (FareM.worth v) with h | h | h
  · rw [FareM.cmp_lt h]; simp; omega
  · rw [FareM.cmp_eq h, h]; simp
  · rw [FareM.cmp_gt h]; simp; omega
theorem any_nan_left {u : Nat} (v : Nat) (o : Ordering) (hu : FareM.nan u = true) : (FloatKind.f64.format.order u v == some o) = false := by
  rw [f64_format, FareM.order_nan_left v hu]; rfl
theorem any_nan_right (u : Nat) {v : Nat} (o : Ordering) (hv : FareM.nan v = true) : (FloatKind.f64.format.order u v == some o) = false := by
  rw [f64_format, FareM.order_nan_right u hv]; rfl

theorem nan_one : FareM.nan 4607182418800017408 = false := by decide +kernel
theorem one_one : (FloatKind.f64.format.order 4607182418800017408 4607182418800017408 == some Ordering.eq) = true := by decide +kernel
theorem run_archFloor (w : World) (u : Nat) (h : u < 9218868437227405312) : (callFunc 33 #[.float .f64 u]).run Try.prog w = .ok (.value (.float .f64 (Ieee.double.write ((Ieee.double.read u).integral .down)))) w := by
  obtain ⟨r1, n1⟩ := FareM.low_rung h
  obtain ⟨m, e, h1, h2⟩ := FareM.read_number (u := u) (by rw [r1]; exact h)
  have hd : FloatKind.f64.decode u = .number (FareM.neg u) m (-1074 + (e : Int)) := h1
  have e1 : (callFunc 33 #[.float .f64 u]).run Try.prog w = ((Extern.MathFloor.toIntegral "math.archFloor" .down #[.float .f64 u]).bind fun v => pure (.value v)).run Try.prog w := by kernel_rfl
  obtain ⟨g, e2⟩ : ∃ g : Bool → Nat → Sem Value, Extern.MathFloor.toIntegral "math.archFloor" .down #[.float .f64 u] = (match FloatKind.f64.decode u with | .nan s t => g s t | d => pure (.float .f64 (FloatKind.f64.encode (d.integral .down)))) := ⟨_, rfl⟩
  rw [e1, e2, hd, h1]
  rfl
theorem one_nan : FareM.nan 4607182418800017408 = false := nan_one
theorem zero_nan : FareM.nan 0 = false := by decide +kernel
/-- the tests of a part against nought and one, by what it is worth -/
theorem gt0 (u : Nat) : (FloatKind.f64.format.order u 0 == some Ordering.gt) = (!FareM.nan u && decide (0 < FareM.worth u)) := by
  rcases Bool.eq_false_or_eq_true (FareM.nan u) with h | h
  · rw [any_nan_left 0 _ h, h]; rfl
  · rw [gt_eq h zero_nan, FareM.zero_worth, h]; rfl
theorem ge1 {u : Nat} (h : FareM.nan u = false) : ((FloatKind.f64.format.order u 4607182418800017408 == some Ordering.gt) = decide (FareM.worth 4607182418800017408 < FareM.worth u)) ∧ (FloatKind.f64.format.order u 4607182418800017408 == some Ordering.eq) = decide (FareM.worth u = FareM.worth 4607182418800017408) := ⟨gt_eq h one_nan, eq_eq h one_nan⟩
theorem floor_any (u : Nat) (w : World) (h : u < 9218868437227405312) (hk : FareM.mag u / 2 ^ FareM.E1 < 4503599627370496) : Calls Try.prog 32 #[.float .f64 u] w fun e w' => e = .returned (.float .f64 (FareM.fl (FareM.mag u / 2 ^ FareM.E1))) ∧ w' = w := by
  have e1 := fun w => run_archFloor w u h
  rw [FareM.floor_eq h, FareM.write_fl hk] at e1
  have E1 := Lib.hid h
  have E2 := Lib.hid hk
  generalize FareM.fl (FareM.mag u / 2 ^ FareM.E1) = v at e1 ⊢
  clear h hk
  go_enter Try.func32, Try.ntmps32
  go_wp2
  go_ret
  exact ⟨rfl, rfl⟩
theorem ret_lvl {a b : Int} (h : a = b) : Ending.returned (.tuple #[.int .i64 a, .int .i64 0]) = .returned (.tuple #[.int .i64 b, .int .i64 0]) := by rw [h]
/-- a number of seats that may not be -/
theorem level_no (u : Nat) (k : Int) (w : World) (h : k < 0 ∨ 10000 < k) : Calls Try.prog 29 #[.float .f64 u, .int .i64 k] w fun e w' => e = .returned (.tuple #[.int .i64 0, .int .i64 1]) ∧ w' = w := by
  rcases h with h | h
  · go_enter Try.func29, Try.ntmps29
    go_wp2_with fail
    go_ret2
    exact ⟨rfl, rfl⟩
  · have h' : ¬ k < 0 := by omega
    go_enter Try.func29, Try.ntmps29
    go_wp2_with fail
    go_ret2
    exact ⟨rfl, rfl⟩
theorem refLevel_no (u : Nat) (k : Int) (w : World) (h : k < 0 ∨ 10000 < k) : Calls Try.prog 30 #[.float .f64 u, .int .i64 k] w fun e w' => e = .returned (.tuple #[.int .i64 0, .int .i64 1]) ∧ w' = w := by
  rcases h with h | h
  · go_enter Try.func30, Try.ntmps30
    go_wp2_with fail
    go_ret2
    exact ⟨rfl, rfl⟩
  · have h' : ¬ k < 0 := by omega
    go_enter Try.func30, Try.ntmps30
    go_wp2_with fail
    go_ret2
    exact ⟨rfl, rfl⟩
/-- the product, and what it comes to, behind names -/
theorem level_low (u k lv pr fk fv : Nat) (w : World) (k0 : ¬ (k : Int) < 0) (k1 : ¬ (10000 : Int) < (k : Int))
    (hg : (FloatKind.f64.format.order u 0 == some Ordering.gt) = true) (g1 : (FloatKind.f64.format.order u 4607182418800017408 == some Ordering.gt) = false) (g2 : (FloatKind.f64.format.order u 4607182418800017408 == some Ordering.eq) = false)
    (hnear : floatOfInt .f64 (k : Int) = fk) (hrun : ∀ (w : World) (t : TypeId), (binOp .mul t (.float .f64 u) (.float .f64 fk)).run Try.prog w = .ok (.float .f64 pr) w)
    (hfl : ∀ w, Calls Try.prog 32 #[.float .f64 pr] w fun e w' => e = .returned (.float .f64 fv) ∧ w' = w)
    (hcv : ∀ w, (convert 46 3 (.float .f64 fv)).run Try.prog w = .ok (.int .i64 (lv : Int)) w) :
    Calls Try.prog 29 #[.float .f64 u, .int .i64 (k : Int)] w fun e w' => e = .returned (.tuple #[.int .i64 (lv : Int), .int .i64 0]) ∧ w' = w := by
  have HFL := Lib.hid hfl
  clear hfl
  go_enter Try.func29, Try.ntmps29
  go_wp2_with fail
  refine (HFL.out _).mono ?_
  rintro e w' ⟨rfl, rfl⟩
  go_wp2_with fail
  go_ret2
  exact ⟨rfl, rfl⟩
theorem decode_eq (u : Nat) : FloatKind.f64.decode u = Ieee.double.read u := rfl
theorem conv_f (u lv : Nat) (hu : (Ieee.double.read u).toInt .zero = some (lv : Int)) (h : lv ≤ 10000) (w : World) : (convert 46 3 (.float .f64 u)).run Try.prog w = .ok (.int .i64 (lv : Int)) w :=
  run_convert_float_int w _ _ .f64 .i64 _ _ (by rw [Try.underlying46]; rfl) Try.underlying3 (by
    unfold floatToIntVal
    rw [decode_eq, hu]
    dsimp only
    rw [if_pos ⟨by rw [show IntKind.i64.min = -9223372036854775808 from rfl]; omega, by rw [show IntKind.i64.max = 9223372036854775807 from rfl]; omega⟩])
theorem conv_fl (lv : Nat) (h : lv ≤ 10000) (w : World) : (convert 46 3 (.float .f64 (FareM.fl lv))).run Try.prog w = .ok (.int .i64 (lv : Int)) w := conv_f (FareM.fl lv) lv (FareM.toInt_fl (by omega)) h w
set_option maxHeartbeats 1000000 in
theorem level_any (u k : Nat) (w : World) (hu : u < 18446744073709551616) (h0 : k ≤ 10000) : Calls Try.prog 29 #[.float .f64 u, .int .i64 (k : Int)] w fun e w' => e = .returned (.tuple #[.int .i64 (FareM.levelOf u k : Int), .int .i64 0]) ∧ w' = w := by
  have k0 : ¬ (k : Int) < 0 := by omega
  have k1 : ¬ (10000 : Int) < (k : Int) := by omega
  by_cases hz : FareM.nan u = true ∨ FareM.worth u ≤ 0
  · have HL := Lib.hid (show (FareM.levelOf u k : Int) = 0 by unfold FareM.levelOf; rw [if_pos hz]; rfl)
    have hg : (FloatKind.f64.format.order u 0 == some Ordering.gt) = false := by
      rw [gt0]
      rcases hz with hz | hz
      · rw [hz]; rfl
      · rw [show decide (0 < FareM.worth u) = false by simp; omega]; simp
    clear hu hz
    go_enter Try.func29, Try.ntmps29
    go_wp2_with fail
    go_ret2
    exact ⟨ret_lvl HL.out.symm, rfl⟩
  · have hn : FareM.nan u = false := by
      rcases Bool.eq_false_or_eq_true (FareM.nan u) with h | h
      · exact absurd (.inl h) hz
      · exact h
    have hp : 0 < FareM.worth u := by
      rcases Int.lt_or_le 0 (FareM.worth u) with h | h
      · exact h
      · exact absurd (.inr h) hz
    have hg : (FloatKind.f64.format.order u 0 == some Ordering.gt) = true := by rw [gt0, hn]; simpa using hp
    obtain ⟨g1, g2⟩ := ge1 hn
    by_cases h1 : FareM.worth 4607182418800017408 ≤ FareM.worth u
    · have HL := Lib.hid (show (FareM.levelOf u k : Int) = k by unfold FareM.levelOf; rw [if_neg hz, if_pos h1])
      rcases Int.lt_or_eq_of_le h1 with h2 | h2
      · have g1' : (FloatKind.f64.format.order u 4607182418800017408 == some Ordering.gt) = true := by rw [g1]; simpa using h2
        clear hu hz hn hp h1 h2 g1 g2
        go_enter Try.func29, Try.ntmps29
        go_wp2_with fail
        go_ret2
        exact ⟨ret_lvl HL.out.symm, rfl⟩
      · have g1' : (FloatKind.f64.format.order u 4607182418800017408 == some Ordering.gt) = false := by rw [g1]; simp; omega
        have g2' : (FloatKind.f64.format.order u 4607182418800017408 == some Ordering.eq) = true := by rw [g2]; simpa using h2.symm
        clear hu hz hn hp h1 h2 g1 g2
        go_enter Try.func29, Try.ntmps29
        go_wp2_with fail
        go_ret2
        exact ⟨ret_lvl HL.out.symm, rfl⟩
    · obtain ⟨l1, l2, l3⟩ := FareM.part_low hu hp (by omega)
      have HL := Lib.hid (show FareM.levelOf u k = FareM.level u k by unfold FareM.levelOf; rw [if_neg hz, if_neg h1])
      have g1' : (FloatKind.f64.format.order u 4607182418800017408 == some Ordering.gt) = false := by rw [g1]; simp; omega
      have g2' : (FloatKind.f64.format.order u 4607182418800017408 == some Ordering.eq) = false := by rw [g2]; simp; omega
      have hll := FareM.level_le (k := k) l2 (by omega)
      have hpl : FareM.prod u k < 9218868437227405312 := Nat.lt_of_le_of_lt (FareM.prod_le l2) (FareM.fl_lt (by omega))
      rw [HL.out]
      exact level_low u k (FareM.level u k) (FareM.prod u k) (FareM.fl k) (FareM.fl (FareM.level u k)) w k0 k1 hg g1' g2' (FareM.nearest_fl (by omega))
        (fun w t => run_float_arith w .mul t .f64 u _ _ (FareM.mul_prod l1 l2 (k := k) (by omega)))
        (fun w => floor_any (FareM.prod u k) w hpl (show FareM.level u k < 4503599627370496 by omega))
        (fun w => conv_fl _ (by omega) w)
set_option maxHeartbeats 1000000 in
/-- the reference's way: counting up -/
theorem refLevel_low (u k lv pr fk : Nat) (fl : Nat → Nat) (w : World) (hk : k ≤ 10000) (hlk : lv ≤ k)
    (n0 : (FloatKind.f64.format.order u u != some Ordering.eq) = false) (z1 : (FloatKind.f64.format.order u 0 == some Ordering.lt) = false) (z2 : (FloatKind.f64.format.order u 0 == some Ordering.eq) = false)
    (g1 : (FloatKind.f64.format.order u 4607182418800017408 == some Ordering.gt) = false) (g2 : (FloatKind.f64.format.order u 4607182418800017408 == some Ordering.eq) = false)
    (hnear : floatOfInt .f64 (k : Int) = fk) (hrun : ∀ (w : World) (t : TypeId), (binOp .mul t (.float .f64 u) (.float .f64 fk)).run Try.prog w = .ok (.float .f64 pr) w)
    (hn : ∀ n : Nat, n ≤ 10000 → floatOfInt .f64 ((n : Int) + 1) = fl (n + 1))
    (hle : ∀ n : Nat, n ≤ 10000 → ((FloatKind.f64.format.order (fl (n + 1)) pr == some Ordering.lt) = true ∨ (FloatKind.f64.format.order (fl (n + 1)) pr == some Ordering.eq) = true ↔ n + 1 ≤ lv)) :
    Calls Try.prog 30 #[.float .f64 u, .int .i64 (k : Int)] w fun e w' => e = .returned (.tuple #[.int .i64 (lv : Int), .int .i64 0]) ∧ w' = w := by
  have HN := Lib.hid hn
  have HLE := Lib.hid hle
  have k0 : ¬ (k : Int) < 0 := by omega
  have k1 : ¬ (10000 : Int) < (k : Int) := by omega
  clear hn hle
  go_enter Try.func30, Try.ntmps30
  go_wp2_with fail
  go_loop [7] (fun v7 => ∃ n : Nat, n ≤ lv ∧ v7 = .int .i64 (n : Int)) (fun v7 => k - (intOf v7).toNat)
  case atStart => exact ⟨0, by omega, rfl⟩
  case round =>
    obtain ⟨n, hnl, rfl⟩ := hrel
    have hnn := HN.out n (by omega)
    have hll := HLE.out n (by omega)
    generalize fl (n + 1) = x at hnn hll
    by_cases h1 : n + 1 ≤ lv
    · have hnk : (n : Int) < (k : Int) := by omega
      rcases hll.2 h1 with h2 | h2
      · clear hll
        go_wp2_with fail
        go_round
        case rel => exact ⟨n + 1, by omega, by go_num⟩
        case measure => simp [intOf]; omega
      · have h3 : (FloatKind.f64.format.order x pr == some Ordering.lt) = false := by
          have h4 := eq_of_beq h2
          rw [h4]; rfl
        clear hll
        go_wp2_with fail
        go_round
        case rel => exact ⟨n + 1, by omega, by go_num⟩
        case measure => simp [intOf]; omega
    · obtain rfl : n = lv := by omega
      by_cases h5 : n < k
      · have hnk : (n : Int) < (k : Int) := by omega
        have h2 : (FloatKind.f64.format.order x pr == some Ordering.lt) = false := by
          rcases Bool.eq_false_or_eq_true (FloatKind.f64.format.order x pr == some Ordering.lt) with h | h
          · exact absurd (hll.1 (.inl h)) h1
          · exact h
        have h3 : (FloatKind.f64.format.order x pr == some Ordering.eq) = false := by
          rcases Bool.eq_false_or_eq_true (FloatKind.f64.format.order x pr == some Ordering.eq) with h | h
          · exact absurd (hll.1 (.inr h)) h1
          · exact h
        clear hll h1
        go_wp2_with fail
        go_ret2
        exact ⟨rfl, rfl⟩
      · have hnk : ¬ (n : Int) < (k : Int) := by omega
        clear hll h1
        go_wp2_with fail
        go_ret2
        exact ⟨rfl, rfl⟩
set_option maxHeartbeats 1000000 in
theorem refLevel_any (u k : Nat) (w : World) (hu : u < 18446744073709551616) (h0 : k ≤ 10000) : Calls Try.prog 30 #[.float .f64 u, .int .i64 (k : Int)] w fun e w' => e = .returned (.tuple #[.int .i64 (FareM.levelOf u k : Int), .int .i64 0]) ∧ w' = w := by
  have k0 : ¬ (k : Int) < 0 := by omega
  have k1 : ¬ (10000 : Int) < (k : Int) := by omega
  have n0 := isnan_eq u
  rcases Bool.eq_false_or_eq_true (FareM.nan u) with hn | hn
  · have HL := Lib.hid (show (FareM.levelOf u k : Int) = 0 by unfold FareM.levelOf; rw [if_pos (.inl hn)]; rfl)
    rw [hn] at n0
    clear hu hn
    go_enter Try.func30, Try.ntmps30
    go_wp2_with fail
    go_ret2
    exact ⟨ret_lvl HL.out.symm, rfl⟩
  · rw [hn] at n0
    have z1 : (FloatKind.f64.format.order u 0 == some Ordering.lt) = decide (FareM.worth u < 0) := by rw [lt_eq hn zero_nan, FareM.zero_worth]
    have z2 : (FloatKind.f64.format.order u 0 == some Ordering.eq) = decide (FareM.worth u = 0) := by rw [eq_eq hn zero_nan, FareM.zero_worth]
    obtain ⟨g1, g2⟩ := ge1 hn
    rcases Int.lt_trichotomy (FareM.worth u) 0 with hz | hz | hz
    · have HL := Lib.hid (show (FareM.levelOf u k : Int) = 0 by unfold FareM.levelOf; rw [if_pos (.inr (by omega))]; rfl)
      have z1' : (FloatKind.f64.format.order u 0 == some Ordering.lt) = true := by rw [z1]; simpa using hz
      clear hu hn z1 z2 g1 g2 hz
      go_enter Try.func30, Try.ntmps30
      go_wp2_with fail
      go_ret2
      exact ⟨ret_lvl HL.out.symm, rfl⟩
    · have HL := Lib.hid (show (FareM.levelOf u k : Int) = 0 by unfold FareM.levelOf; rw [if_pos (.inr (by omega))]; rfl)
      have z1' : (FloatKind.f64.format.order u 0 == some Ordering.lt) = false := by rw [z1]; simp; omega
      have z2' : (FloatKind.f64.format.order u 0 == some Ordering.eq) = true := by rw [z2]; simpa using hz
      clear hu hn z1 z2 g1 g2 hz
      go_enter Try.func30, Try.ntmps30
      go_wp2_with fail
      go_ret2
      exact ⟨ret_lvl HL.out.symm, rfl⟩
    · have z1' : (FloatKind.f64.format.order u 0 == some Ordering.lt) = false := by rw [z1]; simp; omega
      have z2' : (FloatKind.f64.format.order u 0 == some Ordering.eq) = false := by rw [z2]; simp; omega
      have hnz : ¬ (FareM.nan u = true ∨ FareM.worth u ≤ 0) := by rw [hn]; simp; omega
      clear z1 z2
      by_cases h1 : FareM.worth 4607182418800017408 ≤ FareM.worth u
      · have HL := Lib.hid (show (FareM.levelOf u k : Int) = k by unfold FareM.levelOf; rw [if_neg hnz, if_pos h1])
        rcases Int.lt_or_eq_of_le h1 with h2 | h2
        · have g1' : (FloatKind.f64.format.order u 4607182418800017408 == some Ordering.gt) = true := by rw [g1]; simpa using h2
          clear hu hn h1 h2 g1 g2 hz hnz
          go_enter Try.func30, Try.ntmps30
          go_wp2_with fail
          go_ret2
          exact ⟨ret_lvl HL.out.symm, rfl⟩
        · have g1' : (FloatKind.f64.format.order u 4607182418800017408 == some Ordering.gt) = false := by rw [g1]; simp; omega
          have g2' : (FloatKind.f64.format.order u 4607182418800017408 == some Ordering.eq) = true := by rw [g2]; simpa using h2.symm
          clear hu hn h1 h2 g1 g2 hz hnz
          go_enter Try.func30, Try.ntmps30
          go_wp2_with fail
          go_ret2
          exact ⟨ret_lvl HL.out.symm, rfl⟩
      · obtain ⟨l1, l2, l3⟩ := FareM.part_low hu hz (by omega)
        have HL := Lib.hid (show FareM.levelOf u k = FareM.level u k by unfold FareM.levelOf; rw [if_neg hnz, if_neg h1])
        have g1' : (FloatKind.f64.format.order u 4607182418800017408 == some Ordering.gt) = false := by rw [g1]; simp; omega
        have g2' : (FloatKind.f64.format.order u 4607182418800017408 == some Ordering.eq) = false := by rw [g2]; simp; omega
        have hll := FareM.level_le (k := k) l2 (by omega)
        have hpl : FareM.prod u k < 9218868437227405312 := Nat.lt_of_le_of_lt (FareM.prod_le l2) (FareM.fl_lt (by omega))
        rw [HL.out]
        refine refLevel_low u k (FareM.level u k) (FareM.prod u k) (FareM.fl k) FareM.fl w h0 hll n0 z1' z2' g1' g2' (FareM.nearest_fl (by omega))
          (fun w t => run_float_arith w .mul t .f64 u _ _ (FareM.mul_prod l1 l2 (k := k) (by omega)))
          (fun n hn => by have := FareM.nearest_fl (k := n + 1) (by omega); rw [show ((n + 1 : Nat) : Int) = (n : Int) + 1 by omega] at this; exact this) (fun n hn => ?_)
        have nf := (FareM.low_worth (FareM.fl_lt (k := n + 1) (by omega))).2
        have np := (FareM.low_worth hpl).2
        rw [lt_eq nf np, eq_eq nf np, ← FareM.fl_le_prod (k := k) (n := n + 1) l2 (by omega) (by omega), decide_eq_true_iff, decide_eq_true_iff]
        generalize FareM.worth (FareM.fl (n + 1)) = a
        generalize FareM.worth (FareM.prod u k) = b
        omega

theorem level_one (w : World) : Calls Try.prog 29 #[.float .f64 4607182418800017408, .int .i64 1] w fun e w' => e = .returned (.tuple #[.int .i64 1, .int .i64 0]) ∧ w' = w := by
  have g0 : (FloatKind.f64.format.order 4607182418800017408 0 == some Ordering.gt) = true := by decide +kernel
  have g1 : (FloatKind.f64.format.order 4607182418800017408 4607182418800017408 == some Ordering.gt) = false := by decide +kernel
  have g2 := one_one
  go_enter Try.func29, Try.ntmps29
  go_wp2_with fail
  go_ret2
  exact ⟨rfl, rfl⟩
/-- Level, of any seats -/
def lvl (u : Nat) (k : Int) : Int × Int := if 0 ≤ k ∧ k ≤ 10000 then ((FareM.levelOf u k.toNat : Int), 0) else (0, 1)
theorem level_all (u : Nat) (k : Int) (w : World) (hu : u < 18446744073709551616) : Calls Try.prog 29 #[.float .f64 u, .int .i64 k] w fun e w' => e = .returned (.tuple #[.int .i64 (lvl u k).1, .int .i64 (lvl u k).2]) ∧ w' = w := by
  unfold lvl
  split
  · rename_i h
    obtain ⟨n, rfl⟩ := Int.eq_ofNat_of_zero_le h.1
    exact level_any u n w hu (by omega)
  · rename_i h
    exact level_no u k w (by omega)
theorem refLevel_all (u : Nat) (k : Int) (w : World) (hu : u < 18446744073709551616) : Calls Try.prog 30 #[.float .f64 u, .int .i64 k] w fun e w' => e = .returned (.tuple #[.int .i64 (lvl u k).1, .int .i64 (lvl u k).2]) ∧ w' = w := by
  unfold lvl
  split
  · rename_i h
    obtain ⟨n, rfl⟩ := Int.eq_ofNat_of_zero_le h.1
    exact refLevel_any u n w hu (by omega)
  · rename_i h
    exact refLevel_no u k w (by omega)
theorem f_wf {f : Nat} (h : (Lit.float .f64 f).wf = true) : f < 18446744073709551616 := by simpa [Lit.wf] using h
end Go.Proofs.Ytgkkkibagbdlcaa

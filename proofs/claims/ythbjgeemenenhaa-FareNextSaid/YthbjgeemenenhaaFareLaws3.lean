/- The laws FareBack and FareNext, walked. -/
import Derived.Test.YthbjgeemenenhaaFareLaws
namespace Go.Proofs.Ythbjgeemenenhaa
open Go.RowKit

theorem key_one (w : World) : Calls Try.prog 15 #[.float .f64 4607182418800017408] w fun e w' => e = .returned (.int .u64 13830554455654793216) ∧ w' = w := by
  have h := key_any 4607182418800017408 (by omega) w
  rw [show FareM.key 4607182418800017408 = 13830554455654793216 by decide +kernel] at h
  exact h
theorem key_back (a : Nat) (ha : a < 18446744073709551616) (w : World) : Calls Try.prog 15 #[.float .f64 (FareM.of a)] w fun e w' => e = .returned (.int .u64 (a : Int)) ∧ w' = w := by
  have h := key_any (FareM.of a) (FareM.of_lt ha) w
  rwa [FareM.key_of ha] at h
theorem order_back (a b : Nat) (ha : a < 18446744073709551616) (hb : b < 18446744073709551616) (w : World) :
    Calls Try.prog 20 #[.float .f64 (FareM.of a), .float .f64 (FareM.of b)] w fun e w' => e = .returned (.int .i64 (FareM.sgn a b)) ∧ w' = w := by
  have h := order_any (FareM.of a) (FareM.of b) (FareM.of_lt ha) (FareM.of_lt hb) w
  rwa [FareM.key_of ha, FareM.key_of hb] at h

set_option maxHeartbeats 1000000 in
theorem back_walk (w : World) (a : Int) (ha0 : (Lit.int .u64 a).wf = true) (b : Int) (hb0 : (Lit.int .u64 b).wf = true) :
    Calls Try.prog 8 #[.int .u64 a, .int .u64 b] w fun e w' => e = .returned (.bool true) ∧ Below w.heap.size w w' := by
  obtain ⟨a, rfl, ha⟩ := wf_u64 ha0
  clear ha0
  obtain ⟨b, rfl, hb⟩ := wf_u64 hb0
  clear hb0
  have K1 := Lib.hid (fun w => of_any a ha w)
  have K2 := Lib.hid (fun w => of_any b hb w)
  have K3 := Lib.hid (fun w => key_back a ha w)
  have K4 := Lib.hid (fun w => key_back b hb w)
  have K5 := Lib.hid (fun w => order_back a b ha hb w)
  clear ha hb
  generalize FareM.of a = x at *
  generalize FareM.of b = y at *
  have D : (a < b ∧ FareM.sgn a b = -1) ∨ (b < a ∧ FareM.sgn a b = 1) ∨ (a = b ∧ FareM.sgn a b = 0) := by
    unfold FareM.sgn
    split
    · exact .inl ⟨‹_›, rfl⟩
    · split
      · exact .inr (.inl ⟨‹_›, rfl⟩)
      · exact .inr (.inr ⟨by omega, rfl⟩)
  rcases D with ⟨h, e⟩ | ⟨h, e⟩ | ⟨rfl, e⟩
  all_goals
    rw [e] at K5
    clear e
    go_enter Try.func8, Try.ntmps8
    go_wp2_with fail
    refine (K1.out _).mono ?_
    rintro e w' ⟨rfl, rfl⟩
    go_wp2_with fail
    refine (K2.out _).mono ?_
    rintro e w' ⟨rfl, rfl⟩
    go_wp2_with fail
    refine (key_one _).mono ?_
    rintro e w' ⟨rfl, rfl⟩
    go_wp2_with fail
    refine (K3.out _).mono ?_
    rintro e w' ⟨rfl, rfl⟩
    go_wp2_with fail
    refine (K4.out _).mono ?_
    rintro e w' ⟨rfl, rfl⟩
    go_wp2_with fail
    refine (K5.out _).mono ?_
    rintro e w' ⟨rfl, rfl⟩
    go_wp2_with fail
    go_ret
    exact ⟨by simp, Below.refl _ _⟩

set_option maxHeartbeats 1000000 in
theorem next_walk (w : World) (k : Int) (hk0 : (Lit.int .u64 k).wf = true) :
    Calls Try.prog 9 #[.int .u64 k] w fun e w' => e = .returned (.bool true) ∧ Below w.heap.size w w' := by
  obtain ⟨k, rfl, hk⟩ := wf_u64 hk0
  clear hk0
  by_cases h : k = 18446744073709551615
  · have h1 : ((k : Int) == 18446744073709551615) = true := by simp; omega
    clear h hk
    go_enter Try.func9, Try.ntmps9
    go_wp2_with fail
    refine (order_10 _).mono ?_
    rintro e w' ⟨rfl, rfl⟩
    go_wp2_with fail
    go_ret
    exact ⟨rfl, Below.refl _ _⟩
  · have h1 : ((k : Int) == 18446744073709551615) = false := by simp; omega
    have hk1 : k + 1 < 18446744073709551616 := by omega
    have e1 : IntKind.u64.wrap ((k : Int) + 1) = ((k + 1 : Nat) : Int) := by rw [IntKind.wrap_u64]; omega
    have e2 : IntKind.u64.wrap (((k + 1 : Nat) : Int) - (k : Int)) = 1 := by rw [IntKind.wrap_u64]; omega
    have hs : FareM.sgn k (k + 1) = -1 := by unfold FareM.sgn; rw [if_pos (by omega)]
    have K1 := Lib.hid (fun w => of_any k hk w)
    have K2 := Lib.hid (fun w => of_any (k + 1) hk1 w)
    have K3 := Lib.hid (fun w => order_back k (k + 1) hk hk1 w)
    rw [hs] at K3
    have K4 := Lib.hid (fun w => key_back (k + 1) hk1 w)
    have K5 := Lib.hid (fun w => key_back k hk w)
    clear h hk hk1 hs
    generalize FareM.of k = x at *
    generalize FareM.of (k + 1) = y at *
    generalize ((k + 1 : Nat) : Int) = k1 at *
    go_enter Try.func9, Try.ntmps9
    go_wp2_with fail
    refine (order_10 _).mono ?_
    rintro e w' ⟨rfl, rfl⟩
    go_wp2_with fail
    refine (K1.out _).mono ?_
    rintro e w' ⟨rfl, rfl⟩
    go_wp2_with fail
    refine (K2.out _).mono ?_
    rintro e w' ⟨rfl, rfl⟩
    go_wp2_with fail
    refine (K3.out _).mono ?_
    rintro e w' ⟨rfl, rfl⟩
    go_wp2_with fail
    refine (K4.out _).mono ?_
    rintro e w' ⟨rfl, rfl⟩
    go_wp2_with fail
    refine (K5.out _).mono ?_
    rintro e w' ⟨rfl, rfl⟩
    go_wp2_with fail
    go_ret
    exact ⟨by simp, Below.refl _ _⟩
end Go.Proofs.Ythbjgeemenenhaa

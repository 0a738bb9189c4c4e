/- The laws of the order of floats: FareKeys, FareOrders, FareRanks, FareOne, FareBack, FareNext, walked. -/
import Derived.Test.YthbjgeemenenhaaFare
namespace Go.Proofs.Ythbjgeemenenhaa
open Go.RowKit

theorem refOrder_any (u v : Nat) (hu : u < 18446744073709551616) (hv : v < 18446744073709551616) (w : World) :
    Calls Try.prog 21 #[.float .f64 u, .float .f64 v] w fun e w' => e = .returned (.int .i64 (FareM.sgn (FareM.key u) (FareM.key v))) ∧ w' = w := by
  have K1 := Lib.hid (fun w => refKey_any u hu w)
  have K2 := Lib.hid (fun w => refKey_any v hv w)
  clear hu hv
  unfold FareM.sgn
  generalize FareM.key u = x at *
  generalize FareM.key v = y at *
  by_cases h : x < y
  · rw [if_pos h]
    have h1 : (x : Int) < (y : Int) := by omega
    go_enter Try.func21, Try.ntmps21
    go_wp2_with fail
    refine (K1.out _).mono ?_
    rintro e w' ⟨rfl, rfl⟩
    go_wp2_with fail
    refine (K2.out _).mono ?_
    rintro e w' ⟨rfl, rfl⟩
    go_wp2_with fail
    go_ret
    exact ⟨rfl, rfl⟩
  · by_cases h2 : y < x
    · rw [if_neg h, if_pos h2]
      have h1 : (y : Int) < (x : Int) := by omega
      go_enter Try.func21, Try.ntmps21
      go_wp2_with fail
      refine (K1.out _).mono ?_
      rintro e w' ⟨rfl, rfl⟩
      go_wp2_with fail
      refine (K2.out _).mono ?_
      rintro e w' ⟨rfl, rfl⟩
      go_wp2_with fail
      go_ret
      exact ⟨rfl, rfl⟩
    · rw [if_neg h, if_neg h2]
      obtain rfl : x = y := by omega
      go_enter Try.func21, Try.ntmps21
      go_wp2_with fail
      refine (K1.out _).mono ?_
      rintro e w' ⟨rfl, rfl⟩
      go_wp2_with fail
      refine (K2.out _).mono ?_
      rintro e w' ⟨rfl, rfl⟩
      go_wp2_with fail
      go_ret
      exact ⟨rfl, rfl⟩

theorem refRank_any (u v : Nat) (w : World) : Calls Try.prog 22 #[.float .f64 u, .float .f64 v] w fun e w' => e = .returned (.int .i64 (FareM.rank u v)) ∧ w' = w := by
  have n1 := isnan_eq u
  have n2 := isnan_eq v
  rcases Bool.eq_false_or_eq_true (FareM.nan u) with hu | hu <;> rcases Bool.eq_false_or_eq_true (FareM.nan v) with hv | hv
  · rw [hu] at n1
    rw [hv] at n2
    have E := Lib.hid (show FareM.rank u v = 0 by simp [FareM.rank, hu, hv])
    clear hu hv
    go_enter Try.func22, Try.ntmps22
    go_wp2
    go_ret
    exact ⟨ret_i64 E.out.symm, rfl⟩
  · have l := any_nan_left v .eq hu
    rw [hu] at n1
    rw [hv] at n2
    have E := Lib.hid (show FareM.rank u v = -1 by simp [FareM.rank, hu, hv])
    clear hu hv
    go_enter Try.func22, Try.ntmps22
    go_wp2
    go_ret
    exact ⟨ret_i64 E.out.symm, rfl⟩
  · have l := any_nan_right u .eq hv
    have l2 := any_nan_right u .lt hv
    rw [hu] at n1
    rw [hv] at n2
    have E := Lib.hid (show FareM.rank u v = 1 by simp [FareM.rank, hu, hv])
    clear hu hv
    go_enter Try.func22, Try.ntmps22
    go_wp2
    go_ret
    exact ⟨ret_i64 E.out.symm, rfl⟩
  · have l := lt_eq hu hv
    have g := eq_eq hu hv
    rw [hu] at n1
    rw [hv] at n2
    have E := Lib.hid (show FareM.rank u v = FareM.sgnI (FareM.worth u) (FareM.worth v) by simp [FareM.rank, hu, hv])
    clear hu hv
    rcases Int.lt_trichotomy (FareM.worth u) (FareM.worth v) with h | h | h
    · have E2 := Lib.hid (show FareM.rank u v = -1 by rw [E.out]; unfold FareM.sgnI; rw [if_pos h])
      have l1 : (FloatKind.f64.format.order u v == some Ordering.lt) = true := by rw [l]; simpa using h
      have g1 : (FloatKind.f64.format.order u v == some Ordering.eq) = false := by rw [g]; simp; omega
      clear h l g
      go_enter Try.func22, Try.ntmps22
      go_wp2
      go_ret
      exact ⟨ret_i64 E2.out.symm, rfl⟩
    · have E2 := Lib.hid (show FareM.rank u v = 0 by rw [E.out]; unfold FareM.sgnI; rw [if_neg (by omega), if_neg (by omega)])
      have l1 : (FloatKind.f64.format.order u v == some Ordering.lt) = false := by rw [l]; simp; omega
      have g1 : (FloatKind.f64.format.order u v == some Ordering.eq) = true := by rw [g]; simpa using h
      clear h l g
      go_enter Try.func22, Try.ntmps22
      go_wp2
      go_ret
      exact ⟨ret_i64 E2.out.symm, rfl⟩
    · have E2 := Lib.hid (show FareM.rank u v = 1 by rw [E.out]; unfold FareM.sgnI; rw [if_neg (by omega), if_pos h])
      have l1 : (FloatKind.f64.format.order u v == some Ordering.lt) = false := by rw [l]; simp; omega
      have g1 : (FloatKind.f64.format.order u v == some Ordering.eq) = false := by rw [g]; simp; omega
      clear h l g
      go_enter Try.func22, Try.ntmps22
      go_wp2
      go_ret
      exact ⟨ret_i64 E2.out.symm, rfl⟩

theorem wf_f64 {u : Nat} (h : (Lit.float .f64 u).wf = true) : u < 18446744073709551616 := by simpa [Lit.wf] using h
theorem wf_u64 {n : Int} (h : (Lit.int .u64 n).wf = true) : ∃ k : Nat, n = k ∧ k < 18446744073709551616 := by
  have : 0 ≤ n ∧ n ≤ 18446744073709551615 := by simpa [Lit.wf, IntKind.min, IntKind.max, IntKind.signed, IntKind.bits] using h
  exact ⟨n.toNat, by omega, by omega⟩

theorem keys_walk (w : World) (f : Nat) (hf : (Lit.float .f64 f).wf = true) (k : Int) (hk : (Lit.int .u64 k).wf = true) :
    Calls Try.prog 4 #[.float .f64 f, .int .u64 k] w fun e w' => e = .returned (.bool true) ∧ Below w.heap.size w w' := by
  obtain ⟨k, rfl, hk'⟩ := wf_u64 hk
  have hf' := wf_f64 hf
  have K1 := Lib.hid (fun w => key_any f hf' w)
  have K2 := Lib.hid (fun w => of_any k hk' w)
  have K3 := Lib.hid (fun w => refKey_any f hf' w)
  have K4 := Lib.hid (fun w => refOf_any k hk' w)
  have hb := fun w b => run_f64bits w b
  clear hf hf' hk hk'
  go_enter Try.func4, Try.ntmps4
  go_wp2_with fail
  refine (K1.out _).mono ?_
  rintro e w' ⟨rfl, rfl⟩
  go_wp2_with fail
  refine (K2.out _).mono ?_
  rintro e w' ⟨rfl, rfl⟩
  go_wp2_with fail
  refine (K3.out _).mono ?_
  rintro e w' ⟨rfl, rfl⟩
  go_wp2_with fail
  refine (K4.out _).mono ?_
  rintro e w' ⟨rfl, rfl⟩
  go_wp2_with fail
  go_ret
  exact ⟨by simp, Below.refl _ _⟩
/-! ### plain facts on how words stand -/
namespace FareM
theorem sgn_anti (a b : Nat) : sgn b a = - sgn a b := by unfold sgn; split <;> split <;> omega
theorem sgnI_anti (a b : Int) : sgnI b a = - sgnI a b := by unfold sgnI; split <;> split <;> omega
theorem rank_anti (u v : Nat) : rank v u = - rank u v := by
  unfold rank
  rw [sgnI_anti (worth u) (worth v)]
  cases nan u <;> cases nan v <;> simp
theorem sgn_bd (a b : Nat) : -1 ≤ sgn a b ∧ sgn a b ≤ 1 := by unfold sgn; split <;> (try split) <;> omega
theorem sgnI_bd (a b : Int) : -1 ≤ sgnI a b ∧ sgnI a b ≤ 1 := by unfold sgnI; split <;> (try split) <;> omega
theorem rank_bd (u v : Nat) : -1 ≤ rank u v ∧ rank u v ≤ 1 := by
  have := sgnI_bd (worth u) (worth v)
  unfold rank
  cases nan u <;> cases nan v <;> simp <;> omega
theorem sgn_trans (a b c : Nat) : ¬ (sgn a b ≤ 0 ∧ sgn b c ≤ 0 ∧ 0 < sgn a c) ∧ ¬ (sgn a b < 0 ∧ sgn b c ≤ 0 ∧ sgn a c = 0) := by
  unfold sgn
  repeat' split
  all_goals omega
theorem sgnI_trans (a b c : Int) : ¬ (sgnI a b ≤ 0 ∧ sgnI b c ≤ 0 ∧ 0 < sgnI a c) ∧ ¬ (sgnI a b = 0 ∧ sgnI b c = 0 ∧ sgnI a c ≠ 0) := by
  unfold sgnI
  repeat' split
  all_goals omega
theorem rank_trans (a b c : Nat) : ¬ (rank a b ≤ 0 ∧ rank b c ≤ 0 ∧ 0 < rank a c) ∧ ¬ (rank a b = 0 ∧ rank b c = 0 ∧ rank a c ≠ 0) := by
  have h := sgnI_trans (worth a) (worth b) (worth c)
  have h1 := sgnI_bd (worth a) (worth b)
  have h2 := sgnI_bd (worth b) (worth c)
  have h3 := sgnI_bd (worth a) (worth c)
  unfold rank
  cases nan a <;> cases nan b <;> cases nan c <;> simp at h ⊢ <;> omega
end FareM
theorem order_10 (w : World) : Calls Try.prog 20 #[.float .f64 4607182418800017408, .float .f64 0] w fun e w' => e = .returned (.int .i64 1) ∧ w' = w := by
  have h := order_any 4607182418800017408 0 (by omega) (by omega) w
  rw [show FareM.sgn (FareM.key 4607182418800017408) (FareM.key 0) = 1 by decide +kernel] at h
  exact h
theorem rank_10 (w : World) : Calls Try.prog 19 #[.float .f64 4607182418800017408, .float .f64 0] w fun e w' => e = .returned (.int .i64 1) ∧ w' = w := by
  have h := rank_any 4607182418800017408 0 w
  rw [show FareM.rank 4607182418800017408 0 = 1 by decide +kernel] at h
  exact h

theorem orders_walk (w : World) (a : Nat) (ha : (Lit.float .f64 a).wf = true) (b : Nat) (hb : (Lit.float .f64 b).wf = true) :
    Calls Try.prog 6 #[.float .f64 a, .float .f64 b] w fun e w' => e = .returned (.bool true) ∧ Below w.heap.size w w' := by
  have K1 := Lib.hid (fun w => order_any a b (wf_f64 ha) (wf_f64 hb) w)
  have K2 := Lib.hid (fun w => refOrder_any a b (wf_f64 ha) (wf_f64 hb) w)
  have K3 := Lib.hid (fun w => rank_any a b w)
  have K4 := Lib.hid (fun w => refRank_any a b w)
  clear ha hb
  go_enter Try.func6, Try.ntmps6
  go_wp2_with fail
  refine (order_10 _).mono ?_
  rintro e w' ⟨rfl, rfl⟩
  go_wp2_with fail
  refine (rank_10 _).mono ?_
  rintro e w' ⟨rfl, rfl⟩
  go_wp2_with fail
  refine (K1.out _).mono ?_
  rintro e w' ⟨rfl, rfl⟩
  go_wp2_with fail
  refine (K2.out _).mono ?_
  rintro e w' ⟨rfl, rfl⟩
  go_wp2_with fail
  refine (K3.out _).mono ?_
  rintro e w' ⟨rfl, rfl⟩
  go_wp2_with fail
  refine (K4.out _).mono ?_
  rintro e w' ⟨rfl, rfl⟩
  go_wp2_with fail
  go_ret
  exact ⟨by simp, Below.refl _ _⟩

theorem ranks_walk (w : World) (a : Nat) (ha : (Lit.float .f64 a).wf = true) (b : Nat) (hb : (Lit.float .f64 b).wf = true) (c : Nat) (hc : (Lit.float .f64 c).wf = true) :
    Calls Try.prog 5 #[.float .f64 a, .float .f64 b, .float .f64 c] w fun e w' => e = .returned (.bool true) ∧ Below w.heap.size w w' := by
  have K1 := Lib.hid (fun w => rank_any a b w)
  have K2 := Lib.hid (fun w => rank_any b c w)
  have K3 := Lib.hid (fun w => rank_any a c w)
  have T := Lib.hid (FareM.rank_trans a b c)
  clear ha hb hc
  generalize FareM.rank a b = x at *
  generalize FareM.rank b c = y at *
  generalize FareM.rank a c = z at *
  go_enter Try.func5, Try.ntmps5
  go_wp2_with fail
  refine (rank_10 _).mono ?_
  rintro e w' ⟨rfl, rfl⟩
  go_wp2_with fail
  refine (K1.out _).mono ?_
  rintro e w' ⟨rfl, rfl⟩
  go_wp2_with fail
  refine (K2.out _).mono ?_
  rintro e w' ⟨rfl, rfl⟩
  go_wp2_with fail
  refine (K3.out _).mono ?_
  rintro e w' ⟨rfl, rfl⟩
  go_wp2_with fail
  all_goals
    go_ret
    have T := T.out
    exact ⟨by (first | rfl | (simp; omega) | (exfalso; simp at *; omega)), Below.refl _ _⟩
end Go.Proofs.Ythbjgeemenenhaa

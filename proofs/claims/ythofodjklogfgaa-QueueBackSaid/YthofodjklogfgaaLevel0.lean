/- How floats stand to one another: cmp.Compare, Rank, of the program and of the reference. (Drawn from the texts of the seat fare.) -/
import Derived.Test.YthofodjklogfgaaMem
import Derived.Test.YthofodjklogfgaaFareMath
import Derived.Test.YthofodjklogfgaaRows
import Derived.Handy
import Derived.WalkLawsBesides
import Derived.Laws.BitsAllLaws
import Derived.Laws.BitsLemmas
namespace Go.Proofs.Ythofodjklogfgaa
open Go.RowKit

theorem ret_i64 {a b : Int} (h : a = b) : Ending.returned (.int .i64 a) = .returned (.int .i64 b) := by rw [h]
theorem f64_format : FloatKind.f64.format = Ieee.double := rfl
theorem isnan_eq (u : Nat) : (FloatKind.f64.format.order u u != some Ordering.eq) = FareM.nan u := by
  rw [f64_format]
  by_cases h : FareM.nan u = true
  · rw [FareM.order_nan_left u h, h]; rfl
  · have h : FareM.nan u = false := by simpa using h
    rw [FareM.order_eq h h, FareM.cmp_eq rfl, h]; rfl
theorem lt_eq {u v : Nat} (hu : FareM.nan u = false) (hv : FareM.nan v = false) : (FloatKind.f64.format.order u v == some Ordering.lt) = decide (FareM.worth u < FareM.worth v) := by
  rw [f64_format, FareM.order_eq hu hv]
  rcases Int.lt_trichotomy (FareM.worth u) (FareM.worth v) with h | h | h
  · rw [FareM.cmp_lt h]; simp [h]
  · rw [FareM.cmp_eq h, h]; simp
  · rw [FareM.cmp_gt h]; simp; omega
theorem gt_eq {u v : Nat} (hu : FareM.nan u = false) (hv : FareM.nan v = false) : (FloatKind.f64.format.order u v == some Ordering.gt) = decide (FareM.worth v < FareM.worth u) := by
  rw [f64_format, FareM.order_eq hu hv]
  rcases Int.lt_trichotomy (FareM.worth u) (FareM.worth v) with h | h | h
  · rw [FareM.cmp_lt h]; simp; omega
  · rw [FareM.cmp_eq h, h]; simp
  · rw [FareM.cmp_gt h]; simp [h]
theorem eq_eq {u v : Nat} (hu : FareM.nan u = false) (hv : FareM.nan v = false) : (FloatKind.f64.format.order u v == some Ordering.eq) = decide (FareM.worth u = FareM.worth v) := by
  rw [f64_format, FareM.order_eq hu hv]
  rcases Int.lt_trichotomy (FareM.worth u) (FareM.worth v) with h | h | h
  · rw [FareM.cmp_lt h]; simp; omega
  · rw [FareM.cmp_eq h, h]; simp
  · rw [FareM.cmp_gt h]; simp; omega
theorem any_nan_left {u : Nat} (v : Nat) (o : Ordering) (hu : FareM.nan u = true) : (FloatKind.f64.format.order u v == some o) = false := by
  rw [f64_format, FareM.order_nan_left v hu]; rfl
theorem any_nan_right (u : Nat) {v : Nat} (o : Ordering) (hv : FareM.nan v = true) : (FloatKind.f64.format.order u v == some o) = false := by
  rw [f64_format, FareM.order_nan_right u hv]; rfl

theorem cmpF_any (u v : Nat) (w : World) : Calls Try.prog 65 #[.float .f64 u, .float .f64 v] w fun e w' => e = .returned (.int .i64 (FareM.rank u v)) ∧ w' = w := by
  have n1 := isnan_eq u
  have n2 := isnan_eq v
  rcases Bool.eq_false_or_eq_true (FareM.nan u) with hu | hu <;> rcases Bool.eq_false_or_eq_true (FareM.nan v) with hv | hv
  · rw [hu] at n1
    rw [hv] at n2
    have E := Lib.hid (show FareM.rank u v = 0 by simp [FareM.rank, hu, hv])
    clear hu hv
    go_enter Try.func65, Try.ntmps65
    go_wp2
    go_ret
    exact ⟨ret_i64 E.out.symm, rfl⟩
  · rw [hu] at n1
    rw [hv] at n2
    have E := Lib.hid (show FareM.rank u v = -1 by simp [FareM.rank, hu, hv])
    clear hu hv
    go_enter Try.func65, Try.ntmps65
    go_wp2
    go_ret
    exact ⟨ret_i64 E.out.symm, rfl⟩
  · rw [hu] at n1
    rw [hv] at n2
    have E := Lib.hid (show FareM.rank u v = 1 by simp [FareM.rank, hu, hv])
    clear hu hv
    go_enter Try.func65, Try.ntmps65
    go_wp2
    go_ret
    exact ⟨ret_i64 E.out.symm, rfl⟩
  · have l := lt_eq hu hv
    have g := gt_eq hu hv
    rw [hu] at n1
    rw [hv] at n2
    have E := Lib.hid (show FareM.rank u v = FareM.sgnI (FareM.worth u) (FareM.worth v) by simp [FareM.rank, hu, hv])
    clear hu hv
    rcases Int.lt_trichotomy (FareM.worth u) (FareM.worth v) with h | h | h
    · have E2 := Lib.hid (show FareM.rank u v = -1 by rw [E.out]; unfold FareM.sgnI; rw [if_pos h])
      have l1 : (FloatKind.f64.format.order u v == some Ordering.lt) = true := by rw [l]; simpa using h
      clear h l g
      go_enter Try.func65, Try.ntmps65
      go_wp2
      go_ret
      exact ⟨ret_i64 E2.out.symm, rfl⟩
    · have E2 := Lib.hid (show FareM.rank u v = 0 by rw [E.out]; unfold FareM.sgnI; rw [if_neg (by omega), if_neg (by omega)])
      have l1 : (FloatKind.f64.format.order u v == some Ordering.lt) = false := by rw [l]; simp; omega
      have g1 : (FloatKind.f64.format.order u v == some Ordering.gt) = false := by rw [g]; simp; omega
      clear h l g
      go_enter Try.func65, Try.ntmps65
      go_wp2
      go_ret
      exact ⟨ret_i64 E2.out.symm, rfl⟩
    · have E2 := Lib.hid (show FareM.rank u v = 1 by rw [E.out]; unfold FareM.sgnI; rw [if_neg (by omega), if_pos h])
      have l1 : (FloatKind.f64.format.order u v == some Ordering.lt) = false := by rw [l]; simp; omega
      have g1 : (FloatKind.f64.format.order u v == some Ordering.gt) = true := by rw [g]; simpa using h
      clear h l g
      go_enter Try.func65, Try.ntmps65
      go_wp2
      go_ret
      exact ⟨ret_i64 E2.out.symm, rfl⟩
theorem rank_any (u v : Nat) (w : World) :
    Calls Try.prog 49 #[.float .f64 u, .float .f64 v] w fun e w' => e = .returned (.int .i64 (FareM.rank u v)) ∧ w' = w := by
  go_enter Try.func49, Try.ntmps49
  go_wp2_with fail
  refine (cmpF_any _ _ _).mono ?_
  rintro e w' ⟨rfl, rfl⟩
  go_wp2_with fail
  go_ret
  exact ⟨rfl, rfl⟩
theorem refRank_any (u v : Nat) (w : World) : Calls Try.prog 28 #[.float .f64 u, .float .f64 v] w fun e w' => e = .returned (.int .i64 (FareM.rank u v)) ∧ w' = w := by
  have n1 := isnan_eq u
  have n2 := isnan_eq v
  rcases Bool.eq_false_or_eq_true (FareM.nan u) with hu | hu <;> rcases Bool.eq_false_or_eq_true (FareM.nan v) with hv | hv
  · rw [hu] at n1
    rw [hv] at n2
    have E := Lib.hid (show FareM.rank u v = 0 by simp [FareM.rank, hu, hv])
    clear hu hv
    go_enter Try.func28, Try.ntmps28
    go_wp2
    go_ret
    exact ⟨ret_i64 E.out.symm, rfl⟩
  · have l := any_nan_left v .eq hu
    rw [hu] at n1
    rw [hv] at n2
    have E := Lib.hid (show FareM.rank u v = -1 by simp [FareM.rank, hu, hv])
    clear hu hv
    go_enter Try.func28, Try.ntmps28
    go_wp2
    go_ret
    exact ⟨ret_i64 E.out.symm, rfl⟩
  · have l := any_nan_right u .eq hv
    have l2 := any_nan_right u .lt hv
    rw [hu] at n1
    rw [hv] at n2
    have E := Lib.hid (show FareM.rank u v = 1 by simp [FareM.rank, hu, hv])
    clear hu hv
    go_enter Try.func28, Try.ntmps28
    go_wp2
    go_ret
    exact ⟨ret_i64 E.out.symm, rfl⟩
  · have l := lt_eq hu hv
    have g := eq_eq hu hv
    rw [hu] at n1
    rw [hv] at n2
    have E := Lib.hid (show FareM.rank u v = FareM.sgnI (FareM.worth u) (FareM.worth v) by simp [FareM.rank, hu, hv])
    clear hu hv
    rcases Int.lt_trichotomy (FareM.worth u) (FareM.worth v) with h | h | h
    · have E2 := Lib.hid (show FareM.rank u v = -1 by rw [E.out]; unfold FareM.sgnI; rw [if_pos h])
      have l1 : (FloatKind.f64.format.order u v == some Ordering.lt) = true := by rw [l]; simpa using h
      have g1 : (FloatKind.f64.format.order u v == some Ordering.eq) = false := by rw [g]; simp; omega
      clear h l g
      go_enter Try.func28, Try.ntmps28
      go_wp2
      go_ret
      exact ⟨ret_i64 E2.out.symm, rfl⟩
    · have E2 := Lib.hid (show FareM.rank u v = 0 by rw [E.out]; unfold FareM.sgnI; rw [if_neg (by omega), if_neg (by omega)])
      have l1 : (FloatKind.f64.format.order u v == some Ordering.lt) = false := by rw [l]; simp; omega
      have g1 : (FloatKind.f64.format.order u v == some Ordering.eq) = true := by rw [g]; simpa using h
      clear h l g
      go_enter Try.func28, Try.ntmps28
      go_wp2
      go_ret
      exact ⟨ret_i64 E2.out.symm, rfl⟩
    · have E2 := Lib.hid (show FareM.rank u v = 1 by rw [E.out]; unfold FareM.sgnI; rw [if_neg (by omega), if_pos h])
      have l1 : (FloatKind.f64.format.order u v == some Ordering.lt) = false := by rw [l]; simp; omega
      have g1 : (FloatKind.f64.format.order u v == some Ordering.eq) = false := by rw [g]; simp; omega
      clear h l g
      go_enter Try.func28, Try.ntmps28
      go_wp2
      go_ret
      exact ⟨ret_i64 E2.out.symm, rfl⟩

end Go.Proofs.Ythofodjklogfgaa

/- What right, order, place compute, of one who waits. -/
import Derived.Test.YthofodjklogfgaaQueueMath
import Derived.Test.YthofodjklogfgaaLevel0
namespace Go.Proofs.Ythofodjklogfgaa
open Go.RowKit QueueM

theorem ret_bool {a b : Bool} (h : a = b) : Ending.returned (.bool a) = .returned (.bool b) := by rw [h]
theorem within_any (n l h : Int) (w : World) : Calls Try.prog 45 #[.int .i64 n, .int .i64 l, .int .i64 h] w fun e w' => e = .returned (.bool (decide (l ≤ n ∧ n ≤ h))) ∧ w' = w := by
  by_cases h1 : l ≤ n
  · by_cases h2 : n ≤ h
    · go_enter Try.func45, Try.ntmps45
      go_wp2
      go_ret
      exact ⟨ret_bool (by simp [h1, h2]), rfl⟩
    · go_enter Try.func45, Try.ntmps45
      go_wp2
      go_ret
      exact ⟨ret_bool (by simp [h1]; omega), rfl⟩
  · go_enter Try.func45, Try.ntmps45
    go_wp2
    go_ret
    exact ⟨ret_bool (by simp; omega), rfl⟩
set_option maxHeartbeats 1000000 in
theorem right_any (i c m t : Int) (s : Nat) (w : World) : Calls Try.prog 23 #[.agg #[.int .i64 i, .int .i64 c, .int .i64 m, .int .i64 t, .float .f64 s]] w fun e w' => e = .returned (.bool (right ⟨i, c, m, t, s⟩)) ∧ Fresh w w' := by
  have HR := Lib.hid (show right ⟨i, c, m, t, s⟩ = (decide (1 ≤ i ∧ i ≤ 28629151) && decide (0 ≤ c ∧ c ≤ 7) && decide (1 ≤ m ∧ m ≤ 600) && decide (0 ≤ t ∧ t ≤ 1099511627776)) by
    rw [Bool.eq_iff_iff, right_iff]; simp; omega)
  have F := fun o => (Frm.refl (fun _ => False) w).alloc o
  have HF := Lib.hid F
  clear F
  rcases Bool.eq_false_or_eq_true (decide (1 ≤ i ∧ i ≤ 28629151)) with b1 | b1
  · rcases Bool.eq_false_or_eq_true (decide (0 ≤ c ∧ c ≤ 7)) with b2 | b2
    · rcases Bool.eq_false_or_eq_true (decide (1 ≤ m ∧ m ≤ 600)) with b3 | b3
      · go_enter Try.func23, Try.ntmps23
        go_wp2_with fail
        refine (within_any _ _ _ _).mono ?_
        rw [b1]
        rintro e w' ⟨rfl, rfl⟩
        go_wp2_with fail
        refine (within_any _ _ _ _).mono ?_
        rw [b2]
        rintro e w' ⟨rfl, rfl⟩
        go_wp2_with fail
        refine (within_any _ _ _ _).mono ?_
        rw [b3]
        rintro e w' ⟨rfl, rfl⟩
        go_wp2_with fail
        refine (within_any _ _ _ _).mono ?_
        rintro e w' ⟨rfl, rfl⟩
        go_wp2_with fail
        go_ret
        exact ⟨ret_bool (by rw [HR.out, b1, b2, b3]; simp), HF.out _⟩
      · go_enter Try.func23, Try.ntmps23
        go_wp2_with fail
        refine (within_any _ _ _ _).mono ?_
        rw [b1]
        rintro e w' ⟨rfl, rfl⟩
        go_wp2_with fail
        refine (within_any _ _ _ _).mono ?_
        rw [b2]
        rintro e w' ⟨rfl, rfl⟩
        go_wp2_with fail
        refine (within_any _ _ _ _).mono ?_
        rw [b3]
        rintro e w' ⟨rfl, rfl⟩
        go_wp2_with fail
        go_ret
        exact ⟨by rw [HR.out, b1, b2, b3]; rfl, HF.out _⟩
    · go_enter Try.func23, Try.ntmps23
      go_wp2_with fail
      refine (within_any _ _ _ _).mono ?_
      rw [b1]
      rintro e w' ⟨rfl, rfl⟩
      go_wp2_with fail
      refine (within_any _ _ _ _).mono ?_
      rw [b2]
      rintro e w' ⟨rfl, rfl⟩
      go_wp2_with fail
      go_ret
      exact ⟨by rw [HR.out, b1, b2]; rfl, HF.out _⟩
  · go_enter Try.func23, Try.ntmps23
    go_wp2_with fail
    refine (within_any _ _ _ _).mono ?_
    rw [b1]
    rintro e w' ⟨rfl, rfl⟩
    go_wp2_with fail
    go_ret
    exact ⟨by rw [HR.out, b1]; rfl, HF.out _⟩
end Go.Proofs.Ythofodjklogfgaa

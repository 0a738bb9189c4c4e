/- What New answers, of the program and of the reference: a peer in new memory where the numbers may be, else an error. -/
import Derived.Test.YthglnipcddoblaaMem
import Derived.Test.YthglnipcddoblaaRows
import Derived.Handy
namespace Go.Proofs.Ythglnipcddoblaa
open Go.RowKit

def NewOk (a b : Int) : Prop := 1 ≤ a ∧ a ≤ 1099511627776 ∧ 1 ≤ b ∧ b ≤ 64

theorem new_ok (a b : Int) (h : NewOk a b) (w : World) : Calls Try.prog 7 #[.int .i64 a, .int .i64 b] w fun e w' =>
    e = .returned (.tuple #[.pointer (some ⟨w.heap.size, 0, none⟩), .int .i64 0]) ∧ w' = w.alloc (.cells #[.int .i64 0, .int .i64 0, .int .i64 a, .int .i64 b, .bool false, .slice none 0 0, .int .i64 0] 42) := by
  obtain ⟨h1, h2, h3, h4⟩ := h
  go_enter Try.func7, Try.ntmps7
  go_wp2
  go_ret2
  exact ⟨rfl, rfl⟩
theorem new_no (a b : Int) (h : ¬ NewOk a b) (w : World) : Calls Try.prog 7 #[.int .i64 a, .int .i64 b] w fun e w' =>
    e = .returned (.tuple #[.pointer none, .int .i64 1]) ∧ w' = w := by
  unfold NewOk at h
  by_cases h1 : 1 ≤ a <;> by_cases h2 : a ≤ 1099511627776 <;> by_cases h3 : 1 ≤ b <;> by_cases h4 : b ≤ 64
  all_goals first | (exfalso; omega) | skip
  all_goals
    clear h
    go_enter Try.func7, Try.ntmps7
    go_wp2
    go_ret2
    exact ⟨rfl, rfl⟩
theorem refNew_ok (a b : Int) (h : NewOk a b) (w : World) : Calls Try.prog 8 #[.int .i64 a, .int .i64 b] w fun e w' =>
    e = .returned (.tuple #[.pointer (some ⟨w.heap.size, 0, none⟩), .int .i64 0]) ∧ w' = w.alloc (.cells #[.int .i64 0, .int .i64 0, .int .i64 a, .int .i64 b, .bool false, .slice none 0 0, .int .i64 0] 44) := by
  obtain ⟨h1, h2, h3, h4⟩ := h
  go_enter Try.func8, Try.ntmps8
  go_wp2
  go_ret2
  exact ⟨rfl, rfl⟩
theorem refNew_no (a b : Int) (h : ¬ NewOk a b) (w : World) : Calls Try.prog 8 #[.int .i64 a, .int .i64 b] w fun e w' =>
    e = .returned (.tuple #[.pointer none, .int .i64 1]) ∧ w' = w := by
  unfold NewOk at h
  by_cases h1 : 1 ≤ a <;> by_cases h2 : a ≤ 1099511627776 <;> by_cases h3 : 1 ≤ b <;> by_cases h4 : b ≤ 64
  all_goals first | (exfalso; omega) | skip
  all_goals
    clear h
    go_enter Try.func8, Try.ntmps8
    go_wp2
    go_ret2
    exact ⟨rfl, rfl⟩

set_option maxHeartbeats 400000 in
theorem news_walk (w : World) (a : Int) (_ : (Lit.int .i64 a).wf = true) (b : Int) (_ : (Lit.int .i64 b).wf = true) : Calls Try.prog 3 #[.int .i64 a, .int .i64 b] w fun e w' => e = .returned (.bool true) ∧ Below w.heap.size w w' := by
  by_cases h : NewOk a b
  · go_enter Try.func3, Try.ntmps3
    go_wp2_with fail
    refine (new_ok _ _ h _).mono ?_
    rintro e w1 ⟨rfl, rfl⟩
    go_wp2_with fail
    refine (refNew_ok _ _ h _).mono ?_
    rintro e w1 ⟨rfl, rfl⟩
    go_wp2_with fail
    refine (new_ok 1 1 (by unfold NewOk; omega) _).mono ?_
    rintro e w1 ⟨rfl, rfl⟩
    go_wp2
    go_ret
    exact ⟨rfl, by go_grown⟩
  · go_enter Try.func3, Try.ntmps3
    go_wp2_with fail
    refine (new_no _ _ h _).mono ?_
    rintro e w1 ⟨rfl, rfl⟩
    go_wp2_with fail
    refine (refNew_no _ _ h _).mono ?_
    rintro e w1 ⟨rfl, rfl⟩
    go_wp2_with fail
    refine (new_ok 1 1 (by unfold NewOk; omega) _).mono ?_
    rintro e w1 ⟨rfl, rfl⟩
    go_wp2
    go_ret
    exact ⟨rfl, by go_grown⟩
end Go.Proofs.Ythglnipcddoblaa

/- What the reference's RightLimits computes. -/
import Derived.Test.YtgkkkibagbdlcaaNest3
namespace Go.Proofs.Ytgkkkibagbdlcaa
open Go.RowKit NestM

set_option maxHeartbeats 400000 in
theorem refLimits_any (w : World) (A : Option Addr) (ca : Nat) (l : List Int) (hl : Rd w w.heap.size A (l.map iv)) :
    Calls Try.prog 26 #[.slice A l.length ca] w fun e w' => LimPost l w e w' := by
  have HL := Lib.hid hl
  clear hl
  by_cases h1 : l.length < 1
  · go_enter Try.func26, Try.ntmps26
    go_wp2_with fail
    go_ret
    exact ⟨false, 0, rfl, rfl, by simp [Lim]; omega⟩
  by_cases h2 : 8 < l.length
  · go_enter Try.func26, Try.ntmps26
    go_wp2_with fail
    go_ret
    exact ⟨false, 0, rfl, rfl, by simp [Lim]; omega⟩
  go_enter Try.func26, Try.ntmps26
  go_wp2_with fail
  go_loopw [3] (fun v3 wr => ∃ i n : Nat, i ≤ l.length ∧ (∀ j, j < i → wi (at_ l j) = true ∧ (0 < j → at_ l j ≤ at_ l (j - 1))) ∧ v3 = iv i ∧ w.drewN n = wr) (fun v3 _ => l.length - (intOf v3).toNat)
  case atStart => exact ⟨0, 0, by omega, fun j h => by omega, rfl, rfl⟩
  case round =>
    obtain ⟨i, n, hi, hok, rfl, rfl⟩ := hrel
    have HOK := Lib.hid hok
    clear hok
    unfold iv
    by_cases hil : i < l.length
    · obtain ⟨b, o, rfl, hc⟩ := cell_at HL.out hil
      have hc1 : ∀ n, (w.drewN n).cell? ⟨b, o + i, none⟩ = some (.int .i64 (at_ l i)) := fun _ => hc
      have hi0 : (0 : Int) ≤ i := by omega
      have bad0 : ∀ (_ : at_ l i < 0 ∨ 10000 < at_ l i ∨ (0 < i ∧ at_ l (i - 1) < at_ l i)), ¬ Lim l := by
        intro h hl
        obtain ⟨_, _, h3⟩ := hl
        have := h3 i hil
        have h4 := wi_true this.1
        rcases h with h | h | h
        · omega
        · omega
        · have := this.2 h.1; omega
      have bad := Lib.hid bad0
      clear bad0
      generalize hx0 : at_ l i = x at bad hc hc1
      have hx := Lib.hid hx0
      clear hx0
      by_cases g1 : x < 0
      · go_wp2_with fail
        go_quiet (fail)
        go_wp2_with fail
        go_ret
        exact ⟨false, n + nq, rfl, drewN_add _ _ _, by simpa using bad.out (.inl g1)⟩
      by_cases g2 : 10000 < x
      · have d1 : decide (x < 0) = false := by simp; omega
        have d2 : decide (10000 < x) = true := by simp; omega
        go_wp2_with fail
        go_quiet (fail)
        go_wp2_with fail
        go_ret
        exact ⟨false, n + nq, rfl, drewN_add _ _ _, by simpa using bad.out (.inr (.inl g2))⟩
      have d1 : decide (x < 0) = false := by simp; omega
      have d2 : decide (10000 < x) = false := by simp; omega
      by_cases hz : 0 < i
      · obtain ⟨j, rfl⟩ : ∃ j, i = j + 1 := ⟨i - 1, by omega⟩
        obtain ⟨b', o', hab, hc'⟩ := cell_at HL.out (show j < l.length by omega)
        obtain ⟨rfl, rfl⟩ : b = b' ∧ o = o' := by simpa using hab
        have hc1' : ∀ n, (w.drewN n).cell? ⟨b, o + j, none⟩ = some (.int .i64 (at_ l j)) := fun _ => hc'
        have hjl : j < l.length := by omega
        have hjl2 : (j : Int) < l.length := by omega
        generalize hy0 : at_ l j = y at hc' hc1' bad
        have hy := Lib.hid hy0
        clear hy0
        by_cases g3 : y < x
        · have d3 : decide (y < x) = true := by simp; omega
          go_wp2_with fail
          go_quiet (fail)
          go_wp2_with fail
          go_ret
          exact ⟨false, n + nq, rfl, drewN_add _ _ _, by simp; exact bad.out (.inr (.inr ⟨hz, by simp; rw [hy.out]; exact g3⟩))⟩
        · have d3 : decide (y < x) = false := by simp; omega
          go_wp2_with fail
          go_quiet (fail)
          go_wp2_with fail
          go_roundw
          case rel => exact ⟨j + 1 + 1, n + nq, by omega, (fun k hk => by
            rcases Nat.lt_or_ge k (j + 1) with e | e
            · exact HOK.out k e
            · obtain rfl : k = j + 1 := by omega
              exact ⟨wi_mk (by rw [hx.out]; omega), fun _ => by simp; rw [hx.out, hy.out]; omega⟩), by go_num, by first | rfl | trivial⟩
          case measure => simp [intOf]; omega
      · go_wp2_with fail
        go_quiet (fail)
        go_wp2_with fail
        go_roundw
        case rel => exact ⟨i + 1, n + nq, by omega, (fun k hk => by
          rcases Nat.lt_or_ge k i with e | e
          · exact HOK.out k e
          · obtain rfl : k = i := by omega
            exact ⟨wi_mk (by rw [hx.out]; omega), fun h => absurd h hz⟩), by go_num, by first | rfl | trivial⟩
        case measure => simp [intOf]; omega
    · obtain rfl : i = l.length := by omega
      go_wp2_with fail
      go_ret
      exact ⟨true, n, rfl, rfl, by simp; exact ⟨by omega, by omega, HOK.out⟩⟩
end Go.Proofs.Ytgkkkibagbdlcaa

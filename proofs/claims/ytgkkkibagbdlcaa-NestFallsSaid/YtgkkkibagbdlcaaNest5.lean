/- What the reference's Right and Left compute. -/
import Derived.Test.YtgkkkibagbdlcaaNest4
namespace Go.Proofs.Ytgkkkibagbdlcaa
open Go.RowKit NestM

def RightPost (l s : List Int) (w : World) (e : Ending) (w' : World) : Prop := ∃ b n, e = .returned (.bool b) ∧ w' = w.drewN n ∧ (b = true ↔ Right l s)
theorem rd_drawn {w : World} {A : Option Addr} {xs : List Value} (h : Rd w w.heap.size A xs) (n : Nat) : Rd (w.drewN n) (w.drewN n).heap.size A xs := h
set_option maxHeartbeats 1000000 in
theorem refRight_any (w : World) (A : Option Addr) (ca : Nat) (l : List Int) (B : Option Addr) (cb : Nat) (s : List Int) (hl : Rd w w.heap.size A (l.map iv)) (hs : Rd w w.heap.size B (s.map iv)) :
    Calls Try.prog 14 #[.slice A l.length ca, .slice B s.length cb] w fun e w' => RightPost l s w e w' := by
  have HL := Lib.hid hl
  have HS := Lib.hid hs
  clear hl hs
  go_enter Try.func14, Try.ntmps14
  go_wp2_with fail
  refine (refLimits_any w A ca l HL.out).mono ?_
  rintro e w1 ⟨b, n, rfl, rfl, hb⟩
  have HB := Lib.hid hb
  clear hb
  have HNO := Lib.hid (show ¬ Lim l → ¬ Right l s from fun h hr => h ⟨hr.1.1.1, hr.1.1.2.1, fun j hj => ⟨(hr.1.2 j (by omega) hj).1, (hr.1.2 j (by omega) hj).2.2⟩⟩)
  cases b with
  | false =>
    go_wp2_with fail
    go_ret
    exact ⟨false, n, rfl, rfl, by simp; exact HNO.out (fun h => by have := HB.out.2 h; simp at this)⟩
  | true =>
    have hlim := HB.out.1 rfl
    have HLIM := Lib.hid hlim
    have h1 := hlim.1
    have h2 := hlim.2.1
    clear hlim HNO HB
    by_cases h3 : s.length = l.length
    · go_wp2_with fail
      go_loopw [6] (fun v6 wr => ∃ i m : Nat, i ≤ s.length ∧ (∀ j, j < i → wi (at_ s j) = true) ∧ v6 = iv i ∧ w.drewN m = wr) (fun v6 _ => s.length - (intOf v6).toNat)
      case atStart => exact ⟨0, n, by omega, fun j h => by omega, rfl, by first | rfl | trivial⟩
      case round =>
        obtain ⟨i, m, hi, hok, rfl, rfl⟩ := hrel
        have HOK := Lib.hid hok
        clear hok
        unfold iv
        by_cases hil : i < s.length
        · obtain ⟨b, o, rfl, hc⟩ := cell_at HS.out hil
          have hc1 : ∀ n, (w.drewN n).cell? ⟨b, o + i, none⟩ = some (.int .i64 (at_ s i)) := fun _ => hc
          have hi0 : (0 : Int) ≤ i := by omega
          generalize hx0 : at_ s i = x at hc hc1
          have hx := Lib.hid hx0
          clear hx0
          have bad := Lib.hid (show x < 0 ∨ 10000 < x → ¬ Right l s from fun h hr => by
            have := wi_true (hr.1.2 i (by omega) (by omega)).2.1
            rw [hx.out] at this
            omega)
          by_cases g1 : x < 0
          · have d1 : decide (x < 0) = true := by simp; omega
            go_wp2_with fail
            go_ret
            exact ⟨false, m, rfl, rfl, by simpa using bad.out (.inl g1)⟩
          have d1 : decide (x < 0) = false := by simp; omega
          by_cases g2 : 10000 < x
          · have d2 : decide (10000 < x) = true := by simp; omega
            go_wp2_with fail
            go_ret
            exact ⟨false, m, rfl, rfl, by simpa using bad.out (.inr g2)⟩
          · have d2 : decide (10000 < x) = false := by simp; omega
            go_wp2_with fail
            go_roundw
            case rel => exact ⟨i + 1, m, by omega, (fun k hk => by
              rcases Nat.lt_or_ge k i with e | e
              · exact HOK.out k e
              · obtain rfl : k = i := by omega
                exact wi_mk (by rw [hx.out]; omega)), by go_num, by first | rfl | trivial⟩
            case measure => simp [intOf]; omega
        · obtain rfl : i = l.length := by omega
          have HSM := Lib.hid (show Small s from ⟨by omega, fun j hj => HOK.out j (by omega)⟩)
          have HO := Lib.hid (show Ok l s from ⟨⟨by omega, by omega, by omega⟩, fun j _ hj => ⟨(HLIM.out.2.2 j hj).1, HOK.out j (by omega), (HLIM.out.2.2 j hj).2⟩⟩)
          go_wp2_with fail
          go_loopw [7] (fun v7 wr => ∃ i m : Nat, i ≤ l.length ∧ (∀ j, j < i → sfx s j ≤ at_ l j) ∧ v7 = iv i ∧ w.drewN m = wr) (fun v7 _ => l.length - (intOf v7).toNat)
          case atStart => exact ⟨0, m, by omega, fun j h => by omega, rfl, by first | rfl | trivial⟩
          case round =>
            obtain ⟨i, m, hi, hok, rfl, rfl⟩ := hrel
            have HOK2 := Lib.hid hok
            clear hok
            unfold iv
            by_cases hil : i < l.length
            · obtain ⟨b, o, rfl, hc⟩ := cell_at HL.out hil
              have hc1 : ∀ n, (w.drewN n).cell? ⟨b, o + i, none⟩ = some (.int .i64 (at_ l i)) := fun _ => hc
              have hi0 : (0 : Int) ≤ i := by omega
              generalize hx0 : at_ l i = x at hc hc1
              have hx := Lib.hid hx0
              clear hx0
              have hFR : ∀ x, Calls Try.prog 24 #[.slice B s.length cb, .int .i64 (i : Int)] (w.drewN (m + x)) fun e w' => e = .returned (.int .i64 (sfx s i)) ∧ ∃ n, w' = w.drewN (m + n) :=
                fun x => (refFrom_any (w.drewN (m + x)) B cb s i (by omega) HSM.out (rd_drawn HS.out (m + x))).mono fun e w' h => ⟨h.1, x, h.2⟩
              generalize hy0 : sfx s i = y at hFR
              have hy := Lib.hid hy0
              clear hy0
              rw [h3] at hFR
              have HFR := Lib.hid hFR
              clear hFR
              by_cases g1 : x < y
              · have d1 : decide (x < y) = true := by simp; omega
                go_wp2_with fail
                go_quiet ((go_at_call 24; exact HFR.out _))
                go_wp2_with fail
                go_ret
                exact ⟨false, m + nq, rfl, drewN_add _ _ _, by
                  simp
                  intro hr
                  have := (fine_iff l s 0 (Nat.zero_le _)).1 hr.2 i (Nat.zero_le _) hil
                  rw [hx.out, hy.out] at this
                  omega⟩
              · have d1 : decide (x < y) = false := by simp; omega
                go_wp2_with fail
                go_quiet ((go_at_call 24; exact HFR.out _))
                go_wp2_with fail
                go_roundw
                case rel => exact ⟨i + 1, m + nq, by omega, (fun k hk => by
                  rcases Nat.lt_or_ge k i with e | e
                  · exact HOK2.out k e
                  · obtain rfl : k = i := by omega
                    rw [hx.out, hy.out]; omega), by go_num, by first | rfl | trivial⟩
                case measure => simp [intOf]; omega
            · obtain rfl : i = l.length := by omega
              go_wp2_with fail
              go_ret
              exact ⟨true, m, rfl, rfl, by simp; exact ⟨HO.out, (fine_iff l s 0 (Nat.zero_le _)).2 fun j _ hj => HOK2.out j hj⟩⟩
    · have h3 : ((s.length : Int) != (l.length : Int)) = true := by rw [bne_iff_ne]; intro h; exact h3 (by omega)
      go_wp2_with fail
      go_ret
      exact ⟨false, n, rfl, rfl, by simp; intro hr; have := hr.1.1.2.2; simp at h3; omega⟩
end Go.Proofs.Ytgkkkibagbdlcaa

/- What the reference's Left computes; what is asked first. -/
import Derived.Test.YtgkkkibagbdlcaaNest5
namespace Go.Proofs.Ytgkkkibagbdlcaa
open Go.RowKit NestM

theorem fresh_drawn (w : World) (n : Nat) : Fresh w (w.drewN n) := (Frm.refl _ w).drewN n
set_option maxHeartbeats 1000000 in
theorem refLeft_any (w : World) (A : Option Addr) (ca : Nat) (l : List Int) (B : Option Addr) (cb : Nat) (s : List Int) (c : Int) (hl : Rd w w.heap.size A (l.map iv)) (hs : Rd w w.heap.size B (s.map iv)) :
    Calls Try.prog 12 #[.slice A l.length ca, .slice B s.length cb, .int .i64 c] w fun e w' => LeftPost l s c w e w' := by
  have HL := Lib.hid hl
  have HS := Lib.hid hs
  clear hl hs
  go_enter Try.func12, Try.ntmps12
  go_wp2_with fail
  refine (refRight_any w A ca l B cb s HL.out HS.out).mono ?_
  rintro e w1 ⟨b, n, rfl, rfl, hb⟩
  have HB := Lib.hid hb
  clear hb
  cases b with
  | false =>
    go_wp2_with fail
    go_ret2
    exact ⟨0, 1, rfl, fresh_drawn w n, .inr ⟨fun h => by have := HB.out.2 h.1; simp at this, rfl, rfl⟩⟩
  | true =>
    have HR := Lib.hid (HB.out.1 rfl)
    clear HB
    have h1 := HR.out.1.1.1
    have h2 := HR.out.1.1.2.1
    have h3 := HR.out.1.1.2.2
    by_cases g0 : c < 0
    · have d0 : decide (c < 0) = true := by simp; omega
      go_wp2_with fail
      go_ret2
      exact ⟨0, 1, rfl, fresh_drawn w n, .inr ⟨fun h => by omega, rfl, rfl⟩⟩
    have d0 : decide (c < 0) = false := by simp; omega
    by_cases g1 : (l.length : Int) ≤ c
    · have d1 : decide ((l.length : Int) ≤ c) = true := by simp; omega
      go_wp2_with fail
      go_ret2
      exact ⟨0, 1, rfl, fresh_drawn w n, .inr ⟨fun h => by omega, rfl, rfl⟩⟩
    obtain ⟨c, rfl⟩ := Int.eq_ofNat_of_zero_le (show 0 ≤ c by omega)
    have d1 : decide ((l.length : Int) ≤ c) = false := by simp; omega
    have hcl : c < l.length := by omega
    have hc8 : c ≤ 8 := by omega
    have HSM := Lib.hid (show Small s from ⟨by omega, fun j hj => (HR.out.1.2 j (by omega) (by omega)).2.1⟩)
    go_wp2_with fail
    go_loopw [9, 10] (fun v9 v10 wr => ∃ i m : Nat, i ≤ c + 1 ∧ v9 = iv (leastUp l s i) ∧ v10 = iv i ∧ w.drewN m = wr) (fun _ v10 _ => c + 1 - (intOf v10).toNat)
    case atStart => exact ⟨0, n, by omega, rfl, rfl, by first | rfl | trivial⟩
    case round =>
      obtain ⟨i, m, hi, rfl, rfl, rfl⟩ := hrel
      unfold iv
      by_cases hic : i ≤ c
      · have hil : i < l.length := by omega
        obtain ⟨b, o, rfl, hc⟩ := cell_at HL.out hil
        have hc1 : ∀ n, (w.drewN n).cell? ⟨b, o + i, none⟩ = some (.int .i64 (at_ l i)) := fun _ => hc
        have hi0 : (0 : Int) ≤ i := by omega
        have hx1 := wi_true (HR.out.1.2 i (by omega) hil).1
        have hy1 := sfx_part HSM.out s.length i (by omega) (Nat.le_refl _)
        rw [sfx_end (Nat.le_refl _)] at hy1
        generalize hx0 : at_ l i = x at hc hc1 hx1
        have hx := Lib.hid hx0
        clear hx0
        have hFR : ∀ x, Calls Try.prog 24 #[.slice B s.length cb, .int .i64 (i : Int)] (w.drewN (m + x)) fun e w' => e = .returned (.int .i64 (sfx s i)) ∧ ∃ n, w' = w.drewN (m + n) :=
          fun x => (refFrom_any (w.drewN (m + x)) B cb s i (by omega) HSM.out (rd_drawn HS.out (m + x))).mono fun e w' h => ⟨h.1, x, h.2⟩
        generalize hy0 : sfx s i = y at hFR hy1
        have hy := Lib.hid hy0
        clear hy0
        have hxa := hx1.1
        have hxb := hx1.2
        have hya : 0 ≤ y := by omega
        have hyb : y ≤ 100000 := by omega
        clear hx1 hy1
        rw [h3] at hFR
        have HFR := Lib.hid hFR
        clear hFR
        generalize hz0 : leastUp l s i = z
        have hz := Lib.hid hz0
        clear hz0
        go_wp2_with fail
        go_quiet ((go_at_call 24; exact HFR.out _))
        go_wp2_with fail
        go_roundw
        case rel => exact ⟨i + 1, m + nq, by omega, (by
          rw [leastUp, hz.out, hx.out, hy.out]
          congr 1
          split <;> omega), by go_num, by first | rfl | trivial⟩
        case measure => simp [intOf]; omega
      · obtain rfl : i = c + 1 := by omega
        have e := least_up (s := s) hcl
        go_wp2_with fail
        go_ret2
        exact ⟨_, 0, rfl, fresh_drawn w m, .inl ⟨HR.out, by omega, by omega, e.symm, rfl⟩⟩

theorem awake_right : Right [10, 6, 3] [2, 1, 3] := by
  refine ⟨⟨⟨by decide, by decide, by decide⟩, fun j _ hj => ?_⟩, ?_⟩
  · have : j = 0 ∨ j = 1 ∨ j = 2 := by simp at hj; omega
    rcases this with rfl | rfl | rfl <;> simp [OkAt, at_, wi]
  · rw [fine_iff _ _ _ (by decide)]
    intro j _ hj
    have : j = 0 ∨ j = 1 ∨ j = 2 := by simp at hj; omega
    rcases this with rfl | rfl | rfl <;> simp [sfx, at_]
theorem awake_least : least [10, 6, 3] [2, 1, 3] 1 0 = 2 := by
  have h := least_up (l := [10, 6, 3]) (s := [2, 1, 3]) (c := 1) (by decide)
  rw [show ((1 : Nat) : Int) = 1 by rfl] at h
  rw [h]
  simp [leastUp, at_, sfx]
  omega
theorem awake_any (w : World) : Calls Try.prog 10 #[] w fun e w' => e = .returned (.bool true) ∧ Fresh w w' := by
  go_enter Try.func10, Try.ntmps10
  go_wp2_with fail
  have F1 : Fresh w ((w.alloc (.cells #[.int .i64 10, .int .i64 6, .int .i64 3] 3)).alloc (.cells #[.int .i64 2, .int .i64 1, .int .i64 3] 3)) := ((Frm.refl _ w).alloc _).alloc _
  have r1 : Rd ((w.alloc (.cells #[.int .i64 10, .int .i64 6, .int .i64 3] 3)).alloc (.cells #[.int .i64 2, .int .i64 1, .int .i64 3] 3)) (w.heap.size + 1) (some ⟨w.heap.size, 0, none⟩) ([10, 6, 3].map iv) :=
    (rd_new w _ _).alloc (by simp) _
  have r2 : Rd ((w.alloc (.cells #[.int .i64 10, .int .i64 6, .int .i64 3] 3)).alloc (.cells #[.int .i64 2, .int .i64 1, .int .i64 3] 3)) (w.heap.size + 1 + 1) (some ⟨w.heap.size + 1, 0, none⟩) ([2, 1, 3].map iv) := by
    have := rd_new (w.alloc (.cells #[.int .i64 10, .int .i64 6, .int .i64 3] 3)) ([2, 1, 3].map iv) 3
    simpa [iv] using this
  refine (left_any _ (some ⟨w.heap.size, 0, none⟩) 3 [10, 6, 3] (some ⟨w.heap.size + 1, 0, none⟩) 3 [2, 1, 3] 1 (r1.more (by simp)) (r2.more (by simp))).mono ?_
  rintro e w1 ⟨x, y, rfl, F2, hx⟩
  obtain ⟨rfl, rfl⟩ : x = 2 ∧ y = 0 := by
    rcases hx with ⟨_, _, _, h1, h2⟩ | ⟨h, _⟩
    · exact ⟨h1.trans awake_least, h2⟩
    · exact absurd ⟨awake_right, by decide, by decide⟩ h
  go_wp2_with fail
  go_ret
  exact ⟨rfl, F1.trans F2⟩
theorem LeftIs.same {l s : List Int} {c x y x' y' : Int} (h : LeftIs l s c x y) (h' : LeftIs l s c x' y') : x = x' ∧ y = y' := by
  rcases h with ⟨a, b, c, d, e⟩ | ⟨a, b, c⟩ <;> rcases h' with ⟨a', b', c', d', e'⟩ | ⟨a', b', c'⟩
  · exact ⟨d.trans d'.symm, e.trans e'.symm⟩
  · exact absurd ⟨a, b, c⟩ a'
  · exact absurd ⟨a', b', c'⟩ a
  · exact ⟨b.trans b'.symm, c.trans c'.symm⟩
end Go.Proofs.Ytgkkkibagbdlcaa

/- The law NetFull walked. -/
import Derived.Test.YtlceembcehokoaaNet6
namespace Go.Proofs.Ytlceembcehokoaa
open Go.RowKit
set_option maxRecDepth 100000

set_option maxHeartbeats 4000000 in
theorem full_walk (w : World) (a : Int) (ha : (Lit.int .i64 a).wf = true) :
    Calls Try.prog 6 #[.int .i64 a] w fun e w' => e = .returned (.bool true) ∧ Below w.heap.size w w' := by
  go_enter Try.func6, Try.ntmps6
  go_wp2_with fail
  refine (awake_any w).mono ?_
  rintro e w1 ⟨rfl, f1⟩
  have HF1 := Lib.hid f1
  clear f1
  go_wp2_with fail
  refine (new_any w w1 HF1.out).mono ?_
  rintro e w2 ⟨b, m, rfl, hn⟩
  have HN := Lib.hid hn
  clear hn
  by_cases h0 : a < 0
  · go_wp2_with fail
    go_ret
    exact ⟨by simp, Fresh.below HN.out.frm⟩
  · by_cases h5 : 5000 < a
    · go_wp2_with fail
      go_ret
      exact ⟨by simp, Fresh.below HN.out.frm⟩
    · obtain ⟨k, rfl⟩ := Int.eq_ofNat_of_zero_le (show 0 ≤ a by omega)
      have hk5 : k ≤ 5000 := by omega
      clear ha
      go_wp2_with fail
      go_loopw [5] (fun v5 wr => ∃ i : Nat, i ≤ k ∧ v5 = .int .i64 (i : Int) ∧ IsN w b m (min i 4096) wr) (fun v5 _ => k - (intOf v5).toNat)
      case atStart => exact ⟨0, by omega, rfl, HN.out⟩
      case round =>
        clear HN
        obtain ⟨i, hik, rfl, hn⟩ := hrel
        have HN := Lib.hid hn
        have hi0 : (0 : Int) ≤ (i : Int) := by omega
        clear hn
        by_cases hlt : i < k
        · have hlti : (i : Int) < (k : Int) := by omega
          have HS := Lib.hid (send_any w wr b m (min i 4096) HN.out (by omega))
          unfold SendPost at HS
          by_cases h4 : i < 4096
          · have h4i : (i : Int) < 4096 := by omega
            rw [show min i 4096 = i by omega, if_pos h4, show decide (i < 4096) = true by simpa using h4] at HS
            go_wp2_with fail
            refine HS.out.mono ?_
            rintro e w3 ⟨rfl, h3⟩
            have H3 := Lib.hid h3
            clear h3
            go_wp2_with fail
            go_roundw
            case rel => exact ⟨i + 1, by omega, by go_num, by rw [show min (i + 1) 4096 = i + 1 by omega]; exact H3.out⟩
            case measure => simp [intOf]; omega
          · have h4i : ¬ (i : Int) < 4096 := by omega
            rw [show min i 4096 = 4096 by omega, if_neg (by omega), show decide (4096 < 4096) = false by simp] at HS
            go_wp2_with fail
            refine HS.out.mono ?_
            rintro e w3 ⟨rfl, h3⟩
            have H3 := Lib.hid h3
            clear h3
            go_wp2_with fail
            go_roundw
            case rel => exact ⟨i + 1, by omega, by go_num, by rw [show min (i + 1) 4096 = 4096 by omega]; exact H3.out⟩
            case measure => simp [intOf]; omega
        · obtain rfl : i = k := by omega
          go_wp2_with fail
          refine (len_any w wr b m (min i 4096) HN.out).mono ?_
          rintro e w3 ⟨rfl, rfl⟩
          go_wp2_with fail
          go_ret
          refine ⟨?_, Fresh.below HN.out.frm⟩
          have e : ((min i 4096 : Nat) : Int) = min (i : Int) 4096 := by omega
          simp [e]
end Go.Proofs.Ytlceembcehokoaa

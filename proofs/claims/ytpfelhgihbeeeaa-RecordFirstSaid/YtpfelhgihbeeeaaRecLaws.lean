/- The laws RecordPuts, RecordSizes walked. -/
import Derived.Test.YtpfelhgihbeeeaaRec2
import Derived.Test.YtpfelhgihbeeeaaConv
import Derived.Deep.QuietTactic
import Derived.BigQuiet
namespace Go.Proofs.Ytpfelhgihbeeeaa
open Go.RowKit
theorem conv_u {w : World} {B : Nat} {A : Option Addr} {bs : List UInt8} (c : Nat) (h : Rd w B A (bs.map bv)) {n : Nat} (hn : n = bs.length) : (convert 22 9 (.slice A n c)).run Try.prog w = .ok (.string (str bs)) w :=
  conv_bytes _ _ _ Try.underlying22 Try.underlying5 Try.underlying9 c h hn
set_option maxHeartbeats 400000 in
theorem awake_any (w : World) : Calls Try.prog 10 #[] w fun e w' => e = .returned (.bool true) ∧ Fresh w w' := by
  go_enter Try.func10, Try.ntmps10
  go_wp2_with fail
  refine (put_any (w.alloc (.cells #[.int .u8 7] 5)) (some ⟨w.heap.size, 0, none⟩) 1 [7] ((rd_new w [.int .u8 7] 5).more (by simp)) (by simp)).mono ?_
  rintro e w1 ⟨v, rfl, hs, hf⟩
  obtain ⟨A, cap, rfl, _, _, _⟩ := hs.shape
  have hl : ((rec [7]).map bv).length = 9 := by simp [rec_len]
  obtain ⟨b, o, rfl, _, h3⟩ := hs.rd.at_ (k := 3) (by rw [hl]; omega)
  obtain ⟨b', o', hA, _, h8⟩ := hs.rd.at_ (k := 8) (by rw [hl]; omega)
  injection hA with hA
  injection hA with e1 e2
  subst e1 e2
  have g3 : ((rec [7]).map bv)[3]'(by rw [hl]; omega) = .int .u8 1 := by rw [List.getElem_map]; rfl
  have g8 : ((rec [7]).map bv)[8]'(by rw [hl]; omega) = .int .u8 7 := by rw [List.getElem_map]; rfl
  rw [g3] at h3
  rw [g8] at h8
  have HF := Lib.hid (((Frm.refl _ w).alloc _).trans hf)
  clear hs hf hl g3 g8
  go_wp2_with fail
  go_ret
  exact ⟨rfl, HF.out⟩
set_option maxHeartbeats 1000000 in
theorem puts_walk (w : World) (A : Option Addr) (cap : Nat) (bs : List UInt8) (hb : IsBytes w A cap bs) (hr : cap ≤ 140737488351232) :
    Calls Try.prog 3 #[.slice A bs.length cap] w fun e w' => e = .returned (.bool true) ∧ Below w.heap.size w w' := by
  have HB := Lib.hid hb.rd
  have hle := hb.le
  clear hb
  go_enter Try.func3, Try.ntmps3
  go_wp2_with fail
  refine (awake_any w).mono ?_
  rintro e w1 ⟨rfl, hf1⟩
  have HF1 := Lib.hid hf1
  clear hf1
  by_cases q0 : 1000000 < bs.length
  · have d0 : decide (1000000 < bs.length) = true := by simpa using q0
    have d0' : (1000000 : Int) < (bs.length : Int) := by omega
    go_wp2_with fail
    go_ret
    exact ⟨rfl, HF1.out.below⟩
  · have d0 : decide (1000000 < bs.length) = false := by simp; omega
    have d0' : ¬ (1000000 : Int) < (bs.length : Int) := by omega
    by_cases q1 : 65536 < bs.length
    · go_wp2_with fail
      refine (put_no w1 A cap bs.length q1).mono ?_
      rintro e w2 ⟨rfl, rfl⟩
      go_wp2_with fail
      refine (refPut_no w1 A cap bs.length q1).mono ?_
      rintro e w2 ⟨rfl, rfl⟩
      have hq := conv_u (w := w1) (B := 0) (A := none) (bs := []) 0 (fun h => absurd rfl h) (n := 0) rfl
      go_wp2_with fail
      go_ret
      exact ⟨rfl, HF1.out.below⟩
    · go_wp2_with fail
      refine (put_any w1 A cap bs ((HB.out.fresh (Nat.le_refl _) HF1.out).more HF1.out.size) (by omega)).mono ?_
      rintro e w2 ⟨v2, rfl, hs2, hf2⟩
      obtain ⟨A2, c2, rfl, _, _, _⟩ := hs2.shape
      have HS2 := Lib.hid hs2
      have HF2 := Lib.hid (HF1.out.trans hf2)
      clear hs2 hf2
      go_wp2_with fail
      refine (refPut_any w2 A cap bs ((HB.out.fresh (Nat.le_refl _) HF2.out).more HF2.out.size) (by omega) hle (by unfold maxLen; omega)).mono ?_
      rintro e w3 ⟨v3, rfl, hs3, hf3⟩
      obtain ⟨A3, c3, rfl, _, _, _⟩ := hs3.shape
      have hq2 : (convert 22 9 (.slice A2 (bs.length + 8) c2)).run Try.prog w3 = .ok (.string (str (rec bs))) w3 := conv_u c2 (HS2.out.fresh hf3).rd (by rw [rec_len])
      have hq3 : (convert 22 9 (.slice A3 (bs.length + 8) c3)).run Try.prog w3 = .ok (.string (str (rec bs))) w3 := conv_u c3 hs3.rd (by rw [rec_len])
      have HF3 := Lib.hid (HF2.out.trans hf3)
      clear hs3 hf3
      go_wp2_with fail
      go_ret
      exact ⟨rfl, Fresh.below HF3.out⟩

theorem w4_get (n k : Nat) (hk : k < 4) : ((w4 n)[k]'hk).toNat = n / 256 ^ (3 - k) % 256 := by
  rcases (show k = 0 ∨ k = 1 ∨ k = 2 ∨ k = 3 by omega) with rfl | rfl | rfl | rfl <;> simp [w4]
theorem w4_step (n k : Nat) (hk : k < 4) : n / 256 ^ (4 - k) * 256 + n / 256 ^ (3 - k) % 256 = n / 256 ^ (4 - (k + 1)) := by
  rcases (show k = 0 ∨ k = 1 ∨ k = 2 ∨ k = 3 by omega) with rfl | rfl | rfl | rfl <;> simp <;> omega
set_option maxHeartbeats 1000000 in
theorem sizes_walk (w : World) (A : Option Addr) (cap : Nat) (bs : List UInt8) (hb : IsBytes w A cap bs) (hr : cap ≤ 140737488351232) :
    Calls Try.prog 4 #[.slice A bs.length cap] w fun e w' => e = .returned (.bool true) ∧ Below w.heap.size w w' := by
  have HB := Lib.hid hb.rd
  have hle := hb.le
  clear hb
  go_enter Try.func4, Try.ntmps4
  go_wp2_with fail
  refine (awake_any w).mono ?_
  rintro e w1 ⟨rfl, hf1⟩
  have HF1 := Lib.hid hf1
  clear hf1
  by_cases q1 : 65536 < bs.length
  · have q2 : (65536 : Int) < (bs.length : Int) := by omega
    go_wp2_with fail
    refine (put_no w1 A cap bs.length q1).mono ?_
    rintro e w2 ⟨rfl, rfl⟩
    go_wp2_with fail
    go_ret
    exact ⟨by simp, HF1.out.below⟩
  · go_wp2_with fail
    refine (put_any w1 A cap bs ((HB.out.fresh (Nat.le_refl _) HF1.out).more HF1.out.size) (by omega)).mono ?_
    rintro e w2 ⟨v2, rfl, hs2, hf2⟩
    obtain ⟨A2, c2, rfl, _, _, _⟩ := hs2.shape
    have HS2 := Lib.hid hs2
    have HF2 := Lib.hid (HF1.out.trans hf2)
    clear hs2 hf2
    go_wp2_with fail
    go_loopw [6, 7] (fun v6 v7 wr => ∃ k : Nat, k ≤ 4 ∧ v6 = .int .i64 ((bs.length / 256 ^ (4 - k) : Nat) : Int) ∧ v7 = .int .i64 (k : Int) ∧ w2 = wr) (fun _ v7 _ => 4 - (intOf v7).toNat)
    case atStart => exact ⟨0, by omega, by rw [Nat.div_eq_of_lt (by simp; omega)]; rfl, rfl, rfl⟩
    case round =>
      obtain ⟨k, hk, rfl, rfl, rfl⟩ := hrel
      by_cases h4 : k < 4
      · have hlen : ((rec bs).map bv).length = bs.length + 8 := by rw [List.length_map, rec_len]
        obtain ⟨b, o, rfl, _, hc⟩ := HS2.out.rd.at_ (k := k) (by rw [hlen]; omega)
        have hg : ((rec bs).map bv)[k]'(by rw [hlen]; omega) = .int .u8 ((bs.length / 256 ^ (3 - k) % 256 : Nat) : Int) := by
          rw [List.getElem_map]
          unfold bv
          rw [← w4_get bs.length k h4]
          have hx : (rec bs)[k]'(by rw [rec_len]; omega) = (w4 bs.length)[k]'h4 := by
            unfold rec
            rw [List.getElem_append_left (by simp [w4_len]; omega), List.getElem_append_left (by simpa [w4_len] using h4)]
            rfl
          rw [hx]
        rw [hg] at hc
        have HST := Lib.hid (w4_step bs.length k h4)
        have hm : bs.length / 256 ^ (4 - k) ≤ 65536 := Nat.le_trans (Nat.div_le_self _ _) (by omega)
        have hmc : bs.length / 256 ^ (3 - k) % 256 < 256 := Nat.mod_lt _ (by omega)
        generalize bs.length / 256 ^ (4 - k) = m at hm HST
        generalize bs.length / 256 ^ (3 - k) % 256 = c at hc hmc HST
        clear hg hlen
        have hk0 : (0 : Int) ≤ k := by omega
        have hk2 : (k : Int) < 4 := by omega
        have hk3 : (k : Int) < (bs.length : Int) + 8 := by omega
        have hk4 : k < bs.length + 8 := by omega
        go_wp2_with fail
        go_roundw
        case rel => exact ⟨k + 1, by omega, by rw [← HST.out]; go_num, by go_num, trivial⟩
        case measure => simp [intOf]; omega
      · obtain rfl : k = 4 := by omega
        go_wp2_with fail
        go_ret
        exact ⟨by simp, Fresh.below HF2.out⟩
end Go.Proofs.Ytpfelhgihbeeeaa

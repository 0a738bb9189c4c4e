/- The law CrcSplit, walked. -/
import Derived.Test.YtppcfhlipoiakaaCrcLaws2
namespace Go.Proofs.Ytppcfhlipoiakaa
open Go.RowKit

theorem add_len (c : BitVec 32) (A : Option Addr) (cap n : Nat) (bs : List UInt8) (w : World) (h : Rd w w.heap.size A (bs.map bv)) (hn : n = bs.length) (hl : bs.length ≤ 140737488351232) :
    Calls Try.prog 13 #[.int .u32 (c.toNat : Int), .slice A n cap] w fun e w' => e = .returned (.int .u32 ((CrcM.add c bs).toNat : Int)) ∧ Fresh w w' := by
  subst hn
  exact add_any c A cap bs w h hl
set_option maxHeartbeats 1600000 in
theorem split_walk (w : World) (A : Option Addr) (ca : Nat) (a : List UInt8) (ha : IsBytes w A ca a) (_ : ca ≤ 140737488351232) (B : Option Addr) (cb : Nat) (zs : List Int) (hz : IsInts .i64 w B cb zs) (_ : cb * 8 ≤ 140737488351232) :
    Calls Try.prog 9 #[.slice A a.length ca, .slice B zs.length cb] w fun e w' => e = .returned (.bool true) ∧ Below w.heap.size w w' := by
  have HA := Lib.hid ha.rd
  have HZ := Lib.hid hz.rd
  have hca := ha.le
  have hcz := hz.le
  have hzl : zs.length ≤ 140737488351232 := by omega
  clear ha hz
  have kc := fun (w : World) (C : Array Value) (n c : Nat) => Lib.run_convert_bytes_const (P := Try.prog) w 27 5 C n c Try.underlying27 Try.underlying5
  by_cases h : 100000 < a.length
  · go_enter Try.func9, Try.ntmps9
    go_wp2_with fail
    refine (sum_nine _).mono ?_
    rintro e w1 ⟨rfl, F1⟩
    go_wp2_with fail
    go_ret
    exact ⟨by simp, Fresh.below F1⟩
  · go_enter Try.func9, Try.ntmps9
    go_wp2_with fail
    refine (sum_nine _).mono ?_
    rintro e w1 ⟨rfl, F1⟩
    go_wp2_with fail
    go_loopw [6, 7, 8] (fun v6 v7 v8 wr => ∃ i from_ : Nat, i ≤ zs.length ∧ i ≤ 50 ∧ from_ ≤ a.length ∧ v6 = .int .u32 ((CrcM.add 0 (a.take from_)).toNat : Int) ∧ v7 = .int .i64 (from_ : Int) ∧ v8 = .int .i64 (i : Int) ∧ Fresh w wr) (fun _ _ v8 _ => 50 - (intOf v8).toNat)
    case atStart => exact ⟨0, 0, by omega, by omega, by omega, by simp [CrcM.add_nil], rfl, rfl, F1⟩
    case round =>
      obtain ⟨i, m, hi, hi5, hm, rfl, rfl, rfl, F⟩ := hrel
      have HA2 := Lib.hid ((HA.out.fresh (Nat.le_refl _) F).more F.size)
      have K := HA2.out.cut (k := m) (cap := ca) (by simpa using hca)
      rw [← List.map_drop] at K
      have hlen0 := Lib.hid (show a.length - m = (a.drop m).length by simp)
      have hadd0 : CrcM.add (CrcM.add 0 (a.take m)) (a.drop m) = CrcM.sum a := by rw [← CrcM.add_append, List.take_append_drop]; rfl
      have stepE : ∀ A' c' w2, Rd wr wr.heap.size A' ((a.drop m).map bv) → w2 = wr → Calls Try.prog 13 #[.int .u32 ((CrcM.add 0 (a.take m)).toNat : Int), .slice A' (a.length - m) c'] w2 fun e w' => e = .returned (.int .u32 ((CrcM.sum a).toNat : Int)) ∧ Fresh wr w' := by
        intro A' c' w2 hA hw
        subst hw
        rw [← hadd0]
        exact add_len _ A' c' _ _ _ hA hlen0.out (by have := hlen0.out; omega)
      have HE : Hid (_ ∧ _) := Lib.hid (And.intro K stepE)
      clear K stepE hadd0
      have HZ2 := Lib.hid ((HZ.out.fresh (Nat.le_refl _) F).more F.size)
      by_cases h5 : i < 50
      · by_cases hz : i < zs.length
        · obtain ⟨bB, oB, rfl, _, hcB⟩ := HZ2.out.at_ (k := i) (by simpa using hz)
          simp at hcB
          have hcd : ∀ n, (wr.drewN n).cell? ⟨bB, oB + i, none⟩ = some (.int .i64 zs[i]) := fun n => hcB
          by_cases hg : zs[i] < (m : Int) ∨ (a.length : Int) < zs[i]
          · by_cases hg2 : zs[i] < (m : Int)
            · go_wp2_with fail
              go_roundw
              case rel => exact ⟨i + 1, m, by omega, by omega, hm, rfl, rfl, by go_num, F⟩
              case measure => simp [intOf]; omega
            · go_wp2_with fail
              go_roundw
              case rel => exact ⟨i + 1, m, by omega, by omega, hm, rfl, rfl, by go_num, F⟩
              case measure => simp [intOf]; omega
          · have hg1 : (m : Int) ≤ zs[i] := by omega
            have hg2 : zs[i] ≤ (a.length : Int) := by omega
            obtain ⟨z, hz0⟩ := Int.eq_ofNat_of_zero_le (show 0 ≤ zs[i] by omega)
            rw [hz0] at hg1 hg2 hcd hcB
            clear hg
            have K := (HA2.out.cut (k := m) (cap := ca) (by simpa using hca)).take (z - m)
            have hlen := Lib.hid (show z - m = ((a.drop m).take (z - m)).length by simp; omega)
            have hadd0 : CrcM.add (CrcM.add 0 (a.take m)) ((a.drop m).take (z - m)) = CrcM.add 0 (a.take z) := by
              rw [← CrcM.add_append]
              congr 1
              have : a.take z = a.take (m + (z - m)) := by congr 1; omega
              rw [this, List.take_add]
            have hadd := Lib.hid hadd0
            clear hadd0
            have step : ∀ A' c' w2, Rd wr wr.heap.size A' ((a.drop m).take (z - m) |>.map bv) → w2 = wr → Calls Try.prog 13 #[.int .u32 ((CrcM.add 0 (a.take m)).toNat : Int), .slice A' (z - m) c'] w2 fun e w' => e = .returned (.int .u32 ((CrcM.add 0 (a.take z)).toNat : Int)) ∧ Fresh wr w' := by
              intro A' c' w2 hA hw
              subst hw
              rw [← hadd.out]
              exact add_len _ A' c' _ _ _ hA hlen.out (by have := hlen.out; omega)
            have HS := Lib.hid step
            clear step
            by_cases hcm : ca = m
            · rw [if_pos hcm, ← List.map_drop, ← List.map_take] at K
              subst hcm
              have HK := Lib.hid K
              clear K
              go_wp2_with fail
              refine (HS.out _ _ _ HK.out rfl).mono ?_
              rintro e w2 ⟨rfl, F2⟩
              obtain ⟨bB', oB', hab, _, hcB2⟩ := ((HZ2.out.fresh (Nat.le_refl _) F2).more F2.size).at_ (k := i) (by simpa using hz)
              obtain ⟨rfl, rfl⟩ : bB = bB' ∧ oB = oB' := by simpa using hab
              simp [hz0] at hcB2
              go_wp2_with fail
              go_roundw
              case rel => exact ⟨i + 1, z, by omega, by omega, by omega, rfl, rfl, by go_num, F.trans F2⟩
              case measure => simp [intOf]; omega
            · rw [if_neg hcm, ← List.map_drop, ← List.map_take] at K
              have HK := Lib.hid K
              clear K
              go_wp2_with fail
              refine (HS.out _ _ _ HK.out rfl).mono ?_
              rintro e w2 ⟨rfl, F2⟩
              obtain ⟨bB', oB', hab, _, hcB2⟩ := ((HZ2.out.fresh (Nat.le_refl _) F2).more F2.size).at_ (k := i) (by simpa using hz)
              obtain ⟨rfl, rfl⟩ : bB = bB' ∧ oB = oB' := by simpa using hab
              simp [hz0] at hcB2
              go_wp2_with fail
              go_roundw
              case rel => exact ⟨i + 1, z, by omega, by omega, by omega, rfl, rfl, by go_num, F.trans F2⟩
              case measure => simp [intOf]; omega
        · by_cases hcm : ca = m
          · obtain ⟨K, stepE⟩ := HE.out
            rw [if_pos hcm] at K
            clear HE
            go_wp2_with fail
            refine (stepE _ _ _ K rfl).mono ?_
            rintro e w2 ⟨rfl, F2⟩
            go_wp2_with fail
            refine (sum_any _ _ a _ ((HA2.out.fresh (Nat.le_refl _) F2).more F2.size) (by omega)).mono ?_
            rintro e w3 ⟨rfl, F3⟩
            go_wp2_with fail
            go_ret
            exact ⟨by simp, Fresh.below ((F.trans F2).trans F3)⟩
          · obtain ⟨K, stepE⟩ := HE.out
            rw [if_neg hcm] at K
            clear HE
            go_wp2_with fail
            refine (stepE _ _ _ K rfl).mono ?_
            rintro e w2 ⟨rfl, F2⟩
            go_wp2_with fail
            refine (sum_any _ _ a _ ((HA2.out.fresh (Nat.le_refl _) F2).more F2.size) (by omega)).mono ?_
            rintro e w3 ⟨rfl, F3⟩
            go_wp2_with fail
            go_ret
            exact ⟨by simp, Fresh.below ((F.trans F2).trans F3)⟩
      · by_cases hz : i < zs.length
        · by_cases hcm : ca = m
          · obtain ⟨K, stepE⟩ := HE.out
            rw [if_pos hcm] at K
            clear HE
            go_wp2_with fail
            refine (stepE _ _ _ K rfl).mono ?_
            rintro e w2 ⟨rfl, F2⟩
            go_wp2_with fail
            refine (sum_any _ _ a _ ((HA2.out.fresh (Nat.le_refl _) F2).more F2.size) (by omega)).mono ?_
            rintro e w3 ⟨rfl, F3⟩
            go_wp2_with fail
            go_ret
            exact ⟨by simp, Fresh.below ((F.trans F2).trans F3)⟩
          · obtain ⟨K, stepE⟩ := HE.out
            rw [if_neg hcm] at K
            clear HE
            go_wp2_with fail
            refine (stepE _ _ _ K rfl).mono ?_
            rintro e w2 ⟨rfl, F2⟩
            go_wp2_with fail
            refine (sum_any _ _ a _ ((HA2.out.fresh (Nat.le_refl _) F2).more F2.size) (by omega)).mono ?_
            rintro e w3 ⟨rfl, F3⟩
            go_wp2_with fail
            go_ret
            exact ⟨by simp, Fresh.below ((F.trans F2).trans F3)⟩
        · by_cases hcm : ca = m
          · obtain ⟨K, stepE⟩ := HE.out
            rw [if_pos hcm] at K
            clear HE
            go_wp2_with fail
            refine (stepE _ _ _ K rfl).mono ?_
            rintro e w2 ⟨rfl, F2⟩
            go_wp2_with fail
            refine (sum_any _ _ a _ ((HA2.out.fresh (Nat.le_refl _) F2).more F2.size) (by omega)).mono ?_
            rintro e w3 ⟨rfl, F3⟩
            go_wp2_with fail
            go_ret
            exact ⟨by simp, Fresh.below ((F.trans F2).trans F3)⟩
          · obtain ⟨K, stepE⟩ := HE.out
            rw [if_neg hcm] at K
            clear HE
            go_wp2_with fail
            refine (stepE _ _ _ K rfl).mono ?_
            rintro e w2 ⟨rfl, F2⟩
            go_wp2_with fail
            refine (sum_any _ _ a _ ((HA2.out.fresh (Nat.le_refl _) F2).more F2.size) (by omega)).mono ?_
            rintro e w3 ⟨rfl, F3⟩
            go_wp2_with fail
            go_ret
            exact ⟨by simp, Fresh.below ((F.trans F2).trans F3)⟩
end Go.Proofs.Ytppcfhlipoiakaa

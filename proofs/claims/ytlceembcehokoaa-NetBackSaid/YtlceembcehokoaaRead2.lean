/- What the pieces of the program's reader compute: size. -/
import Derived.Test.YtlceembcehokoaaRead
import Derived.Test.YtlceembcehokoaaReadMath
namespace Go.Proofs.Ytlceembcehokoaa
open Go.RowKit ReadM

def NoPost (w : World) (g : Nat) (e : Ending) (w' : World) : Prop := e = .panicked thrown ∧ Frm (fun k => k = g) w w'
def SizePost (w : World) (B g : Nat) (n : Nat) (m : Bool) (rest : List UInt8) (e : Ending) (w' : World) : Prop :=
  ∃ A' cap', e = .returned (.tuple #[.int .u64 (n : Int), .bool m]) ∧ Lft w' B g A' cap' rest ∧ Frm (fun k => k = g) w w'
/-- both -/
def SizeWay (w : World) (B g : Nat) (bs : List UInt8) (e : Ending) (w' : World) : Prop :=
  match dec bs with
  | none => NoPost w g e w'
  | some (n, m, rest) => SizePost w B g n m rest e w'
theorem andNot16 : ∀ k : Fin 32, bits .andNot .u8 ((k.val : Nat) : Int) 16 = if 16 ≤ k.val then ((k.val - 16 : Nat) : Int) else ((k.val : Nat) : Int) := by decide +kernel
theorem andNot_wid {b : UInt8} (h : b.toNat < 32) : bits .andNot .u8 (b.toNat : Int) 16 = (wid b : Int) := by
  have := andNot16 ⟨b.toNat, h⟩
  simp only at this
  rw [this, wid]
  split <;> rfl
theorem shl_or (v c : Nat) (hv : v < 72057594037927936) (hc : c < 256) : bits .or .u64 (IntKind.u64.wrap ((v : Int) * 256)) (c : Int) = ((v * 256 + c : Nat) : Int) := by
  have e : IntKind.u64.wrap ((v : Int) * 256) = ((v * 256 : Nat) : Int) := by rw [IntKind.wrap_u64]; omega
  rw [e, u64_or_nat (v * 256) c (by omega) (by omega)]
  congr 1
  rw [show v * 256 = 2 ^ 8 * v by omega, ← Nat.two_pow_add_eq_or_of_lt (by omega) v]
theorem sizeWay_none {w : World} {B g : Nat} {bs : List UInt8} {e : Ending} {w' : World} (h : dec bs = none) (hp : NoPost w g e w') : SizeWay w B g bs e w' := by
  unfold SizeWay; rw [h]; exact hp
theorem sizeWay_some {w : World} {B g : Nat} {bs : List UInt8} {n : Nat} {m : Bool} {rest : List UInt8} {e : Ending} {w' : World} (h : dec bs = some (n, m, rest)) (hp : SizePost w B g n m rest e w') : SizeWay w B g bs e w' := by
  unfold SizeWay; rw [h]; exact hp
set_option maxHeartbeats 1000000 in
theorem size_any (w : World) (B g : Nat) (A : Option Addr) (cap : Nat) (bs : List UInt8) (h : Lft w B g A cap bs) :
    Calls Try.prog 93 #[.pointer (some ⟨g, 0, none⟩)] w fun e w' => SizeWay w B g bs e w' := by
  have H := Lib.hid h
  clear h
  cases bs with
  | nil =>
    go_enter Try.func93, Try.ntmps93
    go_wp2_with fail
    refine (take_no w B g A cap [] 1 H.out (by simp)).mono ?_
    rintro e w1 ⟨rfl, rfl⟩
    go_wp2_with fail
    exact ⟨rfl, rfl, Frm.refl _ _⟩
  | cons b r =>
    go_enter Try.func93, Try.ntmps93
    go_wp2_with fail
    refine (take_yes w B g A cap (b :: r) 1 H.out (by simp)).mono ?_
    rintro e w1 ⟨A1, rfl, h1, r1, F1⟩
    obtain ⟨bb, oo, hA, _, hc⟩ := r1.at_ (k := 0) (by simp)
    subst hA
    have hc1 : w1.cell? ⟨bb, oo, none⟩ = some (.int .u8 (b.toNat : Int)) := hc
    have H1 := Lib.hid h1
    have HF1 := Lib.hid F1
    clear h1 r1 F1 hc
    have hb := b.toNat_lt
    by_cases g32 : 32 ≤ b.toNat
    · have HD := Lib.hid (show dec (b :: r) = none from dec_none (.inl (by simp [okHead]; omega)))
      have d1 : decide ((b.toNat : Int) < 32) = false := by simp; omega
      go_wp2_with fail
      refine (must_no _).mono ?_
      rintro e w2 ⟨rfl, rfl⟩
      go_wp2_with fail
      exact ⟨rfl, sizeWay_none HD.out ⟨rfl, HF1.out⟩⟩
    have hbits : bits .andNot .u8 (b.toNat : Int) 16 = (wid b : Int) := andNot_wid (by omega)
    have d1 : decide ((b.toNat : Int) < 32) = true := by simp; omega
    have hw0 : (0 : Int) ≤ (wid b : Int) := by omega
    have hw1 : (wid b : Int) ≤ 31 := by unfold wid; split <;> omega
    have HNEG : Hid (neg b = decide (16 ≤ b.toNat)) := Lib.hid rfl
    by_cases g8 : 8 < wid b
    · have HD := Lib.hid (show dec (b :: r) = none from dec_none (.inl (by simp [okHead]; omega)))
      have d2 : decide ((wid b : Int) ≤ 8) = false := by simp; omega
      go_wp2_with fail
      refine (must_no _).mono ?_
      rintro e w2 ⟨rfl, rfl⟩
      go_wp2_with fail
      exact ⟨rfl, sizeWay_none HD.out ⟨rfl, HF1.out⟩⟩
    have d2 : decide ((wid b : Int) ≤ 8) = true := by simp; omega
    by_cases gz : wid b = 0 ∧ 16 ≤ b.toNat
    · have HD := Lib.hid (show dec (b :: r) = none from dec_none (.inl (by simp [okHead, neg]; omega)))
      obtain ⟨gz1, gz2⟩ := gz
      rw [gz1] at hbits
      have d4 : decide (16 ≤ (b.toNat : Int)) = true := by simp; omega
      go_wp2_with fail
      refine (must_no _).mono ?_
      rintro e w2 ⟨rfl, rfl⟩
      go_wp2_with fail
      exact ⟨rfl, sizeWay_none HD.out ⟨rfl, HF1.out⟩⟩
    have HOK := Lib.hid (show okHead b = true from by simp [okHead, neg]; omega)
    have hlen := H.out.le
    have hmost := H.out.most
    simp only [List.length_cons] at hlen
    unfold maxLen at hmost
    rcases Nat.eq_zero_or_pos (wid b) with h0 | h0
    · have hlt : b.toNat < 16 := Nat.lt_of_not_le fun h => gz ⟨h0, h⟩
      have hb0 : b.toNat = 0 := by
        unfold wid at h0
        rw [if_neg (by omega)] at h0
        exact h0
      have HNG := Lib.hid (show neg b = false from by unfold neg; simp; omega)
      have HWZ := Lib.hid h0
      rw [hb0] at hc1
      have hbits0 : bits .andNot .u8 0 16 = 0 := by have := hbits; rw [hb0, h0] at this; exact this
      clear hbits d1 hw0 hw1 HNEG d2 gz g8 g32 h0
      go_wp2_with fail
      refine (must_yes _).mono ?_
      rintro e w2 ⟨rfl, rfl⟩
      go_wp2_with fail
      refine (take_yes _ B g _ _ _ 0 H1.out (Nat.zero_le _)).mono ?_
      rintro e w3 ⟨A2, rfl, h3, r3, F3⟩
      have H3 := Lib.hid h3
      have HF3 := Lib.hid F3
      clear h3 F3 r3
      go_wp2_with fail
      refine wp_loop_rounds 1 ?_
      rw [rounds_succ]
      go_wp2_with fail
      go_ret2
      refine sizeWay_some (n := 0) (m := false) (rest := r) ?_ ⟨A2, _, rfl, H3.out, HF1.out.trans HF3.out⟩
      rw [dec_some HOK.out (by rw [HWZ.out]; omega) (by rw [HWZ.out]; rfl), HWZ.out, HNG.out]
      rfl
    · have HNG := Lib.hid (show neg b = decide (16 ≤ (b.toNat : Int)) from by unfold neg; rw [decide_eq_decide]; omega)
      have hz : (0 : Int) < (wid b : Int) := by omega
      clear gz g8 g32 HNEG
      go_wp2_with fail
      refine (must_yes _).mono ?_
      rintro e w2 ⟨rfl, rfl⟩
      go_wp2_with fail
      by_cases hr : wid b ≤ r.length
      · have HR := Lib.hid hr
        refine (take_yes _ B g _ _ _ (wid b) H1.out (by simpa using hr)).mono ?_
        rintro e w3 ⟨A2, rfl, h3, r3, F3⟩
        have H3 := Lib.hid h3
        have R3 := Lib.hid r3
        have HF3 := Lib.hid (HF1.out.trans F3)
        clear h3 F3 r3 hc1
        have hdl : (r.take (wid b)).length = wid b := by rw [List.length_take]; omega
        have HDL := Lib.hid hdl
        have h8 : wid b ≤ 8 := wid_le HOK.out
        have hv64 : ∀ k, val ((r.take (wid b)).take k) < 256 ^ min k 8 := fun k => by
          refine Nat.lt_of_lt_of_le (val_lt _) (Nat.pow_le_pow_right (by omega) ?_)
          rw [List.length_take, List.length_take]
          omega
        have HV64 := Lib.hid hv64
        clear hdl hv64
        simp only [List.drop_succ_cons, List.drop_zero] at R3 H3
        go_wp2_with fail
        go_loopw [7, 38] (fun v7 v38 wr => ∃ k : Nat, k ≤ wid b ∧ v7 = .int .u64 (val ((r.take (wid b)).take k) : Int) ∧ v38 = .int .i64 (k : Int) ∧ (0 < k → lean (r.take (wid b)) = true) ∧ w3 = wr) (fun _ v38 _ => wid b - (intOf v38).toNat)
        case atStart => exact ⟨0, by omega, rfl, rfl, fun h => by omega, rfl⟩
        case round =>
          obtain ⟨k, hk, rfl, rfl, hlean, rfl⟩ := hrel
          have HLEAN := Lib.hid hlean
          clear hlean
          by_cases hkw : k < wid b
          · obtain ⟨b2, o2, hA2, _, hc⟩ := R3.out.at_ (k := k) (by rw [List.length_map, HDL.out]; exact hkw)
            subst hA2
            rw [List.getElem_map] at hc
            have hkd : k < (r.take (wid b)).length := by rw [HDL.out]; exact hkw
            have HTS := Lib.hid (take_snoc hkd)
            have hvk := HV64.out k
            generalize hcx : (r.take (wid b))[k] = c at hc HTS
            have HCX := Lib.hid hcx
            have hcl := c.toNat_lt
            have hc2 : w3.cell? ⟨b2, o2 + k, none⟩ = some (.int .u8 (c.toNat : Int)) := hc
            have hk0 : (0 : Int) ≤ k := by omega
            have hkw2 : (k : Int) < wid b := by omega
            clear hc hcx
            have hvm : val ((r.take (wid b)).take k) < 72057594037927936 := by
              have h2 : 256 ^ min k 8 ≤ 256 ^ 7 := Nat.pow_le_pow_right (by omega) (by omega)
              omega
            have HOR := Lib.hid (shl_or _ c.toNat hvm (by omega))
            have HNX := Lib.hid (show val ((r.take (wid b)).take (k + 1)) = val ((r.take (wid b)).take k) * 256 + c.toNat from by rw [HTS.out, val_snoc])
            clear hvk hvm
            rcases Nat.eq_zero_or_pos k with hz0 | hz0
            · subst hz0
              rw [Nat.add_zero] at hc2
              rcases Nat.eq_zero_or_pos c.toNat with hcz | hcz
              · have HD : Hid (dec (b :: r) = none) := Lib.hid (dec_none (.inr (.inr (by
                  have hd : r.take (wid b) = c :: (r.take (wid b)).drop 1 := by
                    rw [← HCX.out]
                    have := List.drop_eq_getElem_cons hkd
                    simpa using this
                  rw [hd, lean]
                  simp
                  omega))))
                rw [hcz] at hc2
                clear hcz
                go_wp2_with fail
                refine (must_no _).mono ?_
                rintro e w4 ⟨rfl, rfl⟩
                go_wp2_with fail
                exact ⟨rfl, sizeWay_none HD.out ⟨rfl, HF3.out⟩⟩
              · have HLN := Lib.hid (show lean (r.take (wid b)) = true from by
                  have hd : r.take (wid b) = c :: (r.take (wid b)).drop 1 := by
                    rw [← HCX.out]
                    have := List.drop_eq_getElem_cons hkd
                    simpa using this
                  rw [hd, lean]
                  simpa using hcz)
                have hcp2 : (0 : Int) < c.toNat := by omega
                go_wp2_with fail
                refine (must_yes _).mono ?_
                rintro e w4 ⟨rfl, rfl⟩
                go_wp2_with fail
                go_roundw
                case rel => exact ⟨0 + 1, by omega, by rw [HNX.out, ← HOR.out]; rfl, by go_num, fun _ => HLN.out, by first | rfl | trivial⟩
                case measure => simp [intOf]; omega
            · go_wp2_with fail
              refine (must_yes _).mono ?_
              rintro e w4 ⟨rfl, rfl⟩
              go_wp2_with fail
              go_roundw
              case rel => exact ⟨k + 1, by omega, by rw [HNX.out, ← HOR.out], by go_num, fun _ => HLEAN.out hz0, by first | rfl | trivial⟩
              case measure => simp [intOf]; omega
          · obtain rfl : k = wid b := by omega
            go_wp2_with fail
            go_ret2
            refine sizeWay_some (dec_some HOK.out HR.out (HLEAN.out h0)) ?_
            rw [show val (r.take (wid b)) = val ((r.take (wid b)).take (wid b)) from by rw [List.take_take, Nat.min_self], HNG.out]
            exact ⟨A2, _, rfl, H3.out, HF3.out⟩
      · have HD := Lib.hid (show dec (b :: r) = none from dec_none (.inr (.inl (by omega))))
        refine (take_no _ B g _ _ _ (wid b) H1.out (by simp; omega)).mono ?_
        rintro e w3 ⟨rfl, rfl⟩
        go_wp2_with fail
        exact ⟨rfl, sizeWay_none HD.out ⟨rfl, HF1.out⟩⟩
end Go.Proofs.Ytlceembcehokoaa

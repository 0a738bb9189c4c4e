/- The law FieldList walked. (Printed by gen4.py.) -/
import Derived.Test.YtbngokalmfodiaaReadLaws3
import Derived.Test.YtbngokalmfodiaaBss
namespace Go.Proofs.Ytbngokalmfodiaa
open Go.RowKit ReadM

/-- the texts one behind the other -/
def texts (l : List (List UInt8)) : List UInt8 := l.flatMap FieldM.text
theorem texts_snoc (l : List (List UInt8)) (b : List UInt8) : texts (l ++ [b]) = texts l ++ FieldM.text b := by simp [texts]
theorem texts_cons (b : List UInt8) (l : List (List UInt8)) : texts (b :: l) = FieldM.text b ++ texts l := by simp [texts]
theorem texts_len (l : List (List UInt8)) (h : ∀ b ∈ l, b.length ≤ 5000) : (texts l).length ≤ 5009 * l.length ∧ l.length ≤ (texts l).length := by
  induction l with
  | nil => simp [texts]
  | cons b r ih =>
    have h1 := ih (fun b hb => h b (by simp [hb]))
    have h2 := h b (by simp)
    have h3 := FieldM.text_length b
    have h4 := FieldM.wid_le (n := b.length) (by omega)
    rw [texts_cons, List.length_append, List.length_cons]
    omega
theorem IsBss.take {w : World} {B : Nat} {A : Option Addr} {cap : Nat} {l : List Bs} (h : IsBss w B A cap l) (k : Nat) (hk : k ≤ l.length) : IsBss w B A cap (l.take k) :=
  ⟨by rw [List.map_take]; exact h.rd.take k, by have := h.le; rw [List.length_take]; omega, h.most, fun b hb => h.all b (List.mem_of_mem_take hb)⟩
def bytesOf (l : List Bs) : List (List UInt8) := l.map fun b => b.2.2
theorem bytesOf_len (l : List Bs) : (bytesOf l).length = l.length := by simp [bytesOf]
theorem bytesOf_get {l : List Bs} {k : Nat} (h : k < l.length) : (bytesOf l)[k]'(by rw [bytesOf_len]; exact h) = l[k].2.2 := by simp [bytesOf]
theorem bytes_take {l : List Bs} {k : Nat} (h : k < l.length) : (bytesOf l).take (k + 1) = (bytesOf l).take k ++ [l[k].2.2] := by
  rw [List.take_succ_eq_append_getElem (by rw [bytesOf_len]; exact h), bytesOf_get h]
theorem bytes_drop {l : List Bs} {k : Nat} (h : k < l.length) : (bytesOf l).drop k = l[k].2.2 :: (bytesOf l).drop (k + 1) := by
  rw [List.drop_eq_getElem_cons (by rw [bytesOf_len]; exact h), bytesOf_get h]

set_option maxRecDepth 100000 in
set_option maxHeartbeats 2000000 in
theorem list_short (w : World) (A : Option Addr) (cap : Nat) (l2 : List Bs) (hs : l2.length ≤ 100) (hB0 : IsBss w w.heap.size A cap l2) :
    Calls Try.prog 10 #[.slice A l2.length cap] w fun e w' => e = .returned (.bool true) ∧ Below w.heap.size w w' := by
  obtain ⟨i0, hi, hz0, hz1, hz2⟩ := info_parts info_u8
  have HB := Lib.hid hB0
  have hmost := hB0.most
  have hle := hB0.le
  unfold maxLen at hmost
  clear hB0
  have hl100 : l2.length ≤ 100 := hs
  have hl100i : (l2.length : Int) ≤ 100 := by omega
  go_enter Try.func10, Try.ntmps10
  go_wp2_with fail
  go_loopw [3, 4] (fun v3 v4 wr => ∃ (k : Nat) (A3 : Option Addr) (c3 : Nat), k ≤ l2.length ∧ v4 = .int .i64 (k : Int) ∧ v3 = .slice A3 (texts ((bytesOf l2).take k)).length c3 ∧ Sl wr w.heap.size 5 1 (.slice A3 (texts ((bytesOf l2).take k)).length c3) (texts ((bytesOf l2).take k)).length ((texts ((bytesOf l2).take k)).map bv) ∧ (∀ b ∈ (bytesOf l2).take k, b.length ≤ 5000) ∧ Fresh w wr) (fun _ v4 _ => l2.length - (intOf v4).toNat)
  case atStart => exact ⟨0, none, 0, by omega, rfl, rfl, Sl.nil _ _ _ _, by simp, Frm.refl _ _⟩
  case round =>
    obtain ⟨k, A3, c3, hk, rfl, rfl, hsl, hsm, hF⟩ := hrel
    have HS := Lib.hid hsl
    have HSM := Lib.hid hsm
    have HF := Lib.hid hF
    have hsz := hF.size
    have hcap3 : (texts ((bytesOf l2).take k)).length ≤ c3 ∧ c3 ≤ 9223372036854775807 := by
      obtain ⟨_, _, hv, h1, h2, _⟩ := hsl.shape
      injection hv with _ _ h3
      subst h3
      unfold maxLen at h2
      exact ⟨h1, by omega⟩
    have hc31 := hcap3.1
    have hc32 := hcap3.2
    have htl := texts_len _ hsm
    rw [List.length_take, bytesOf_len] at htl
    have htl1 : (texts ((bytesOf l2).take k)).length ≤ 500900 := by omega
    have htl2 : k ≤ (texts ((bytesOf l2).take k)).length := by omega
    clear hsl hsm hF hcap3 htl
    by_cases hkl : k < l2.length
    · have hkl2 : k < l2.length := by omega
      obtain ⟨b, o, rfl, hbw, hc, hib⟩ := (HB.out.keep (Nat.le_refl _) HF.out).at_ hkl2
      have hk0 : (0 : Int) ≤ k := by omega
      have hkl3 : (k : Int) < l2.length := by omega
      have HTK := Lib.hid (bytes_take hkl2)
      obtain ⟨x, hx⟩ : ∃ x, x = l2[k] := ⟨_, rfl⟩
      rw [← hx] at hc hib HTK
      have HX := Lib.hid hx
      clear hx
      have hcx : wr.cell? ⟨b, o + k, none⟩ = some (.slice x.1 x.2.2.length x.2.1) := hc
      have HIB := Lib.hid hib
      have hxr := hib.reach
      have hxl := hib.le
      clear hc hib
      by_cases h5 : 5000 < x.2.2.length
      · have d1 : decide ((5000 : Int) < (x.2.2.length : Int)) = true := by simp; omega
        have h5' : (5000 : Int) < (x.2.2.length : Int) := by omega
        go_wp2_with fail
        go_ret
        exact ⟨rfl, HF.out.below⟩
      · have h5' : ¬ (5000 : Int) < (x.2.2.length : Int) := by omega
        have d1 : decide ((5000 : Int) < (x.2.2.length : Int)) = false := by simp; omega
        have h5'' : x.2.2.length ≤ 5000 := by omega
        clear h5
        go_wp2_with fail
        refine (text_any x.1 x.2.1 x.2.2 wr (HIB.out.rd.more hsz) (by omega)).mono ?_
        rintro e w5 ⟨v5, rfl, hs5, F5⟩
        obtain ⟨A5, c5, rfl, _⟩ := hs5.shape
        have HS5 := Lib.hid hs5
        have S5 := Lib.hid (HS.out.fresh F5)
        have HF5 := Lib.hid (HF.out.trans F5)
        have hsz5 := HF5.out.size
        have htx : (FieldM.text x.2.2).length ≤ 5009 := by
          have h3 := FieldM.text_length x.2.2
          have h4 := FieldM.wid_le (n := x.2.2.length) (by omega)
          omega
        have HCL := Lib.hid (show (texts ((bytesOf l2).take k)).length + (FieldM.text x.2.2).length = (texts ((bytesOf l2).take (k + 1))).length from by rw [HTK.out, texts_snoc, List.length_append])
        have HCM := Lib.hid (show (texts ((bytesOf l2).take k)).map bv ++ (FieldM.text x.2.2).map bv = (texts ((bytesOf l2).take (k + 1))).map bv from by rw [HTK.out, texts_snoc, List.map_append])
        clear hs5 F5
        go_wp2_with (first
          | (at_builtin
             refine wpList_append_sl _ rfl (.tmp 25) (.tmp 30) _ rfl w.heap.size 5 i0 _ 1 1 Try.underlying23 hi hz0 hz1 hz2 rfl (by omega) _ _ _ rfl S5.out _ _ _ _ _ rfl (by simp) HS5.out.rd (bv_one _) (by unfold maxLen; omega) (by omega) hsz5 ?_
             intro v6 w6 hs6 hf6 ha6
             rw [HCL.out, HCM.out] at hs6
             obtain ⟨A6, c6, rfl, _⟩ := hs6.shape
             have HF6 : Hid (Fresh w w6) := Lib.hid (HF5.out.trans' hf6 (fun i hi hk => by have := S5.out.lt i hk; omega))
             have S6 := Lib.hid hs6
             clear hs6 hf6 ha6 S5 HS5))
        go_roundw
        case rel => exact ⟨k + 1, A6, c6, by omega, by go_num, rfl, S6.out, (by
          rw [HTK.out]
          intro b hb
          rcases List.mem_append.1 hb with hb | hb
          · exact HSM.out b hb
          · have : b = x.2.2 := by simpa using hb
            rw [this]
            exact h5''), HF6.out⟩
        case measure => simp [intOf]; omega
    · have hkk : k = l2.length := by omega
      subst hkk
      have HALL : Hid ((bytesOf l2).take l2.length = bytesOf l2) := Lib.hid (List.take_of_length_le (by rw [bytesOf_len]; omega))
      rw [HALL.out] at htl1 htl2 hc31
      have HTL := Lib.hid HALL.out
      have hS : Sl wr w.heap.size 5 1 (.slice A3 (texts (bytesOf l2)).length c3) (texts (bytesOf l2)).length ((texts (bytesOf l2)).map bv) := by have := HS.out; rwa [HALL.out] at this
      have HSM2 : Hid (∀ b ∈ bytesOf l2, b.length ≤ 5000) := Lib.hid (by have := HSM.out; rwa [HALL.out] at this)
      have HNEW := Lib.hid (new_any wr wr.heap.size A3 c3 (texts (bytesOf l2)) hS.rd (Nat.le_refl _) (by omega) hc31 (by unfold maxLen; omega))
      have hd1 : ¬ ((texts (bytesOf l2)).length : Int) < l2.length := by omega
      have hd2 : decide (((texts (bytesOf l2)).length : Int) < l2.length) = false := by simp; omega
      have hd3 : decide ((texts (bytesOf l2)).length < l2.length) = false := by simp; omega
      clear hS HS HSM
      go_wp2_with fail
      rw [HALL.out]
      refine HNEW.out.mono ?_
      rintro e w2 ⟨g, rfl, h2, F2, hg⟩
      have HR2 := Lib.hid h2
      have HF2 := Lib.hid (HF.out.trans F2)
      clear h2 F2 HNEW
      go_wp2_with fail
      go_loopw [6] (fun v6 wr => ∃ k : Nat, k ≤ l2.length ∧ v6 = .int .i64 (k : Int) ∧ RdrAt wr g g (texts ((bytesOf l2).drop k)) false ∧ Fresh w wr) (fun v6 _ => l2.length - (intOf v6).toNat)
      case atStart => exact ⟨0, by omega, rfl, HR2.out, HF2.out⟩
      case round =>
        obtain ⟨k, hk, rfl, hR, hF⟩ := hrel
        have HR := Lib.hid hR
        have HF := Lib.hid hF
        clear hR hF HR2 HF2
        by_cases hkl : k < l2.length
        · have hkl2 : k < l2.length := by omega
          have hk0 : (0 : Int) ≤ k := by omega
          have hkl3 : (k : Int) < l2.length := by omega
          obtain ⟨x, hx⟩ : ∃ x, x = l2[k] := ⟨_, rfl⟩
          have hdr := bytes_drop hkl2
          rw [← hx] at hdr
          have hx5 : x.2.2.length ≤ 5000 := by
            refine HSM2.out _ ?_
            rw [hx, ← bytesOf_get hkl2]
            exact List.getElem_mem _
          have hRK : RdrAt wr g g (FieldM.text x.2.2 ++ texts ((bytesOf l2).drop (k + 1))) false := by
            have := HR.out
            rwa [hdr, texts_cons] at this
          have HRK := Lib.hid hRK
          have HX := Lib.hid hx
          have hbnd : (FieldM.text x.2.2 ++ texts ((bytesOf l2).drop (k + 1))).length ≤ 140737488355328 := by
            have h6 := texts_len ((bytesOf l2).drop k) (fun b hb => HSM2.out b (List.mem_of_mem_drop hb))
            rw [hdr, texts_cons] at h6
            rw [List.length_cons, List.length_drop, bytesOf_len] at h6
            omega
          clear hRK hx hdr
          go_wp2_with fail
          refine (readText_any wr g g _ false 5000 (by omega) hbnd HRK.out).mono ?_
          intro e w4 h4
          obtain ⟨A4, c4, rfl, hr4, h4', F4⟩ := textPost_some h4 (textRes_text (by omega) (by omega) _)
          have HR4 := Lib.hid h4'
          have hF4 : Fresh w w4 := HF.out.trans' F4 (fun i hi e => by omega)
          have HF4 := Lib.hid hF4
          obtain ⟨b, o, rfl, hbw, hc, hib⟩ := (HB.out.keep (Nat.le_refl _) hF4).at_ hkl2
          rw [← HX.out] at hc hib
          have hcx : ∀ n, (w4.drewN n).cell? ⟨b, o + k, none⟩ = some (.slice x.1 x.2.2.length x.2.1) := fun _ => hc
          have q1 : ∀ n, (convert 23 9 (.slice A4 x.2.2.length c4)).run Try.prog (w4.drewN n) = .ok (.string (str x.2.2)) (w4.drewN n) := fun n => conv_u c4 (hr4.drewN n) rfl
          have q2 : ∀ n, (convert 23 9 (.slice x.1 x.2.2.length x.2.1)).run Try.prog (w4.drewN n) = .ok (.string (str x.2.2)) (w4.drewN n) := fun n => conv_u x.2.1 (hib.rd.drewN n) rfl
          have HQ : Hid (∀ n, Calls Try.prog 26 #[.pointer (some ⟨g, 0, none⟩)] (w4.drewN n) fun e w' => e = .returned (.bool false) ∧ ∃ m, w' = w4.drewN m) :=
            Lib.hid fun n => (bad_any (w4.drewN n) g g _ false (HR4.out.frm ((Frm.refl (fun _ => False) w4).drewN n) (fun f => f) (fun _ _ f => f))).mono fun e w' h => ⟨h.1, n, h.2.symm⟩
          clear h4 h4' F4 hr4 hF4 hc hib HR HRK
          go_wp2_with fail
          go_quiet ((go_at_call 26; exact HQ.out _))
          go_wp2_with fail
          go_roundw
          case rel => first | exact ⟨k + 1, by omega, by go_num, HR4.out.frm ((Frm.refl (fun _ => False) w4).drewN _) (fun f => f) (fun _ _ f => f), HF4.out.trans ((Frm.refl (fun _ => False) w4).drewN _)⟩ | ((repeat apply Exists.intro); refine ⟨?_, rfl⟩; exact ⟨k + 1, by omega, by go_num, HR4.out.frm ((Frm.refl (fun _ => False) w4).drewN _) (fun f => f) (fun _ _ f => f), HF4.out.trans ((Frm.refl (fun _ => False) w4).drewN _)⟩)
          case measure => simp [intOf]; omega
        · have hRK : RdrAt wr g g [] false := by
            have := HR.out
            rwa [List.drop_of_length_le (by rw [bytesOf_len]; omega)] at this
          have HRK := Lib.hid hRK
          clear hRK
          go_wp2_with fail
          refine (whole_any wr g g [] false HRK.out).mono ?_
          rintro e w4 ⟨rfl, rfl⟩
          rw [show wholeB [] false = true from rfl]
          go_wp2_with fail
          go_ret
          exact ⟨rfl, HF.out.below⟩
set_option maxRecDepth 100000 in
set_option maxHeartbeats 2000000 in
theorem list_long (w : World) (A : Option Addr) (cap : Nat) (n : Nat) (l2 : List Bs) (hs : l2.length = 100) (hn : 100 < n) (hnc : n ≤ cap) (hB0 : IsBss w w.heap.size A cap l2) :
    Calls Try.prog 10 #[.slice A n cap] w fun e w' => e = .returned (.bool true) ∧ Below w.heap.size w w' := by
  obtain ⟨i0, hi, hz0, hz1, hz2⟩ := info_parts info_u8
  have HB := Lib.hid hB0
  have hmost := hB0.most
  have hle := hB0.le
  unfold maxLen at hmost
  clear hB0
  have hn100 : (100 : Int) < (n : Int) := by omega
  have hcap100 : (100 : Int) ≤ (cap : Int) := by omega
  go_enter Try.func10, Try.ntmps10
  go_wp2_with fail
  go_loopw [3, 4] (fun v3 v4 wr => ∃ (k : Nat) (A3 : Option Addr) (c3 : Nat), k ≤ 100 ∧ v4 = .int .i64 (k : Int) ∧ v3 = .slice A3 (texts ((bytesOf l2).take k)).length c3 ∧ Sl wr w.heap.size 5 1 (.slice A3 (texts ((bytesOf l2).take k)).length c3) (texts ((bytesOf l2).take k)).length ((texts ((bytesOf l2).take k)).map bv) ∧ (∀ b ∈ (bytesOf l2).take k, b.length ≤ 5000) ∧ Fresh w wr) (fun _ v4 _ => 100 - (intOf v4).toNat)
  case atStart => exact ⟨0, none, 0, by omega, rfl, rfl, Sl.nil _ _ _ _, by simp, Frm.refl _ _⟩
  case round =>
    obtain ⟨k, A3, c3, hk, rfl, rfl, hsl, hsm, hF⟩ := hrel
    have HS := Lib.hid hsl
    have HSM := Lib.hid hsm
    have HF := Lib.hid hF
    have hsz := hF.size
    have hcap3 : (texts ((bytesOf l2).take k)).length ≤ c3 ∧ c3 ≤ 9223372036854775807 := by
      obtain ⟨_, _, hv, h1, h2, _⟩ := hsl.shape
      injection hv with _ _ h3
      subst h3
      unfold maxLen at h2
      exact ⟨h1, by omega⟩
    have hc31 := hcap3.1
    have hc32 := hcap3.2
    have htl := texts_len _ hsm
    rw [List.length_take, bytesOf_len] at htl
    have htl1 : (texts ((bytesOf l2).take k)).length ≤ 500900 := by omega
    have htl2 : k ≤ (texts ((bytesOf l2).take k)).length := by omega
    clear hsl hsm hF hcap3 htl
    by_cases hkl : k < 100
    · have hkl2 : k < l2.length := by omega
      obtain ⟨b, o, rfl, hbw, hc, hib⟩ := (HB.out.keep (Nat.le_refl _) HF.out).at_ hkl2
      have hk0 : (0 : Int) ≤ k := by omega
      have hkl3 : (k : Int) < 100 := by omega
      have HTK := Lib.hid (bytes_take hkl2)
      obtain ⟨x, hx⟩ : ∃ x, x = l2[k] := ⟨_, rfl⟩
      rw [← hx] at hc hib HTK
      have HX := Lib.hid hx
      clear hx
      have hcx : wr.cell? ⟨b, o + k, none⟩ = some (.slice x.1 x.2.2.length x.2.1) := hc
      have HIB := Lib.hid hib
      have hxr := hib.reach
      have hxl := hib.le
      clear hc hib
      by_cases h5 : 5000 < x.2.2.length
      · have d1 : decide ((5000 : Int) < (x.2.2.length : Int)) = true := by simp; omega
        have h5' : (5000 : Int) < (x.2.2.length : Int) := by omega
        go_wp2_with fail
        go_ret
        exact ⟨rfl, HF.out.below⟩
      · have h5' : ¬ (5000 : Int) < (x.2.2.length : Int) := by omega
        have d1 : decide ((5000 : Int) < (x.2.2.length : Int)) = false := by simp; omega
        have h5'' : x.2.2.length ≤ 5000 := by omega
        clear h5
        go_wp2_with fail
        refine (text_any x.1 x.2.1 x.2.2 wr (HIB.out.rd.more hsz) (by omega)).mono ?_
        rintro e w5 ⟨v5, rfl, hs5, F5⟩
        obtain ⟨A5, c5, rfl, _⟩ := hs5.shape
        have HS5 := Lib.hid hs5
        have S5 := Lib.hid (HS.out.fresh F5)
        have HF5 := Lib.hid (HF.out.trans F5)
        have hsz5 := HF5.out.size
        have htx : (FieldM.text x.2.2).length ≤ 5009 := by
          have h3 := FieldM.text_length x.2.2
          have h4 := FieldM.wid_le (n := x.2.2.length) (by omega)
          omega
        have HCL := Lib.hid (show (texts ((bytesOf l2).take k)).length + (FieldM.text x.2.2).length = (texts ((bytesOf l2).take (k + 1))).length from by rw [HTK.out, texts_snoc, List.length_append])
        have HCM := Lib.hid (show (texts ((bytesOf l2).take k)).map bv ++ (FieldM.text x.2.2).map bv = (texts ((bytesOf l2).take (k + 1))).map bv from by rw [HTK.out, texts_snoc, List.map_append])
        clear hs5 F5
        go_wp2_with (first
          | (at_builtin
             refine wpList_append_sl _ rfl (.tmp 25) (.tmp 30) _ rfl w.heap.size 5 i0 _ 1 1 Try.underlying23 hi hz0 hz1 hz2 rfl (by omega) _ _ _ rfl S5.out _ _ _ _ _ rfl (by simp) HS5.out.rd (bv_one _) (by unfold maxLen; omega) (by omega) hsz5 ?_
             intro v6 w6 hs6 hf6 ha6
             rw [HCL.out, HCM.out] at hs6
             obtain ⟨A6, c6, rfl, _⟩ := hs6.shape
             have HF6 : Hid (Fresh w w6) := Lib.hid (HF5.out.trans' hf6 (fun i hi hk => by have := S5.out.lt i hk; omega))
             have S6 := Lib.hid hs6
             clear hs6 hf6 ha6 S5 HS5))
        go_roundw
        case rel => exact ⟨k + 1, A6, c6, by omega, by go_num, rfl, S6.out, (by
          rw [HTK.out]
          intro b hb
          rcases List.mem_append.1 hb with hb | hb
          · exact HSM.out b hb
          · have : b = x.2.2 := by simpa using hb
            rw [this]
            exact h5''), HF6.out⟩
        case measure => simp [intOf]; omega
    · have hkk : k = 100 := by omega
      subst hkk
      have HALL : Hid ((bytesOf l2).take 100 = bytesOf l2) := Lib.hid (List.take_of_length_le (by rw [bytesOf_len]; omega))
      rw [HALL.out] at htl1 htl2 hc31
      have HTL := Lib.hid HALL.out
      have hS : Sl wr w.heap.size 5 1 (.slice A3 (texts (bytesOf l2)).length c3) (texts (bytesOf l2)).length ((texts (bytesOf l2)).map bv) := by have := HS.out; rwa [HALL.out] at this
      have HSM2 : Hid (∀ b ∈ bytesOf l2, b.length ≤ 5000) := Lib.hid (by have := HSM.out; rwa [HALL.out] at this)
      have HNEW := Lib.hid (new_any wr wr.heap.size A3 c3 (texts (bytesOf l2)) hS.rd (Nat.le_refl _) (by omega) hc31 (by unfold maxLen; omega))
      have hd1 : ¬ ((texts (bytesOf l2)).length : Int) < 100 := by omega
      have hd2 : decide (((texts (bytesOf l2)).length : Int) < 100) = false := by simp; omega
      have hd3 : decide ((texts (bytesOf l2)).length < 100) = false := by simp; omega
      clear hS HS HSM
      go_wp2_with fail
      rw [HALL.out]
      refine HNEW.out.mono ?_
      rintro e w2 ⟨g, rfl, h2, F2, hg⟩
      have HR2 := Lib.hid h2
      have HF2 := Lib.hid (HF.out.trans F2)
      clear h2 F2 HNEW
      go_wp2_with fail
      go_loopw [6] (fun v6 wr => ∃ k : Nat, k ≤ 100 ∧ v6 = .int .i64 (k : Int) ∧ RdrAt wr g g (texts ((bytesOf l2).drop k)) false ∧ Fresh w wr) (fun v6 _ => 100 - (intOf v6).toNat)
      case atStart => exact ⟨0, by omega, rfl, HR2.out, HF2.out⟩
      case round =>
        obtain ⟨k, hk, rfl, hR, hF⟩ := hrel
        have HR := Lib.hid hR
        have HF := Lib.hid hF
        clear hR hF HR2 HF2
        by_cases hkl : k < 100
        · have hkl2 : k < l2.length := by omega
          have hk0 : (0 : Int) ≤ k := by omega
          have hkl3 : (k : Int) < 100 := by omega
          obtain ⟨x, hx⟩ : ∃ x, x = l2[k] := ⟨_, rfl⟩
          have hdr := bytes_drop hkl2
          rw [← hx] at hdr
          have hx5 : x.2.2.length ≤ 5000 := by
            refine HSM2.out _ ?_
            rw [hx, ← bytesOf_get hkl2]
            exact List.getElem_mem _
          have hRK : RdrAt wr g g (FieldM.text x.2.2 ++ texts ((bytesOf l2).drop (k + 1))) false := by
            have := HR.out
            rwa [hdr, texts_cons] at this
          have HRK := Lib.hid hRK
          have HX := Lib.hid hx
          have hbnd : (FieldM.text x.2.2 ++ texts ((bytesOf l2).drop (k + 1))).length ≤ 140737488355328 := by
            have h6 := texts_len ((bytesOf l2).drop k) (fun b hb => HSM2.out b (List.mem_of_mem_drop hb))
            rw [hdr, texts_cons] at h6
            rw [List.length_cons, List.length_drop, bytesOf_len] at h6
            omega
          clear hRK hx hdr
          go_wp2_with fail
          refine (readText_any wr g g _ false 5000 (by omega) hbnd HRK.out).mono ?_
          intro e w4 h4
          obtain ⟨A4, c4, rfl, hr4, h4', F4⟩ := textPost_some h4 (textRes_text (by omega) (by omega) _)
          have HR4 := Lib.hid h4'
          have hF4 : Fresh w w4 := HF.out.trans' F4 (fun i hi e => by omega)
          have HF4 := Lib.hid hF4
          obtain ⟨b, o, rfl, hbw, hc, hib⟩ := (HB.out.keep (Nat.le_refl _) hF4).at_ hkl2
          rw [← HX.out] at hc hib
          have hcx : ∀ n, (w4.drewN n).cell? ⟨b, o + k, none⟩ = some (.slice x.1 x.2.2.length x.2.1) := fun _ => hc
          have q1 : ∀ n, (convert 23 9 (.slice A4 x.2.2.length c4)).run Try.prog (w4.drewN n) = .ok (.string (str x.2.2)) (w4.drewN n) := fun n => conv_u c4 (hr4.drewN n) rfl
          have q2 : ∀ n, (convert 23 9 (.slice x.1 x.2.2.length x.2.1)).run Try.prog (w4.drewN n) = .ok (.string (str x.2.2)) (w4.drewN n) := fun n => conv_u x.2.1 (hib.rd.drewN n) rfl
          have HQ : Hid (∀ n, Calls Try.prog 26 #[.pointer (some ⟨g, 0, none⟩)] (w4.drewN n) fun e w' => e = .returned (.bool false) ∧ ∃ m, w' = w4.drewN m) :=
            Lib.hid fun n => (bad_any (w4.drewN n) g g _ false (HR4.out.frm ((Frm.refl (fun _ => False) w4).drewN n) (fun f => f) (fun _ _ f => f))).mono fun e w' h => ⟨h.1, n, h.2.symm⟩
          clear h4 h4' F4 hr4 hF4 hc hib HR HRK
          go_wp2_with fail
          go_quiet ((go_at_call 26; exact HQ.out _))
          go_wp2_with fail
          go_roundw
          case rel => first | exact ⟨k + 1, by omega, by go_num, HR4.out.frm ((Frm.refl (fun _ => False) w4).drewN _) (fun f => f) (fun _ _ f => f), HF4.out.trans ((Frm.refl (fun _ => False) w4).drewN _)⟩ | ((repeat apply Exists.intro); refine ⟨?_, rfl⟩; exact ⟨k + 1, by omega, by go_num, HR4.out.frm ((Frm.refl (fun _ => False) w4).drewN _) (fun f => f) (fun _ _ f => f), HF4.out.trans ((Frm.refl (fun _ => False) w4).drewN _)⟩)
          case measure => simp [intOf]; omega
        · have hRK : RdrAt wr g g [] false := by
            have := HR.out
            rwa [List.drop_of_length_le (by rw [bytesOf_len]; omega)] at this
          have HRK := Lib.hid hRK
          clear hRK
          go_wp2_with fail
          refine (whole_any wr g g [] false HRK.out).mono ?_
          rintro e w4 ⟨rfl, rfl⟩
          rw [show wholeB [] false = true from rfl]
          go_wp2_with fail
          go_ret
          exact ⟨rfl, HF.out.below⟩
theorem list_walk (w : World) (s : Option Addr × Nat × List (Option Addr × Nat × List Int)) (hs : IsL w 24 (fun s => [sv s]) (IsL w 1 u8f u8q) s) :
    Calls Try.prog 10 #[sv s] w fun e w' => e = .returned (.bool true) ∧ Below w.heap.size w w' := by
  obtain ⟨l, h1, h2⟩ := to_bss hs
  rw [h1]
  by_cases h : l.length ≤ 100
  · exact list_short w _ _ l h h2
  · exact list_long w _ _ l.length (l.take 100) (by rw [List.length_take]; omega) (by omega) h2.le (h2.take 100 (by omega))
end Go.Proofs.Ytbngokalmfodiaa

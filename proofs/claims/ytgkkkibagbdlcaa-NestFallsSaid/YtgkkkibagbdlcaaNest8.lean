/- Sell and Back, of the package and of the reference. (Printed by gen8.py.) -/
import Derived.Test.YtgkkkibagbdlcaaNest7
namespace Go.Proofs.Ytgkkkibagbdlcaa
open Go.RowKit NestM

set_option maxHeartbeats 1000000 in
theorem sell_any (w : World) (A : Option Addr) (ca : Nat) (l : List Int) (B : Option Addr) (cb : Nat) (s : List Int) (c m : Int) (hl : Rd w w.heap.size A (l.map iv)) (hs : Rd w w.heap.size B (s.map iv)) (hc : s.length ≤ cb) (hm : cb ≤ maxLen) :
    Calls Try.prog 15 #[.slice A l.length ca, .slice B s.length cb, .int .i64 c, .int .i64 m] w fun e w' => SoldPost s (SellE l s c m) c m w e w' := by
  have HL := Lib.hid hl
  have HS := Lib.hid hs
  obtain ⟨i0, hi, hz0, hz1, hz2⟩ := info_parts info_int
  clear hl hs
  go_enter Try.func15, Try.ntmps15
  go_wp2_with fail
  refine (left_any w A ca l B cb s c HL.out HS.out).mono ?_
  rintro e w1 ⟨x, y, rfl, F1, hx⟩
  have HS1 := Lib.hid ((HS.out.fresh (Nat.le_refl _) F1).more F1.size)
  have FF := Lib.hid F1
  clear F1
  rcases leftIs_cases hx with ⟨rfl, ha, hle⟩ | ⟨rfl, hno⟩
  · have HA := Lib.hid ha
    have HE := Lib.hid hle
    clear ha hle hx
    obtain ⟨k, rfl⟩ := Int.eq_ofNat_of_zero_le HA.out.2.1
    have hkl : k < l.length := by have := HA.out.2.2; omega
    have hsl : s.length = l.length := HA.out.1.1.1.2.2
    have hks : k < s.length := by omega
    have hs8 : s.length ≤ 8 := by have := HA.out.1.1.1.2.1; omega
    have hx1 : x ≤ 10000 := by rw [HE.out]; exact least_le hkl
    have HSL := Lib.hid hsl
    clear hsl
    have HV := Lib.hid (HA.out.1.1.2 k (Nat.zero_le _) hkl).2.1
    have hv0 : 0 ≤ at_ s k := (wi_true HV.out).1
    have hv1 : at_ s k ≤ 10000 := (wi_true HV.out).2
    have hk0 : (0 : Int) ≤ k := by omega
    have hk1 : (k : Int) < s.length := by omega
    have HTN := Lib.hid (show ((k : Int)).toNat = k from Int.toNat_natCast k)
    by_cases g1 : m < 1
    · have d1 : decide (m < 1) = true := by simpa using g1
      go_wp2_with fail
      go_ret2
      exact ⟨_, 1, rfl, .inr (.inr ⟨fun h => by have := h.2.1; omega, rfl⟩), FF.out, .inr ⟨by decide, rfl⟩⟩
    have d1 : decide (m < 1) = false := by simpa using g1
    by_cases g2 : 10000 < m
    · have d2 : decide (10000 < m) = true := by simpa using g2
      go_wp2_with fail
      go_ret2
      exact ⟨_, 1, rfl, .inr (.inr ⟨fun h => by have := h.2.2; omega, rfl⟩), FF.out, .inr ⟨by decide, rfl⟩⟩
    have d2 : decide (10000 < m) = false := by simpa using g2
    by_cases g3 : x < m
    · have d3 : decide (x < m) = true := by simpa using g3
      have G3 := Lib.hid g3
      go_wp2_with fail
      go_ret2
      exact ⟨_, 3, rfl, .inr (.inl ⟨HA.out, by omega, by omega, by rw [← HE.out]; exact G3.out, rfl⟩), FF.out, .inr ⟨by decide, rfl⟩⟩
    · have d3 : decide (x < m) = false := by simpa using g3
      have G3 := Lib.hid (show m ≤ x by omega)
      go_wp2_with fail
      refine (more_any _ B cb s k m HS1.out hs8 hks hc hm HV.out (by omega) (by omega)).mono ?_
      rintro e w2 ⟨v, rfl, hsl, F2⟩
      obtain ⟨g, o, cap, rfl, _⟩ := hsl.head (by omega)
      have HSL2 := Lib.hid hsl
      clear hsl
      go_wp2_with fail
      go_ret2
      exact ⟨_, 0, rfl, .inl ⟨HA.out, by omega, by omega, by rw [← HE.out]; exact G3.out, rfl⟩, FF.out.trans F2, .inl ⟨rfl, by rw [HTN.out]; exact HSL2.out.less FF.out.size⟩⟩
  · have HNO := Lib.hid hno
    clear hno hx
    go_wp2_with fail
    go_ret2
    exact ⟨_, 1, rfl, .inr (.inr ⟨fun h => HNO.out h.1, rfl⟩), FF.out, .inr ⟨by decide, rfl⟩⟩
set_option maxHeartbeats 1000000 in
theorem refSell_any (w : World) (A : Option Addr) (ca : Nat) (l : List Int) (B : Option Addr) (cb : Nat) (s : List Int) (c m : Int) (hl : Rd w w.heap.size A (l.map iv)) (hs : Rd w w.heap.size B (s.map iv)) (hc : s.length ≤ cb) (hm : cb ≤ maxLen) :
    Calls Try.prog 16 #[.slice A l.length ca, .slice B s.length cb, .int .i64 c, .int .i64 m] w fun e w' => SoldPost s (SellE l s c m) c m w e w' := by
  have HL := Lib.hid hl
  have HS := Lib.hid hs
  obtain ⟨i0, hi, hz0, hz1, hz2⟩ := info_parts info_int
  clear hl hs
  go_enter Try.func16, Try.ntmps16
  go_wp2_with fail
  refine (refLeft_any w A ca l B cb s c HL.out HS.out).mono ?_
  rintro e w1 ⟨x, y, rfl, F1, hx⟩
  have HS1 := Lib.hid ((HS.out.fresh (Nat.le_refl _) F1).more F1.size)
  have FF := Lib.hid F1
  clear F1
  rcases leftIs_cases hx with ⟨rfl, ha, hle⟩ | ⟨rfl, hno⟩
  · have HA := Lib.hid ha
    have HE := Lib.hid hle
    clear ha hle hx
    obtain ⟨k, rfl⟩ := Int.eq_ofNat_of_zero_le HA.out.2.1
    have hkl : k < l.length := by have := HA.out.2.2; omega
    have hsl : s.length = l.length := HA.out.1.1.1.2.2
    have hks : k < s.length := by omega
    have hs8 : s.length ≤ 8 := by have := HA.out.1.1.1.2.1; omega
    have hx1 : x ≤ 10000 := by rw [HE.out]; exact least_le hkl
    have HSL := Lib.hid hsl
    clear hsl
    have HV := Lib.hid (HA.out.1.1.2 k (Nat.zero_le _) hkl).2.1
    have hv0 : 0 ≤ at_ s k := (wi_true HV.out).1
    have hv1 : at_ s k ≤ 10000 := (wi_true HV.out).2
    have hk0 : (0 : Int) ≤ k := by omega
    have hk1 : (k : Int) < s.length := by omega
    have HTN := Lib.hid (show ((k : Int)).toNat = k from Int.toNat_natCast k)
    by_cases g1 : m < 1
    · have d1 : decide (m < 1) = true := by simpa using g1
      go_wp2_with fail
      go_ret2
      exact ⟨_, 1, rfl, .inr (.inr ⟨fun h => by have := h.2.1; omega, rfl⟩), FF.out, .inr ⟨by decide, rfl⟩⟩
    have d1 : decide (m < 1) = false := by simpa using g1
    by_cases g2 : 10000 < m
    · have d2 : decide (10000 < m) = true := by simpa using g2
      go_wp2_with fail
      go_ret2
      exact ⟨_, 1, rfl, .inr (.inr ⟨fun h => by have := h.2.2; omega, rfl⟩), FF.out, .inr ⟨by decide, rfl⟩⟩
    have d2 : decide (10000 < m) = false := by simpa using g2
    by_cases g3 : x < m
    · have d3 : decide (x < m) = true := by simpa using g3
      have G3 := Lib.hid g3
      go_wp2_with fail
      go_ret2
      exact ⟨_, 3, rfl, .inr (.inl ⟨HA.out, by omega, by omega, by rw [← HE.out]; exact G3.out, rfl⟩), FF.out, .inr ⟨by decide, rfl⟩⟩
    · have d3 : decide (x < m) = false := by simpa using g3
      have G3 := Lib.hid (show m ≤ x by omega)
      have S0 := Lib.hid (show Sl (w1.alloc (.cells #[] 3)) w1.heap.size 3 1 (.slice (some ⟨w1.heap.size, 0, none⟩) 0 0) 0 [] from sl_new w1 _ [] _ (Nat.le_refl _) (by simp [maxLen]))
      go_wp2_with (first
        | (at_builtin
           refine wpList_append_sl _ rfl (.tmp 33) (.tmp 34) _ rfl w1.heap.size 3 i0 _ 1 8 Try.underlying22 hi hz0 hz1 hz2 rfl (by omega) _ _ _ rfl S0.out _ _ _ _ _ rfl (by simp) (HS1.out.alloc (Nat.le_refl _) _) (iv_one _) (by unfold maxLen; omega) (by omega) (by simp) ?_
           intro v1 w2 hs1 hf1 ha1
           have F2 : Fresh w1 w2 := ((Frm.refl _ w1).alloc _).trans' hf1 (fun i hi hk => by have := own_at hk; omega)
           rw [Nat.zero_add, List.nil_append] at hs1
           obtain ⟨g, o, cap, rfl, hg, hgl, hcap, hmax⟩ := hs1.head (by omega)
           have hc1 : w2.cell? ⟨g, o + k, none⟩ = some (.int .i64 (at_ s k)) := by
             rw [hs1.cell (j := k) (by simpa using hks), List.getElem_map, at_get hks]; rfl
           have hf3 := hs1.frozen (o + k)
           have HS2 := Lib.hid hs1
           have HF2 := Lib.hid F2
           unfold maxLen at hmax
           clear hs1 hf1 ha1 F2 S0))
      go_ret2
      refine ⟨_, 0, rfl, .inl ⟨HA.out, by omega, by omega, by rw [← HE.out]; exact G3.out, rfl⟩, FF.out.trans (HF2.out.trans' ((Frm.refl (fun i => i = g) w2).setCell (p := ⟨g, o + k, none⟩) (fun _ => rfl) _) (fun i hi h => by omega)), .inl ⟨rfl, ?_⟩⟩
      rw [HTN.out, plus_map]
      exact (HS2.out.store (by simpa using hks) _).less FF.out.size
  · have HNO := Lib.hid hno
    clear hno hx
    go_wp2_with fail
    go_ret2
    exact ⟨_, 1, rfl, .inr (.inr ⟨fun h => HNO.out h.1, rfl⟩), FF.out, .inr ⟨by decide, rfl⟩⟩
set_option maxHeartbeats 1000000 in
theorem back_any (w : World) (A : Option Addr) (ca : Nat) (l : List Int) (B : Option Addr) (cb : Nat) (s : List Int) (c m : Int) (hl : Rd w w.heap.size A (l.map iv)) (hs : Rd w w.heap.size B (s.map iv)) (hc : s.length ≤ cb) (hm : cb ≤ maxLen) :
    Calls Try.prog 18 #[.slice A l.length ca, .slice B s.length cb, .int .i64 c, .int .i64 m] w fun e w' => SoldPost s (BackE l s c m) c (-m) w e w' := by
  have HL := Lib.hid hl
  have HS := Lib.hid hs
  obtain ⟨i0, hi, hz0, hz1, hz2⟩ := info_parts info_int
  clear hl hs
  go_enter Try.func18, Try.ntmps18
  go_wp2_with fail
  refine (left_any w A ca l B cb s c HL.out HS.out).mono ?_
  rintro e w1 ⟨x, y, rfl, F1, hx⟩
  have HS1 := Lib.hid ((HS.out.fresh (Nat.le_refl _) F1).more F1.size)
  have FF := Lib.hid F1
  clear F1
  rcases leftIs_cases hx with ⟨rfl, ha, hle⟩ | ⟨rfl, hno⟩
  · have HA := Lib.hid ha
    have HE := Lib.hid hle
    clear ha hle hx
    obtain ⟨k, rfl⟩ := Int.eq_ofNat_of_zero_le HA.out.2.1
    have hkl : k < l.length := by have := HA.out.2.2; omega
    have hsl : s.length = l.length := HA.out.1.1.1.2.2
    have hks : k < s.length := by omega
    have hs8 : s.length ≤ 8 := by have := HA.out.1.1.1.2.1; omega
    have hx1 : x ≤ 10000 := by rw [HE.out]; exact least_le hkl
    have HSL := Lib.hid hsl
    clear hsl
    have HV := Lib.hid (HA.out.1.1.2 k (Nat.zero_le _) hkl).2.1
    have hv0 : 0 ≤ at_ s k := (wi_true HV.out).1
    have hv1 : at_ s k ≤ 10000 := (wi_true HV.out).2
    have hk0 : (0 : Int) ≤ k := by omega
    have hk1 : (k : Int) < s.length := by omega
    have HTN := Lib.hid (show ((k : Int)).toNat = k from Int.toNat_natCast k)
    obtain ⟨bB, oB, rfl, hcB⟩ := cell_at HS1.out hks
    by_cases g1 : m < 1
    · have d1 : decide (m < 1) = true := by simpa using g1
      go_wp2_with fail
      go_ret2
      exact ⟨_, 1, rfl, .inr ⟨fun h => by have := h.2.1; omega, rfl⟩, FF.out, .inr ⟨by decide, rfl⟩⟩
    have d1 : decide (m < 1) = false := by simpa using g1
    by_cases g3 : at_ s k < m
    · have d3 : decide (at_ s k < m) = true := by simpa using g3
      go_wp2_with fail
      go_ret2
      exact ⟨_, 1, rfl, .inr ⟨fun h => by have := h.2.2; rw [HTN.out] at this; omega, rfl⟩, FF.out, .inr ⟨by decide, rfl⟩⟩
    · have d3 : decide (at_ s k < m) = false := by simpa using g3
      go_wp2_with fail
      refine (more_any _ (some ⟨bB, oB, none⟩) cb s k (-m) HS1.out hs8 hks hc hm HV.out (by omega) (by omega)).mono ?_
      rintro e w2 ⟨v, rfl, hsl, F2⟩
      obtain ⟨g, o, cap, rfl, _⟩ := hsl.head (by omega)
      have HSL2 := Lib.hid hsl
      clear hsl
      go_wp2_with fail
      go_ret2
      exact ⟨_, 0, rfl, .inl ⟨HA.out, by omega, by rw [HTN.out]; omega, rfl⟩, FF.out.trans F2, .inl ⟨rfl, by rw [HTN.out]; exact HSL2.out.less FF.out.size⟩⟩
  · have HNO := Lib.hid hno
    clear hno hx
    go_wp2_with fail
    go_ret2
    exact ⟨_, 1, rfl, .inr ⟨fun h => HNO.out h.1, rfl⟩, FF.out, .inr ⟨by decide, rfl⟩⟩
set_option maxHeartbeats 1000000 in
theorem refBack_any (w : World) (A : Option Addr) (ca : Nat) (l : List Int) (B : Option Addr) (cb : Nat) (s : List Int) (c m : Int) (hl : Rd w w.heap.size A (l.map iv)) (hs : Rd w w.heap.size B (s.map iv)) (hc : s.length ≤ cb) (hm : cb ≤ maxLen) :
    Calls Try.prog 19 #[.slice A l.length ca, .slice B s.length cb, .int .i64 c, .int .i64 m] w fun e w' => SoldPost s (BackE l s c m) c (-m) w e w' := by
  have HL := Lib.hid hl
  have HS := Lib.hid hs
  obtain ⟨i0, hi, hz0, hz1, hz2⟩ := info_parts info_int
  clear hl hs
  go_enter Try.func19, Try.ntmps19
  go_wp2_with fail
  refine (refLeft_any w A ca l B cb s c HL.out HS.out).mono ?_
  rintro e w1 ⟨x, y, rfl, F1, hx⟩
  have HS1 := Lib.hid ((HS.out.fresh (Nat.le_refl _) F1).more F1.size)
  have FF := Lib.hid F1
  clear F1
  rcases leftIs_cases hx with ⟨rfl, ha, hle⟩ | ⟨rfl, hno⟩
  · have HA := Lib.hid ha
    have HE := Lib.hid hle
    clear ha hle hx
    obtain ⟨k, rfl⟩ := Int.eq_ofNat_of_zero_le HA.out.2.1
    have hkl : k < l.length := by have := HA.out.2.2; omega
    have hsl : s.length = l.length := HA.out.1.1.1.2.2
    have hks : k < s.length := by omega
    have hs8 : s.length ≤ 8 := by have := HA.out.1.1.1.2.1; omega
    have hx1 : x ≤ 10000 := by rw [HE.out]; exact least_le hkl
    have HSL := Lib.hid hsl
    clear hsl
    have HV := Lib.hid (HA.out.1.1.2 k (Nat.zero_le _) hkl).2.1
    have hv0 : 0 ≤ at_ s k := (wi_true HV.out).1
    have hv1 : at_ s k ≤ 10000 := (wi_true HV.out).2
    have hk0 : (0 : Int) ≤ k := by omega
    have hk1 : (k : Int) < s.length := by omega
    have HTN := Lib.hid (show ((k : Int)).toNat = k from Int.toNat_natCast k)
    obtain ⟨bB, oB, rfl, hcB⟩ := cell_at HS1.out hks
    by_cases g1 : m < 1
    · have d1 : decide (m < 1) = true := by simpa using g1
      go_wp2_with fail
      go_ret2
      exact ⟨_, 1, rfl, .inr ⟨fun h => by have := h.2.1; omega, rfl⟩, FF.out, .inr ⟨by decide, rfl⟩⟩
    have d1 : decide (m < 1) = false := by simpa using g1
    by_cases g2 : 10000 < m
    · have d2 : decide (10000 < m) = true := by simpa using g2
      go_wp2_with fail
      go_ret2
      exact ⟨_, 1, rfl, .inr ⟨fun h => by have := h.2.2; rw [HTN.out] at this; omega, rfl⟩, FF.out, .inr ⟨by decide, rfl⟩⟩
    have d2 : decide (10000 < m) = false := by simpa using g2
    by_cases g3 : at_ s k < m
    · have d3 : decide (at_ s k < m) = true := by simpa using g3
      go_wp2_with fail
      go_ret2
      exact ⟨_, 1, rfl, .inr ⟨fun h => by have := h.2.2; rw [HTN.out] at this; omega, rfl⟩, FF.out, .inr ⟨by decide, rfl⟩⟩
    · have d3 : decide (at_ s k < m) = false := by simpa using g3
      have S0 := Lib.hid (show Sl (w1.alloc (.cells #[] 3)) w1.heap.size 3 1 (.slice (some ⟨w1.heap.size, 0, none⟩) 0 0) 0 [] from sl_new w1 _ [] _ (Nat.le_refl _) (by simp [maxLen]))
      go_wp2_with (first
        | (at_builtin
           refine wpList_append_sl _ rfl (.tmp 38) (.tmp 39) _ rfl w1.heap.size 3 i0 _ 1 8 Try.underlying22 hi hz0 hz1 hz2 rfl (by omega) _ _ _ rfl S0.out _ _ _ _ _ rfl (by simp) (HS1.out.alloc (Nat.le_refl _) _) (iv_one _) (by unfold maxLen; omega) (by omega) (by simp) ?_
           intro v1 w2 hs1 hf1 ha1
           have F2 : Fresh w1 w2 := ((Frm.refl _ w1).alloc _).trans' hf1 (fun i hi hk => by have := own_at hk; omega)
           rw [Nat.zero_add, List.nil_append] at hs1
           obtain ⟨g, o, cap, rfl, hg, hgl, hcap, hmax⟩ := hs1.head (by omega)
           have hc1 : w2.cell? ⟨g, o + k, none⟩ = some (.int .i64 (at_ s k)) := by
             rw [hs1.cell (j := k) (by simpa using hks), List.getElem_map, at_get hks]; rfl
           have hf3 := hs1.frozen (o + k)
           have HS2 := Lib.hid hs1
           have HF2 := Lib.hid F2
           unfold maxLen at hmax
           clear hs1 hf1 ha1 F2 S0))
      go_ret2
      refine ⟨_, 0, rfl, .inl ⟨HA.out, by omega, by rw [HTN.out]; omega, rfl⟩, FF.out.trans (HF2.out.trans' ((Frm.refl (fun i => i = g) w2).setCell (p := ⟨g, o + k, none⟩) (fun _ => rfl) _) (fun i hi h => by omega)), .inl ⟨rfl, ?_⟩⟩
      rw [HTN.out, plus_map]
      exact (HS2.out.store (by simpa using hks) _).less FF.out.size
  · have HNO := Lib.hid hno
    clear hno hx
    go_wp2_with fail
    go_ret2
    exact ⟨_, 1, rfl, .inr ⟨fun h => HNO.out h.1, rfl⟩, FF.out, .inr ⟨by decide, rfl⟩⟩
end Go.Proofs.Ytgkkkibagbdlcaa

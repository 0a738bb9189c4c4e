/- The laws CrcParts and CrcOwn, walked. -/
import Derived.Test.YtppcfhlipoiakaaCrcLaws
namespace Go.Proofs.Ytppcfhlipoiakaa
open Go.RowKit

theorem info_u8 : (Try.prog.info? 5).map (fun i => (i.zero, i.size, i.bytes)) = some (some (.int .u8 0), 1, 1) := by kernel_rfl
theorem bv_eq {x : Int} {b : UInt8} (h : x = (b.toNat : Int)) : Value.int .u8 x = bv b := by rw [h]; rfl
/-- the sum of a slice of the call's own -/
theorem sum_sl {w : World} {B e : Nat} {v : Value} {n : Nat} {bs : List UInt8} {xs : List Value} (h : Sl w B e 1 v n xs) (hx : xs = bs.map bv) (hl : bs.length ≤ 140737488351232) :
    Calls Try.prog 15 #[v] w fun e w' => e = .returned (.int .u32 ((CrcM.sum bs).toNat : Int)) ∧ Fresh w w' := by
  subst hx
  obtain ⟨A, cap, rfl, _, _, _⟩ := h.shape
  have hn : n = bs.length := by have := h.1; simp at this; omega
  subst hn
  exact sum_any A cap bs w h.rd hl
theorem kc_bytes (w : World) (C : Array Value) (n c : Nat) : (convert 27 27 (.slice (some ⟨w.heap.size, 0, none⟩) n c)).run Try.prog (w.alloc (.cells C 5)) = .ok (.slice (some ⟨w.heap.size, 0, none⟩) n c) (w.alloc (.cells C 5 (C.size, C.size + 1))) :=
  Lib.run_convert_bytes_const (P := Try.prog) w 27 5 C n c Try.underlying27 Try.underlying5

set_option maxHeartbeats 800000 in
theorem parts_walk (w : World) (A : Option Addr) (ca : Nat) (a : List UInt8) (ha : IsBytes w A ca a) (_ : ca ≤ 140737488351232) (B : Option Addr) (cb : Nat) (b : List UInt8) (hb : IsBytes w B cb b) (_ : cb ≤ 140737488351232) :
    Calls Try.prog 10 #[.slice A a.length ca, .slice B b.length cb] w fun e w' => e = .returned (.bool true) ∧ Below w.heap.size w w' := by
  obtain ⟨i0, hi, hz0, hz1, hz2⟩ := info_parts info_u8
  have HA := Lib.hid ha.rd
  have HB := Lib.hid hb.rd
  clear ha hb
  by_cases h : 1000000 < a.length
  · go_enter Try.func10, Try.ntmps10
    go_wp2_with fail
    go_ret
    exact ⟨rfl, Below.refl _ _⟩
  by_cases h2 : 1000000 < b.length
  · go_enter Try.func10, Try.ntmps10
    go_wp2_with fail
    go_ret
    exact ⟨rfl, Below.refl _ _⟩
  have J1 := CrcM.sum_append a b
  have J2 : CrcM.add (CrcM.sum a) b = CrcM.join (CrcM.sum a) (CrcM.sum b) b.length := by rw [← J1]; unfold CrcM.sum; rw [CrcM.add_append]
  have H1 := Lib.hid J1
  have H2 := Lib.hid J2
  clear J1 J2
  have kc := kc_bytes
  go_enter Try.func10, Try.ntmps10
  have s0 : Sl (w.alloc (.cells #[] 5)) w.heap.size 5 1 (.slice (some ⟨w.heap.size, 0, none⟩) 0 0) 0 [] := sl_new w _ [] _ (Nat.le_refl _) (by simp [maxLen])
  have f0 : Fresh w (w.alloc (.cells #[] 5)) := (Frm.refl _ w).alloc _
  have S0 := Lib.hid s0
  clear s0
  go_wp2_with (first
    | (at_builtin; refine wpList_append_sl _ rfl (.tmp 19) (.tmp 20) _ rfl w.heap.size 5 i0 _ 1 1 Try.underlying27 hi hz0 hz1 hz2 rfl (by omega) _ _ _ rfl S0.out _ _ _ _ _ rfl (by simp) (HA.out.alloc (Nat.le_refl _) _) (bv_one _) (by unfold maxLen; omega) (by omega) (by simp) ?_; intro v1 w1 hs1 hf1 ha1; have F1 : Fresh w w1 := f0.trans' hf1 (fun i hi hk => by have := own_at hk; omega); have HB1 := Lib.hid (HB.out.fresh (Nat.le_refl _) F1); have hsz1 := F1.size; rw [Nat.zero_add, List.nil_append] at hs1; have HS1 := Lib.hid hs1; clear hs1 hf1)
    | (at_builtin; refine wpList_append_sl _ rfl (.tmp 21) (.tmp 22) _ rfl w.heap.size 5 i0 _ 1 1 Try.underlying27 hi hz0 hz1 hz2 rfl (by omega) _ _ _ rfl HS1.out _ _ _ _ _ rfl (by simp) HB1.out (bv_one _) (by unfold maxLen; omega) (by omega) hsz1 ?_; intro v2 w2 hs2 hf2 ha2; have HS2 := Lib.hid hs2; have HF2 := Lib.hid hf2; clear hs2 hf2))
  have F2 : Fresh w w2 := F1.trans' HF2.out (fun i hi hk => by have := HS1.out.lt i hk; omega)
  have K := sum_sl (bs := a ++ b) HS2.out (by simp) (by simp; omega)
  rw [H1.out] at K
  have HK := Lib.hid K
  clear K ha1 ha2
  go_wp2_with fail
  refine HK.out.mono ?_
  rintro e w3 ⟨rfl, F3⟩
  have HA3 := Lib.hid ((HA.out.fresh (Nat.le_refl _) (F2.trans F3)).more (F2.trans F3).size)
  have HB3 := Lib.hid ((HB.out.fresh (Nat.le_refl _) (F2.trans F3)).more (F2.trans F3).size)
  go_wp2_with fail
  refine (sum_any _ _ a _ HA3.out (by omega)).mono ?_
  rintro e w4 ⟨rfl, F4⟩
  have HB4 := Lib.hid ((HB3.out.fresh (Nat.le_refl _) F4).more F4.size)
  go_wp2_with fail
  refine (sum_any _ _ b _ HB4.out (by omega)).mono ?_
  rintro e w5 ⟨rfl, F5⟩
  have HB5 := Lib.hid ((HB4.out.fresh (Nat.le_refl _) F5).more F5.size)
  go_wp2_with fail
  refine (join_ok _ _ _ (by omega) _).mono ?_
  rintro e w6 ⟨rfl, F6⟩
  have HB6 := Lib.hid ((HB5.out.fresh (Nat.le_refl _) F6).more F6.size)
  go_wp2_with fail
  refine (sum_nine _).mono ?_
  rintro e w7 ⟨rfl, F7⟩
  have K7 := add_any (CrcM.sum a) B cb b w7 ((HB6.out.fresh (Nat.le_refl _) F7).more F7.size) (by omega)
  rw [H2.out] at K7
  have HK7 := Lib.hid K7
  clear K7
  go_wp2_with fail
  refine HK7.out.mono ?_
  rintro e w8 ⟨rfl, F8⟩
  go_wp2_with fail
  go_ret
  exact ⟨by simp, Fresh.below ((((((F2.trans F3).trans F4).trans F5).trans F6).trans F7).trans F8)⟩

set_option maxHeartbeats 800000 in
theorem own_walk (w : World) (A : Option Addr) (ca : Nat) (a : List UInt8) (ha : IsBytes w A ca a) (_ : ca ≤ 140737488351232) :
    Calls Try.prog 8 #[.slice A a.length ca] w fun e w' => e = .returned (.bool true) ∧ Below w.heap.size w w' := by
  obtain ⟨i0, hi, hz0, hz1, hz2⟩ := info_parts info_u8
  have HA := Lib.hid ha.rd
  clear ha
  by_cases h : 1000000 < a.length
  · go_enter Try.func8, Try.ntmps8
    go_wp2_with fail
    go_ret
    exact ⟨rfl, Below.refl _ _⟩
  have HO := Lib.hid (CrcM.sum_own a)
  have hsl := bv_lt (CrcM.sum a)
  have e0 : Value.int .u8 (((CrcM.sum a).toNat : Int) % 256) = bv (CrcM.by0 (CrcM.sum a)) := bv_eq (by unfold CrcM.by0; rw [UInt8.toNat_ofNat']; omega)
  have e1 : Value.int .u8 (((CrcM.sum a).toNat : Int) / 256 % 256) = bv (CrcM.by1 (CrcM.sum a)) := bv_eq (by unfold CrcM.by1; rw [UInt8.toNat_ofNat']; omega)
  have e2 : Value.int .u8 (((CrcM.sum a).toNat : Int) / 65536 % 256) = bv (CrcM.by2 (CrcM.sum a)) := bv_eq (by unfold CrcM.by2; rw [UInt8.toNat_ofNat']; omega)
  have e3 : Value.int .u8 (((CrcM.sum a).toNat : Int) / 16777216) = bv (CrcM.by3 (CrcM.sum a)) := bv_eq (by unfold CrcM.by3; rw [UInt8.toNat_ofNat']; omega)
  have HE := Lib.hid (And.intro e0 (And.intro e1 (And.intro e2 e3)))
  clear e0 e1 e2 e3
  go_enter Try.func8, Try.ntmps8
  go_wp2_with fail
  refine (sum_any _ _ a _ HA.out (by omega)).mono ?_
  rintro e w1 ⟨rfl, F1⟩
  have HA1 := Lib.hid ((HA.out.fresh (Nat.le_refl _) F1).more F1.size)
  have S0 := Lib.hid (show Sl (w1.alloc (.cells #[] 5)) w1.heap.size 5 1 (.slice (some ⟨w1.heap.size, 0, none⟩) 0 0) 0 [] from sl_new w1 _ [] _ (Nat.le_refl _) (by simp [maxLen]))
  have f0 : Fresh w1 (w1.alloc (.cells #[] 5)) := (Frm.refl _ w1).alloc _
  go_wp2_with (first
    | (at_builtin; refine wpList_append_sl _ rfl (.tmp 10) (.tmp 11) _ rfl w1.heap.size 5 i0 _ 1 1 Try.underlying27 hi hz0 hz1 hz2 rfl (by omega) _ _ _ rfl S0.out _ _ _ _ _ rfl (by simp) (HA1.out.alloc (Nat.le_refl _) _) (bv_one _) (by unfold maxLen; omega) (by omega) (by simp) ?_; intro v1 w2 hs1 hf1 ha1; have F2 : Fresh w1 w2 := f0.trans' hf1 (fun i hi hk => by have := own_at hk; omega); have hsz2 := F2.size; rw [Nat.zero_add, List.nil_append] at hs1; have HS := Lib.hid hs1; clear hs1 hf1)
    | (at_builtin; refine wpList_append_sl _ rfl (.tmp 12) (.tmp 24) _ rfl w1.heap.size 5 i0 _ 1 1 Try.underlying27 hi hz0 hz1 hz2 rfl (by omega) _ _ _ rfl (HS.out.alloc _) _ _ 4 _ _ rfl rfl (rd_new _ [_, _, _, _] _) ?c1 (by unfold maxLen; omega) (by omega) (by simp; omega) ?_))
  case c1 => intro u hu; simp at hu; rcases hu with rfl | rfl | rfl | rfl <;> rfl
  intro v2 w3 hs2 hf2 ha2
  have F3 : Fresh w1 w3 := (F2.alloc _).trans' hf2 (fun i hi hk => by have := HS.out.lt i hk; omega)
  have K := sum_sl (bs := a ++ [CrcM.by0 (CrcM.sum a), CrcM.by1 (CrcM.sum a), CrcM.by2 (CrcM.sum a), CrcM.by3 (CrcM.sum a)]) hs2 (by simp [HE.out.1, HE.out.2.1, HE.out.2.2.1, HE.out.2.2.2]) (by simp; omega)
  rw [HO.out] at K
  have HK := Lib.hid K
  clear K hs2 hf2 ha2
  go_wp2_with fail
  refine HK.out.mono ?_
  rintro e w4 ⟨rfl, F4⟩
  go_wp2_with fail
  go_ret
  exact ⟨by simp, Fresh.below ((F1.trans F3).trans F4)⟩
end Go.Proofs.Ytppcfhlipoiakaa

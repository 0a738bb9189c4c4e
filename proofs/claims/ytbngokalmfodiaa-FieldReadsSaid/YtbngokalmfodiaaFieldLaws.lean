/- The laws FieldNumbers, FieldInts, FieldTexts, FieldOrder, FieldApart, walked. -/
import Derived.Test.YtbngokalmfodiaaField
import Derived.Test.YtbngokalmfodiaaConv
import Derived.Test.YtbngokalmfodiaaFieldMath2
import Derived.Deep.QuietTactic
import Derived.BigQuiet
import Derived.Deep.RegionWith
namespace Go.Proofs.Ytbngokalmfodiaa
open Go.RowKit
theorem conv_u {w : World} {B : Nat} {A : Option Addr} {bs : List UInt8} (c : Nat) (h : Rd w B A (bs.map bv)) {n : Nat} (hn : n = bs.length) : (convert 23 9 (.slice A n c)).run Try.prog w = .ok (.string (str bs)) w :=
  conv_bytes _ _ _ Try.underlying23 Try.underlying5 Try.underlying9 c h hn
theorem wf_u64 {n : Int} (h : (Lit.int .u64 n).wf = true) : ∃ k : Nat, n = k ∧ k < 18446744073709551616 := by
  have : 0 ≤ n ∧ n ≤ 18446744073709551615 := by simpa [Lit.wf, IntKind.min, IntKind.max, IntKind.signed, IntKind.bits] using h
  exact ⟨n.toNat, by omega, by omega⟩

set_option maxHeartbeats 400000 in
theorem numbers_walk (w : World) (n : Int) (hn : (Lit.int .u64 n).wf = true) : Calls Try.prog 3 #[.int .u64 n] w fun e w' => e = .returned (.bool true) ∧ Below w.heap.size w w' := by
  obtain ⟨n, rfl, hn'⟩ := wf_u64 hn
  have K1 := Lib.hid (fun w => number_any n hn' w)
  have K2 := Lib.hid (fun w => refNumber_any n hn' w)
  clear hn hn'
  go_enter Try.func3, Try.ntmps3
  go_wp2_with fail
  refine (K1.out _).mono ?_
  rintro e w1 ⟨v1, rfl, hs1, hf1⟩
  obtain ⟨A1, c1, rfl, _, _, _⟩ := hs1.shape
  have hk : ∀ W, Fresh w1 W → (convert 23 9 (.slice A1 (FieldM.num n).length c1)).run Try.prog W = .ok (.string (str (FieldM.num n))) W := fun W hW => conv_u c1 (hs1.rd.fresh (Nat.le_refl _) hW) rfl
  have HK := Lib.hid hk
  have hk1 := fun n => hk _ ((Frm.refl _ w1).drewN n)
  have hk2 := hk _ ((Frm.refl _ w1).drew)
  clear hk
  go_wp2_with fail
  go_region_with (go_at_call 14; refine (K2.out _).mono ?_; rintro e w2 ⟨v2, rfl, hs2, hf2⟩; obtain ⟨A2, c2, rfl, _, _, _⟩ := hs2.shape; have hq := conv_u c2 hs2.rd rfl; have hq2 := HK.out w2 (((Frm.refl _ w1).drew).trans hf2))
  all_goals
    go_wp2
    go_ret
    exact ⟨rfl, Fresh.below (hf1.trans (((Frm.refl _ w1).drew).trans hf2))⟩
theorem cast_beq (a b : Nat) : ((a : Int) == (b : Int)) = decide (a = b) := by
  rw [Bool.eq_iff_iff, beq_iff_eq, decide_eq_true_eq]; omega
theorem wf_i64 {n : Int} (h : (Lit.int .i64 n).wf = true) : -9223372036854775808 ≤ n ∧ n ≤ 9223372036854775807 := by simpa [Lit.wf, IntKind.min, IntKind.max, IntKind.signed, IntKind.bits] using h
set_option maxHeartbeats 400000 in
theorem ints_walk (w : World) (x : Int) (hx : (Lit.int .i64 x).wf = true) : Calls Try.prog 6 #[.int .i64 x] w fun e w' => e = .returned (.bool true) ∧ Below w.heap.size w w' := by
  obtain ⟨h1, h2⟩ := wf_i64 hx
  have K1 := Lib.hid (fun w => int_any x h1 h2 w)
  have K2 := Lib.hid (fun w => refInt_any x h1 h2 w)
  clear hx h1 h2
  go_enter Try.func6, Try.ntmps6
  go_wp2_with fail
  refine (K1.out _).mono ?_
  rintro e w1 ⟨v1, rfl, hs1, hf1⟩
  obtain ⟨A1, c1, rfl, _, _, _⟩ := hs1.shape
  have hk : ∀ W, Fresh w1 W → (convert 23 9 (.slice A1 (FieldM.int x).length c1)).run Try.prog W = .ok (.string (str (FieldM.int x))) W := fun W hW => conv_u c1 (hs1.rd.fresh (Nat.le_refl _) hW) rfl
  have HK := Lib.hid hk
  have hk1 := fun n => hk _ ((Frm.refl _ w1).drewN n)
  have hk2 := hk _ ((Frm.refl _ w1).drew)
  clear hk
  go_wp2_with fail
  go_region_with (go_at_call 18; refine (K2.out _).mono ?_; rintro e w2 ⟨v2, rfl, hs2, hf2⟩; obtain ⟨A2, c2, rfl, _, _, _⟩ := hs2.shape; have hq := conv_u c2 hs2.rd rfl; have hq2 := HK.out w2 (((Frm.refl _ w1).drew).trans hf2))
  all_goals
    go_wp2
    go_ret
    exact ⟨rfl, Fresh.below (hf1.trans (((Frm.refl _ w1).drew).trans hf2))⟩
set_option maxHeartbeats 400000 in
theorem texts_walk (w : World) (A : Option Addr) (cap : Nat) (bs : List UInt8) (hb : IsBytes w A cap bs) (hr : cap ≤ 140737488351232) :
    Calls Try.prog 5 #[.slice A bs.length cap] w fun e w' => e = .returned (.bool true) ∧ Below w.heap.size w w' := by
  have hl : bs.length ≤ 140737488351232 := Nat.le_trans hb.le hr
  have HR := Lib.hid hb.rd
  clear hb hr
  go_enter Try.func5, Try.ntmps5
  go_wp2_with fail
  refine (text_any _ _ _ _ HR.out hl).mono ?_
  rintro e w1 ⟨v1, rfl, hs1, hf1⟩
  obtain ⟨A1, c1, rfl, _, _, _⟩ := hs1.shape
  have hk : ∀ W, Fresh w1 W → (convert 23 9 (.slice A1 (FieldM.text bs).length c1)).run Try.prog W = .ok (.string (str (FieldM.text bs))) W := fun W hW => conv_u c1 (hs1.rd.fresh (Nat.le_refl _) hW) rfl
  have HK := Lib.hid hk
  have hk1 := fun n => hk _ ((Frm.refl _ w1).drewN n)
  have hk2 := hk _ ((Frm.refl _ w1).drew)
  have HR2 := Lib.hid ((HR.out.fresh (Nat.le_refl _) hf1).more hf1.size)
  clear hk
  go_wp2_with fail
  go_region_with (go_at_call 16; refine (refText_any _ _ _ _ ?_ hl).mono ?_; exact HR2.out; rintro e w2 ⟨v2, rfl, hs2, hf2⟩; obtain ⟨A2, c2, rfl, _, _, _⟩ := hs2.shape; have hq := conv_u c2 hs2.rd rfl; have hq2 := HK.out w2 (((Frm.refl _ w1).drew).trans hf2))
  all_goals
    go_wp2
    go_ret
    exact ⟨rfl, Fresh.below (hf1.trans (((Frm.refl _ w1).drew).trans hf2))⟩
set_option maxHeartbeats 400000 in
theorem order_walk (w : World) (a : Int) (ha : (Lit.int .u64 a).wf = true) (b : Int) (hb : (Lit.int .u64 b).wf = true) : Calls Try.prog 4 #[.int .u64 a, .int .u64 b] w fun e w' => e = .returned (.bool true) ∧ Below w.heap.size w w' := by
  obtain ⟨a, rfl, ha'⟩ := wf_u64 ha
  obtain ⟨b, rfl, hb'⟩ := wf_u64 hb
  have K1 := Lib.hid (fun w => number_any a ha' w)
  have K2 := Lib.hid (fun w => number_any b hb' w)
  have n1 := FieldM.num_less ha' hb'
  have n2 := FieldM.num_beq ha' hb'
  have n3 : (str (FieldM.num a)).toList = FieldM.num a := str_toList _
  have n4 : (str (FieldM.num b)).toList = FieldM.num b := str_toList _
  have n5 : (FieldM.num a).isEmpty = false := rfl
  clear ha ha' hb hb'
  go_enter Try.func4, Try.ntmps4
  go_wp2_with fail
  refine (K1.out _).mono ?_
  rintro e w1 ⟨v1, rfl, hs1, hf1⟩
  obtain ⟨A1, c1, rfl, _, _, _⟩ := hs1.shape
  have hq1 := conv_u c1 hs1.rd rfl
  go_wp2_with fail
  refine (K2.out _).mono ?_
  rintro e w2 ⟨v2, rfl, hs2, hf2⟩
  obtain ⟨A2, c2, rfl, _, _, _⟩ := hs2.shape
  have hq2 := conv_u c2 hs2.rd rfl
  go_wp2
  go_ret
  exact ⟨by simp [cast_beq], Fresh.below (hf1.trans hf2)⟩
set_option maxHeartbeats 400000 in
theorem apart_walk (w : World) (a : Int) (ha : (Lit.int .i64 a).wf = true) (b : Int) (hb : (Lit.int .i64 b).wf = true) : Calls Try.prog 7 #[.int .i64 a, .int .i64 b] w fun e w' => e = .returned (.bool true) ∧ Below w.heap.size w w' := by
  obtain ⟨ha1, ha2⟩ := wf_i64 ha
  obtain ⟨hb1, hb2⟩ := wf_i64 hb
  have K1 := Lib.hid (fun w => int_any a ha1 ha2 w)
  have K2 := Lib.hid (fun w => int_any b hb1 hb2 w)
  have hab := FieldM.int_apart_beq ha1 ha2 hb1 hb2
  have la : 0 < (FieldM.int a).length := by rw [FieldM.int_length]; omega
  have lb : 0 < (FieldM.int b).length := by rw [FieldM.int_length]; omega
  have la1 : (((FieldM.int a).length : Int) == 0) = false := by simp; intro h; rw [h] at la; simp at la
  have lb1 : (((FieldM.int b).length : Int) == 0) = false := by simp; intro h; rw [h] at lb; simp at lb
  have HAB := Lib.hid hab
  clear ha ha1 ha2 hb hb1 hb2 hab
  go_enter Try.func7, Try.ntmps7
  go_wp2_with fail
  refine (K1.out _).mono ?_
  rintro e w1 ⟨v1, rfl, hs1, hf1⟩
  obtain ⟨A1, c1, rfl, hc1, hm1, _⟩ := hs1.shape
  unfold maxLen at hm1
  go_wp2_with fail
  refine (K2.out _).mono ?_
  rintro e w2 ⟨v2, rfl, hs2, hf2⟩
  obtain ⟨A2, c2, rfl, hc2, hm2, _⟩ := hs2.shape
  unfold maxLen at hm2
  go_wp2_with fail
  obtain ⟨m, hm⟩ : ∃ m, m = min (FieldM.int a).length (FieldM.int b).length := ⟨_, rfl⟩
  have hmi : min ((FieldM.int a).length : Int) ((FieldM.int b).length : Int) = (m : Int) := by omega
  have h1 : m ≤ (FieldM.int a).length := by omega
  have h2 : m ≤ (FieldM.int b).length := by omega
  have h1c : (m : Int) ≤ (c1 : Int) := by omega
  have h2c : (m : Int) ≤ (c2 : Int) := by omega
  have HAB2 : Hid (((FieldM.int a).take m == (FieldM.int b).take m) = (a == b)) := by rw [hm]; exact HAB.out
  rw [hmi]
  have r1 : Rd w2 w1.heap.size A1 (((FieldM.int a).take m).map bv) := by rw [List.map_take]; exact (hs1.rd.fresh (Nat.le_refl _) hf2).take m
  have r2 : Rd w2 w2.heap.size A2 (((FieldM.int b).take m).map bv) := by rw [List.map_take]; exact hs2.rd.take m
  have q1 : ∀ n, (convert 23 9 (.slice A1 m c1)).run Try.prog (w2.drewN n) = .ok (.string (str ((FieldM.int a).take m))) (w2.drewN n) := fun n => conv_u c1 (r1.drewN n) (by rw [List.length_take]; omega)
  have q2 : ∀ n, (convert 23 9 (.slice A2 m c2)).run Try.prog (w2.drewN n) = .ok (.string (str ((FieldM.int b).take m))) (w2.drewN n) := fun n => conv_u c2 (r2.drewN n) (by rw [List.length_take]; omega)
  have t1 : (str ((FieldM.int a).take m)).toList = (FieldM.int a).take m := str_toList _
  have t2 : (str ((FieldM.int b).take m)).toList = (FieldM.int b).take m := str_toList _
  clear hm hmi
  go_quiet (fail)
  go_wp2
  go_ret
  exact ⟨by rw [HAB2.out]; simp, Fresh.below ((hf1.trans hf2).drewN _)⟩
end Go.Proofs.Ytbngokalmfodiaa

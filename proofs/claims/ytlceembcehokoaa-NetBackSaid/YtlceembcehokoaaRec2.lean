/- The words of four bytes; what Put computes. -/
import Derived.Test.YtlceembcehokoaaRec
namespace Go.Proofs.Ytlceembcehokoaa.Rc
set_option maxRecDepth 100000
open Go.RowKit
set_option linter.unusedVariables false

def w4 (n : Nat) : List UInt8 := [UInt8.ofNat (n / 16777216 % 256), UInt8.ofNat (n / 65536 % 256), UInt8.ofNat (n / 256 % 256), UInt8.ofNat (n % 256)]
theorem bv_ofNat (n : Nat) (h : n < 256) : bv (UInt8.ofNat n) = .int .u8 (n : Int) := by
  unfold bv
  rw [UInt8.toNat_ofNat', Nat.mod_eq_of_lt (by omega)]
theorem w4_cells (n : Nat) (hn : n < 4294967296) : #[Value.int IntKind.u8 ((n : Int) / 16777216), Value.int IntKind.u8 ((n : Int) / 65536 % 256), Value.int IntKind.u8 ((n : Int) / 256 % 256), Value.int IntKind.u8 ((n : Int) % 256)] = ((w4 n).map bv).toArray := by
  simp only [w4, List.map_cons, List.map_nil]
  rw [bv_ofNat _ (by omega), bv_ofNat _ (by omega), bv_ofNat _ (by omega), bv_ofNat _ (by omega)]
  rw [show ((n / 16777216 % 256 : Nat) : Int) = (n : Int) / 16777216 by omega, show ((n / 65536 % 256 : Nat) : Int) = (n : Int) / 65536 % 256 by omega, show ((n / 256 % 256 : Nat) : Int) = (n : Int) / 256 % 256 by omega, show ((n % 256 : Nat) : Int) = (n : Int) % 256 by omega]
theorem w4_sl (n : Nat) (hn : n < 4294967296) (w : World) : Sl (w.alloc (.cells #[Value.int IntKind.u8 ((n : Int) / 16777216), Value.int IntKind.u8 ((n : Int) / 65536 % 256), Value.int IntKind.u8 ((n : Int) / 256 % 256), Value.int IntKind.u8 ((n : Int) % 256)] 5)) w.heap.size 5 1 (.slice (some ⟨w.heap.size, 0, none⟩) 4 4) 4 ((w4 n).map bv) := by
  rw [w4_cells n hn]
  exact sl_new w _ ((w4 n).map bv) _ (Nat.le_refl _) (by simp [w4, maxLen])
set_option maxHeartbeats 400000 in
theorem word_any (n : Nat) (hn : n < 4294967296) (w : World) :
    Calls Try.prog 79 #[.int .u32 (n : Int)] w fun e w' => ∃ g, e = .returned (.slice (some ⟨g, 0, none⟩) 4 4) ∧ Sl w' w.heap.size 5 1 (.slice (some ⟨g, 0, none⟩) 4 4) 4 ((w4 n).map bv) ∧ Fresh w w' := by
  go_enter Try.func79, Try.ntmps79
  go_wp2_with fail
  go_ret
  exact ⟨_, rfl, w4_sl n hn w, (Frm.refl _ w).alloc _⟩
set_option maxHeartbeats 400000 in
theorem four_any (n : Nat) (hn : n < 4294967296) (w : World) :
    Calls Try.prog 87 #[.int .u32 (n : Int)] w fun e w' => ∃ g, e = .returned (.slice (some ⟨g, 0, none⟩) 4 4) ∧ Sl w' w.heap.size 5 1 (.slice (some ⟨g, 0, none⟩) 4 4) 4 ((w4 n).map bv) ∧ Fresh w w' := by
  go_enter Try.func87, Try.ntmps87
  go_wp2_with fail
  go_ret
  exact ⟨_, rfl, w4_sl n hn w, (Frm.refl _ w).alloc _⟩
theorem w4_len (n : Nat) : (w4 n).length = 4 := rfl

/-- a record -/
def rec (bs : List UInt8) : List UInt8 := w4 bs.length ++ w4 (CrcM.sum (w4 bs.length ++ bs)).toNat ++ bs
theorem rec_len (bs : List UInt8) : (rec bs).length = bs.length + 8 := by simp [rec, w4_len]; omega
def PutPost (w : World) (bs : List UInt8) (e : Ending) (w' : World) : Prop :=
  ∃ v, e = .returned (.tuple #[v, .int .i64 0]) ∧ Sl w' w.heap.size 5 1 v (bs.length + 8) ((rec bs).map bv) ∧ Fresh w w'
theorem put_no (w : World) (A : Option Addr) (cap : Nat) (n : Nat) (hn : 65536 < n) :
    Calls Try.prog 42 #[.slice A n cap] w fun e w' => e = .returned (.tuple #[.slice none 0 0, .int .i64 3]) ∧ w = w' := by
  have d : decide (65536 < n) = true := by simpa using hn
  have d2 : (65536 : Int) < (n : Int) := by omega
  go_enter Try.func42, Try.ntmps42
  go_wp2_with fail
  go_ret2
  exact ⟨rfl, rfl⟩
theorem refPut_no (w : World) (A : Option Addr) (cap : Nat) (n : Nat) (hn : 65536 < n) :
    Calls Try.prog 49 #[.slice A n cap] w fun e w' => e = .returned (.tuple #[.slice none 0 0, .int .i64 3]) ∧ w = w' := by
  have d : decide (65536 < n) = true := by simpa using hn
  have d2 : (65536 : Int) < (n : Int) := by omega
  go_enter Try.func49, Try.ntmps49
  go_wp2_with fail
  go_ret2
  exact ⟨rfl, rfl⟩
set_option maxHeartbeats 1000000 in
theorem put_any (w : World) (A : Option Addr) (cap : Nat) (bs : List UInt8) (hb : Rd w w.heap.size A (bs.map bv)) (hl : bs.length ≤ 65536) :
    Calls Try.prog 42 #[.slice A bs.length cap] w fun e w' => PutPost w bs e w' := by
  have HB := Lib.hid hb
  clear hb
  have d : decide (65536 < bs.length) = false := by simp; omega
  have hu : IntKind.u32.wrap (bs.length : Int) = (bs.length : Int) := by rw [IntKind.wrap_u32]; omega
  go_enter Try.func42, Try.ntmps42
  go_wp2_with fail
  refine (word_any bs.length (by omega) w).mono ?_
  rintro e w1 ⟨g1, rfl, hs, hf⟩
  have HS1 := Lib.hid hs
  have HF1 := Lib.hid hf
  clear hs hf
  go_wp2_with fail
  refine (sum_any (some ⟨g1, 0, none⟩) 4 (w4 bs.length) w1 HS1.out.rd (by rw [w4_len]; omega)).mono ?_
  rintro e w2 ⟨rfl, hf⟩
  have HF2 := Lib.hid hf
  clear hf
  go_wp2_with fail
  refine (add_any (CrcM.sum (w4 bs.length)) A cap bs w2 ((HB.out.fresh (Nat.le_refl _) (HF1.out.trans HF2.out)).more (HF1.out.trans HF2.out).size) (by omega)).mono ?_
  rintro e w3 ⟨rfl, hf⟩
  have HF3 := Lib.hid (HF1.out.trans (HF2.out.trans hf))
  have HF23 := Lib.hid (HF2.out.trans hf)
  clear hf HF2
  have HSUM := Lib.hid (show CrcM.add (CrcM.sum (w4 bs.length)) bs = CrcM.sum (w4 bs.length ++ bs) from (CrcM.add_append _ _ _).symm)
  rw [HSUM.out]
  have hsl := bv_lt (CrcM.sum (w4 bs.length ++ bs))
  generalize hcs : CrcM.sum (w4 bs.length ++ bs) = cs at hsl
  have HCS := Lib.hid hcs
  clear hcs HSUM
  go_wp2_with fail
  refine (word_any cs.toNat (by omega) w3).mono ?_
  rintro e w4' ⟨g4, rfl, hs, hf⟩
  have HS4 := Lib.hid hs
  have HF4 := Lib.hid hf
  clear hs hf
  go_wp2_with fail
  have hF4 : Fresh w w4' := HF3.out.trans HF4.out
  have hbss : RdB (w4'.alloc (.cells #[Value.slice (some ⟨g1, 0, none⟩) 4 4, Value.slice (some ⟨g4, 0, none⟩) 4 4, Value.slice A bs.length cap] 26)) (some ⟨w4'.heap.size, 0, none⟩)
      [(some ⟨g1, 0, none⟩, 4, w4 bs.length), (some ⟨g4, 0, none⟩, 4, w4 cs.toNat), (A, cap, bs)] := by
    refine ⟨(rd_new w4' [Value.slice (some ⟨g1, 0, none⟩) 4 4, Value.slice (some ⟨g4, 0, none⟩) 4 4, Value.slice A bs.length cap] 26).more (by simp), ?_⟩
    intro b hb
    simp only [List.mem_cons, List.not_mem_nil, or_false] at hb
    rcases hb with rfl | rfl | rfl
    · exact ((HS1.out.fresh (HF23.out.trans HF4.out)).alloc _).rd
    · exact (HS4.out.alloc _).rd
    · exact ((HB.out.fresh (Nat.le_refl _) hF4).alloc hF4.size _).more (by have := hF4.size; simp; omega)
  have hj : joined [(some ⟨g1, 0, none⟩, 4, w4 bs.length), (some ⟨g4, 0, none⟩, 4, w4 cs.toNat), (A, cap, bs)] = rec bs := by
    simp [joined, rec, HCS.out]
  have HBS := Lib.hid hbss
  have HJ := Lib.hid hj
  have HF5 := Lib.hid hF4
  clear hbss hj hF4
  refine (concat_any _ 3 _ _ HBS.out (by rw [HJ.out, rec_len]; omega) (by simp)).mono ?_
  rw [HJ.out, rec_len]
  rintro e w5 ⟨v, rfl, hs, hf⟩
  have HS5 := Lib.hid hs
  have HF6 := Lib.hid ((HF5.out.alloc _).trans hf)
  have HSZ := Lib.hid (HF5.out.size)
  clear hs hf
  go_wp2_with fail
  go_ret2
  exact ⟨_, rfl, HS5.out.less (by have := HSZ.out; simp; omega), HF6.out⟩
set_option maxHeartbeats 2000000 in
theorem refPut_any (w : World) (A : Option Addr) (cap : Nat) (bs : List UInt8) (hb : Rd w w.heap.size A (bs.map bv)) (hl : bs.length ≤ 65536) (hle : bs.length ≤ cap) (hcap : cap ≤ maxLen) :
    Calls Try.prog 49 #[.slice A bs.length cap] w fun e w' => PutPost w bs e w' := by
  obtain ⟨i0, hi, hz0, hz1, hz2⟩ := info_parts info_u8
  have HB := Lib.hid hb
  unfold maxLen at hcap
  clear hb
  have d : decide (65536 < bs.length) = false := by simp; omega
  have hu : IntKind.u32.wrap (bs.length : Int) = (bs.length : Int) := by rw [IntKind.wrap_u32]; omega
  go_enter Try.func49, Try.ntmps49
  go_wp2_with fail
  refine (four_any bs.length (by omega) w).mono ?_
  rintro e w1 ⟨g1, rfl, hs, hf⟩
  have HS1 := Lib.hid hs
  have HF1 := Lib.hid hf
  have S0 : Hid (Sl (w1.alloc (.cells #[] 5)) w1.heap.size 5 1 (.slice (some ⟨w1.heap.size, 0, none⟩) 0 0) 0 []) := Lib.hid (sl_new w1 _ [] _ (Nat.le_refl _) (by simp [maxLen]))
  have R1 := Lib.hid ((hs.alloc (.cells #[] 5)).rd)
  have RB : Hid (∀ w', Fresh w1 w' → Rd w' w'.heap.size A (bs.map bv)) := Lib.hid fun w' F => (HB.out.fresh (Nat.le_refl _) (HF1.out.trans F)).more (HF1.out.trans F).size
  clear hs hf
  go_wp2_with (first
    | (at_builtin; refine wpList_append_sl _ rfl (.tmp 14) (.tmp 15) _ rfl w1.heap.size 5 i0 _ 1 1 Try.underlying26 hi hz0 hz1 hz2 rfl (by omega) _ _ _ rfl S0.out _ _ 4 _ _ rfl (by rfl) R1.out (bv_one _) (by unfold maxLen; omega) (by omega) (by simp) ?_; intro v2 w2 hs2 hf2 ha2; have HF2 : Hid (Fresh w1 w2) := Lib.hid (((Frm.refl _ w1).alloc _).trans' hf2 (fun i hi hk => by have := own_at hk; omega)); obtain ⟨A2, c2, rfl, hc21, hc22, _⟩ := hs2.shape; have HS2 := Lib.hid hs2; have hsz2 := HF2.out.size; clear hs2 hf2 ha2)
    | (at_builtin; refine wpList_append_sl _ rfl (.tmp 16) (.tmp 17) _ rfl w1.heap.size 5 i0 _ 1 1 Try.underlying26 hi hz0 hz1 hz2 rfl (by omega) _ _ _ rfl HS2.out _ _ _ _ _ rfl (by simp) (RB.out _ HF2.out) (bv_one _) (by unfold maxLen; omega) (by omega) hsz2 ?_; intro v3 w3 hs3 hf3 ha3; have HF3 : Hid (Fresh w1 w3) := Lib.hid (HF2.out.trans' hf3 (fun i hi hk => by have := (HS2.out.lt _ hk).1; omega)); obtain ⟨A3, c3, rfl, hc31, hc32, _⟩ := hs3.shape; have HS3 := Lib.hid hs3; clear hs3 hf3 ha3))
  have hr3 : Rd w3 w3.heap.size A3 ((w4 bs.length ++ bs).map bv) := by
    have := HS3.out.rd
    simpa using this
  have hsum := refSum_any A3 c3 _ w3 hr3 (by simp [w4_len]; omega)
  rw [show (w4 bs.length ++ bs).length = 4 + bs.length from by simp [w4_len]] at hsum
  have HSUM := Lib.hid hsum
  have S5 : Hid (Sl (w3.alloc (.cells #[] 5)) w3.heap.size 5 1 (.slice (some ⟨w3.heap.size, 0, none⟩) 0 0) 0 []) := Lib.hid (sl_new w3 _ [] _ (Nat.le_refl _) (by simp [maxLen]))
  have R5 := Lib.hid (((HS1.out.fresh HF3.out).alloc (.cells #[] 5)).rd)
  have hsz3 := HF3.out.size
  have hszw := HF1.out.size
  clear hr3 hsum
  refine HSUM.out.mono ?_
  rintro e w3' ⟨rfl, rfl⟩
  have hsl := bv_lt (CrcM.sum (w4 bs.length ++ bs))
  generalize hcs : CrcM.sum (w4 bs.length ++ bs) = cs at hsl
  have HCS := Lib.hid hcs
  clear hcs HSUM
  go_wp2_with (first
    | (at_builtin; refine wpList_append_sl _ rfl (.tmp 20) (.tmp 21) _ rfl w3.heap.size 5 i0 _ 1 1 Try.underlying26 hi hz0 hz1 hz2 rfl (by omega) _ _ _ rfl S5.out _ _ 4 _ _ rfl (by rfl) R5.out (bv_one _) (by unfold maxLen; omega) (by omega) (by simp) ?_; intro v6 w6 hs6 hf6 ha6; have HF6 : Hid (Fresh w3 w6) := Lib.hid (((Frm.refl _ w3).alloc _).trans' hf6 (fun i hi hk => by have := own_at hk; omega)); obtain ⟨A6, c6, rfl, hc61, hc62, _⟩ := hs6.shape; have HS6 := Lib.hid hs6; have hsz6 := HF6.out.size; clear hs6 hf6 ha6))
  refine (four_any cs.toNat (by omega) w6).mono ?_
  rintro e w7 ⟨g7, rfl, hs, hf⟩
  have HS67 := Lib.hid (HS6.out.fresh hf)
  have HF7 := Lib.hid (HF6.out.trans hf)
  have hsz7 := HF7.out.size
  have R7 := Lib.hid hs.rd
  clear hs hf HS6
  go_wp2_with (first
    | (at_builtin; refine wpList_append_sl _ rfl (.tmp 23) (.tmp 25) _ rfl w3.heap.size 5 i0 _ 1 1 Try.underlying26 hi hz0 hz1 hz2 rfl (by omega) _ _ _ rfl HS67.out _ _ 4 _ _ rfl (by rfl) R7.out (bv_one _) (by unfold maxLen; omega) (by omega) hsz7 ?_; intro v8 w8 hs8 hf8 ha8; have HF8 : Hid (Fresh w3 w8) := Lib.hid (HF7.out.trans' hf8 (fun i hi hk => by have := (HS67.out.lt _ hk).1; omega)); obtain ⟨A8, c8, rfl, hc81, hc82, _⟩ := hs8.shape; have HS8 := Lib.hid hs8; have hsz8 := HF8.out.size; clear hs8 hf8 ha8)
    | (at_builtin; refine wpList_append_sl _ rfl (.tmp 27) (.tmp 28) _ rfl w3.heap.size 5 i0 _ 1 1 Try.underlying26 hi hz0 hz1 hz2 rfl (by omega) _ _ _ rfl HS8.out _ _ _ _ _ rfl (by simp) (RB.out _ (HF3.out.trans HF8.out)) (bv_one _) (by unfold maxLen; omega) (by omega) hsz8 ?_; intro v9 w9 hs9 hf9 ha9; have HF9 : Hid (Fresh w3 w9) := Lib.hid (HF8.out.trans' hf9 (fun i hi hk => by have := (HS8.out.lt _ hk).1; omega)); have HS9 := Lib.hid hs9; clear hs9 hf9 ha9))
  go_ret2
  refine ⟨_, rfl, ?_, HF1.out.trans (HF3.out.trans HF9.out)⟩
  have h := HS9.out.less (show w.heap.size ≤ w3.heap.size by omega)
  rw [show rec bs = [] ++ w4 bs.length ++ w4 cs.toNat ++ bs from by rw [rec, HCS.out]; rfl, List.map_append, List.map_append, List.map_append]
  rw [show bs.length + 8 = 0 + 4 + 4 + bs.length by omega]
  exact h
end Go.Proofs.Ytlceembcehokoaa.Rc

/- NumR, TextR, IntR. (Put together by mg.py.) -/
import Derived.Test.YtlceembcehokoaaNumP
import Derived.Test.YtlceembcehokoaaIntP
namespace Go.Proofs.Ytlceembcehokoaa
open Go.RowKit

set_option maxHeartbeats 400000 in
theorem refNumber_any (N : Nat) (hN : N < 18446744073709551616) (w : World) :
    Calls Try.prog 44 #[.int .u64 (N : Int)] w fun e w' => ∃ v, e = .returned v ∧ Sl w' w.heap.size 5 1 v (FieldM.num N).length ((FieldM.num N).map bv) ∧ Fresh w w' := by
  obtain ⟨i0, hi, hz0, hz1, hz2⟩ := info_parts info_u8
  have hw := FieldM.wid_le hN
  have HN := Lib.hid hN
  clear hN
  go_enter Try.func44, Try.ntmps44
  go_wp2_with fail
  go_loopw [0, 3] (fun v0 v3 wr => ∃ k m : Nat, k ≤ FieldM.wid N ∧ m = N / 256 ^ k ∧ v0 = .int .u64 (m : Int) ∧ Sl wr w.heap.size 5 1 v3 k ((FieldM.be k N).map bv) ∧ Fresh w wr) (fun v0 _ _ => (intOf v0).toNat)
  case atStart => exact ⟨0, N, Nat.zero_le _, by simp, rfl, Sl.nil _ _ _ _, Frm.refl _ _⟩
  case round =>
    obtain ⟨k, m, hk, hm, rfl, hsl, hfr⟩ := hrel
    have hsz := hfr.size
    have hml : m ≤ 18446744073709551615 := by rw [hm]; have := HN.out; have := Nat.div_le_self N (256 ^ k); omega
    have HM := Lib.hid hm
    clear hm
    obtain ⟨A, cap, rfl, hkc, hcm, hno⟩ := hsl.shape
    by_cases h0 : 0 < m
    · have hlt : k < FieldM.wid N := by
        rcases Nat.lt_or_ge k (FieldM.wid N) with h | h
        · exact h
        · have h1 := (FieldM.wid_lt k N HN.out).2 h
          have h2 := HM.out
          rw [Nat.div_eq_of_lt h1] at h2
          omega
      go_wp2_with (at_builtin; refine wpList_append_sl _ rfl (.tmp 9) (.tmp 10) _ rfl w.heap.size 5 i0 _ 1 1 Try.underlying26 hi hz0 hz1 hz2 rfl (by omega) _ _ _ rfl (sl_new wr _ [_] _ hsz (by simp [maxLen])) _ _ k _ _ rfl (by rw [List.length_map, FieldM.be_length]; omega) ((hsl.alloc _).rd) ?c1 ?c2 ?c3 ?c4 ?_)
      case c1 => exact bv_one _
      case c2 => unfold maxLen; simp; omega
      case c3 => simp; omega
      case c4 => simp; omega
      intro v2 w2 hs2 hf2 _
      have hb : Value.int IntKind.u8 ((m : Int) % 256) = bv (UInt8.ofNat (N / 256 ^ k % 256)) := bv_eq (by rw [UInt8.toNat_ofNat', ← HM.out]; omega)
      have hs3 : Sl w2 w.heap.size 5 1 v2 (k + 1) ((FieldM.be (k + 1) N).map bv) := by
        rw [FieldM.be_cons, List.map_cons, ← hb, Nat.add_comm k 1]
        exact hs2
      have hf3 : Fresh w w2 := (hfr.alloc _).trans' hf2 (fun i hi hk => by simp [Value.ownBlock] at hk; omega)
      clear hs2 hf2 hb
      go_wp2
      go_roundw
      case rel => exact ⟨k + 1, m / 256, by omega, by rw [Nat.pow_succ, ← Nat.div_div_eq_div_mul, ← HM.out], by go_num, hs3, hf3⟩
      case measure => simp [intOf]; omega
    · go_wp2_with (at_builtin; refine wpList_append_sl _ rfl (.tmp 17) (.tmp 18) _ rfl w.heap.size 5 i0 _ 1 1 Try.underlying26 hi hz0 hz1 hz2 rfl (by omega) _ _ _ rfl (sl_new wr _ [_] _ hsz (by simp [maxLen])) _ _ k _ _ rfl (by rw [List.length_map, FieldM.be_length]; omega) ((hsl.alloc _).rd) ?c1 ?c2 ?c3 ?c4 ?_)
      case c1 => exact bv_one _
      case c2 => unfold maxLen; simp; omega
      case c3 => simp; omega
      case c4 => simp; omega
      intro v2 w2 hs2 hf2 _
      have hkw : k = FieldM.wid N := by
        rcases Nat.lt_or_ge k (FieldM.wid N) with h | h
        · have h1 : ¬ N < 256 ^ k := fun h1 => by have := (FieldM.wid_lt k N HN.out).1 h1; omega
          have h2 := HM.out
          have h3 : 0 < N / 256 ^ k := Nat.div_pos (by omega) (Nat.pow_pos (by omega))
          omega
        · omega
      have hb : Value.int IntKind.u8 (k : Int) = bv (UInt8.ofNat (FieldM.wid N)) := bv_eq (by rw [UInt8.toNat_ofNat', ← hkw]; omega)
      have hs3 : Sl w2 w.heap.size 5 1 v2 (FieldM.num N).length ((FieldM.num N).map bv) := by
        rw [FieldM.num_length, FieldM.num, List.map_cons, ← hb, ← hkw, Nat.add_comm k 1]
        exact hs2
      have hf3 : Fresh w w2 := (hfr.alloc _).trans' hf2 (fun i hi hk => by simp [Value.ownBlock] at hk; omega)
      clear hs2 hf2 hb hkw
      go_wp2
      go_ret
      exact ⟨_, rfl, hs3, hf3⟩

end Go.Proofs.Ytlceembcehokoaa
namespace Go.Proofs.Ytlceembcehokoaa
open Go.RowKit

set_option maxHeartbeats 400000 in
theorem refText_any (A : Option Addr) (cap : Nat) (bs : List UInt8) (w : World) (hb : Rd w w.heap.size A (bs.map bv)) (hl : bs.length ≤ 140737488351232) :
    Calls Try.prog 46 #[.slice A bs.length cap] w fun e w' => ∃ v, e = .returned v ∧ Sl w' w.heap.size 5 1 v (FieldM.text bs).length ((FieldM.text bs).map bv) ∧ Fresh w w' := by
  obtain ⟨i0, hi, hz0, hz1, hz2⟩ := info_parts info_u8
  have hw := FieldM.wid_le (n := bs.length) (by omega)
  have hnl := FieldM.num_length bs.length
  have HNL := Lib.hid hnl
  have K := Lib.hid (fun w => refNumber_any bs.length (by omega) w)
  clear hnl
  go_enter Try.func46, Try.ntmps46
  go_wp2_with fail
  refine (K.out _).mono ?_
  rintro e w1 ⟨v1, rfl, hs1, hf1⟩
  have hb1 := hb.fresh (Nat.le_refl _) hf1
  have hsz := hf1.size
  go_wp2_with (at_builtin; refine wpList_append_sl _ rfl (.tmp 6) (.tmp 7) _ rfl w.heap.size 5 i0 _ 1 1 Try.underlying26 hi hz0 hz1 hz2 rfl (by omega) _ _ _ rfl hs1 _ _ _ _ _ rfl (by simp) hb1 (bv_one _) ?c2 ?c3 hsz ?_)
  case c2 => rw [HNL.out]; unfold maxLen; omega
  case c3 => rw [HNL.out]; omega
  intro v2 w2 hs2 hf2 _
  have hs3 : Sl w2 w.heap.size 5 1 v2 (FieldM.text bs).length ((FieldM.text bs).map bv) := by
    rw [FieldM.text, List.length_append, List.map_append]
    exact hs2
  have hf3 : Fresh w w2 := hf1.trans' hf2 (fun i hi hk => by have := hs1.lt i hk; omega)
  clear hs2 hf2
  go_wp2
  go_ret
  exact ⟨_, rfl, hs3, hf3⟩

end Go.Proofs.Ytlceembcehokoaa
namespace Go.Proofs.Ytlceembcehokoaa
open Go.RowKit

set_option maxHeartbeats 400000 in
theorem refInt_neg (n : Nat) (h0 : 0 < n) (hn : n ≤ 9223372036854775808) (w : World) :
    Calls Try.prog 45 #[.int .i64 (-(n : Int))] w fun e w' => ∃ v, e = .returned v ∧ Sl w' w.heap.size 5 1 v (FieldM.int (-(n : Int))).length ((FieldM.int (-(n : Int))).map bv) ∧ Fresh w w' := by
  have hw := FieldM.wid_le (n := n) (by omega)
  have K := Lib.hid (fun w => refNumber_any n (by omega) w)
  go_enter Try.func45, Try.ntmps45
  go_wp2_with fail
  rw [show (-(-(n : Int) + 1) + 1) = (n : Int) from by omega]
  refine (K.out _).mono ?_
  rintro e w1 ⟨v1, rfl, hs1, hf1⟩
  obtain ⟨g, o, cap, rfl, hg1, hg2, hcap, hmax⟩ := hs1.head (by rw [FieldM.num_length]; omega)
  have hf := hs1.frozen (j := o)
  have hlen : (0 : Int) < ((FieldM.num n).length : Int) := by rw [FieldM.num_length]; omega
  have hc := num_cell0 hw hs1
  go_wp2
  go_ret
  exact ⟨_, rfl, int_store h0 hw hs1 (by first | rfl | omega), frm_own hf1 hg1 _⟩
set_option maxHeartbeats 400000 in
theorem refInt_pos (n : Nat) (hn : n ≤ 9223372036854775807) (w : World) :
    Calls Try.prog 45 #[.int .i64 (n : Int)] w fun e w' => ∃ v, e = .returned v ∧ Sl w' w.heap.size 5 1 v (FieldM.int (n : Int)).length ((FieldM.int (n : Int)).map bv) ∧ Fresh w w' := by
  have K := Lib.hid (fun w => refNumber_any n (by omega) w)
  have e : FieldM.int (n : Int) = FieldM.num n := by unfold FieldM.int; rw [if_pos (by omega), Int.toNat_natCast]
  rw [e]
  clear e
  go_enter Try.func45, Try.ntmps45
  go_wp2_with fail
  refine (K.out _).mono ?_
  rintro e w1 ⟨v1, rfl, hs1, hf1⟩
  go_wp2
  go_ret
  exact ⟨_, rfl, hs1, hf1⟩
theorem refInt_any (x : Int) (h1 : -9223372036854775808 ≤ x) (h2 : x ≤ 9223372036854775807) (w : World) :
    Calls Try.prog 45 #[.int .i64 x] w fun e w' => ∃ v, e = .returned v ∧ Sl w' w.heap.size 5 1 v (FieldM.int x).length ((FieldM.int x).map bv) ∧ Fresh w w' := by
  rcases Int.lt_or_le x 0 with h | h
  · obtain ⟨n, rfl⟩ : ∃ n : Nat, x = -(n : Int) := ⟨x.natAbs, by omega⟩
    exact refInt_neg n (by omega) (by omega) w
  · obtain ⟨n, rfl⟩ := Int.eq_ofNat_of_zero_le h
    exact refInt_pos n (by omega) w
end Go.Proofs.Ytlceembcehokoaa

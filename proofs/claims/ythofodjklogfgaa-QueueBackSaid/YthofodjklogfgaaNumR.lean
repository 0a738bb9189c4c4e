/- What the document's Number answers. -/
import Derived.Test.YthofodjklogfgaaNumP
namespace Go.Proofs.Ythofodjklogfgaa
open Go.RowKit

set_option maxHeartbeats 400000 in
theorem refNumber_any (N : Nat) (hN : N < 18446744073709551616) (w : World) :
    Calls Try.prog 56 #[.int .u64 (N : Int)] w fun e w' => ∃ v, e = .returned v ∧ Sl w' w.heap.size 5 1 v (FieldM.num N).length ((FieldM.num N).map bv) ∧ Fresh w w' := by
  obtain ⟨i0, hi, hz0, hz1, hz2⟩ := info_parts info_u8
  have hw := FieldM.wid_le hN
  have HN := Lib.hid hN
  clear hN
  go_enter Try.func56, Try.ntmps56
  go_wp2_with fail
  go_loopw [0, 3] (fun v0 v3 wr => ∃ k m : Nat, k ≤ FieldM.wid N ∧ m = N / 256 ^ k ∧ v0 = .int .u64 (m : Int) ∧ Sl wr w.heap.size 5 1 v3 k ((FieldM.be k N).map bv) ∧ Fresh w wr) (fun v0 _ _ => (intOf v0).toNat)
  case atStart => exact ⟨0, N, Nat.zero_le _, by simp, rfl, Sl.nil _ _ _ _, Frm.refl _ _⟩
  case round =>
    obtain ⟨k, m, hk, hm, rfl, hsl, hfr⟩ := hrel
    have hsz := hfr.size
    have hml : m ≤ 18446744073709551615 := by rw [hm]; have := HN.out; have := Nat.div_le_self N (256 ^ k); omega
    have HM := Lib.hid hm
    clear hm
    obtain ⟨A, cap, rfl, hkc, hcm, hno⟩ := hsl.shape
    by_cases h0 : 0 < m
    · have hlt : k < FieldM.wid N := by
        rcases Nat.lt_or_ge k (FieldM.wid N) with h | h
        · exact h
        · have h1 := (FieldM.wid_lt k N HN.out).2 h
          have h2 := HM.out
          rw [Nat.div_eq_of_lt h1] at h2
          omega
      go_wp2_with (at_builtin; refine wpList_append_sl _ rfl (.tmp 9) (.tmp 10) _ rfl w.heap.size 5 i0 _ 1 1 Try.underlying50 hi hz0 hz1 hz2 rfl (by omega) _ _ _ rfl (sl_new wr _ [_] _ hsz (by simp [maxLen])) _ _ k _ _ rfl (by rw [List.length_map, FieldM.be_length]; omega) ((hsl.alloc _).rd) ?c1 ?c2 ?c3 ?c4 ?_)
      case c1 => exact bv_one _
      case c2 => unfold maxLen; simp; omega
      case c3 => simp; omega
      case c4 => simp; omega
      intro v2 w2 hs2 hf2 _
      have hb : Value.int IntKind.u8 ((m : Int) % 256) = bv (UInt8.ofNat (N / 256 ^ k % 256)) := bv_eq (by rw [UInt8.toNat_ofNat', ← HM.out]; omega)
      have hs3 : Sl w2 w.heap.size 5 1 v2 (k + 1) ((FieldM.be (k + 1) N).map bv) := by
        rw [FieldM.be_cons, List.map_cons, ← hb, Nat.add_comm k 1]
        exact hs2
      have hf3 : Fresh w w2 := (hfr.alloc _).trans' hf2 (fun i hi hk => by simp [Value.ownBlock] at hk; omega)
      clear hs2 hf2 hb
      go_wp2
      go_roundw
      case rel => exact ⟨k + 1, m / 256, by omega, by rw [Nat.pow_succ, ← Nat.div_div_eq_div_mul, ← HM.out], by go_num, hs3, hf3⟩
      case measure => simp [intOf]; omega
    · go_wp2_with (at_builtin; refine wpList_append_sl _ rfl (.tmp 17) (.tmp 18) _ rfl w.heap.size 5 i0 _ 1 1 Try.underlying50 hi hz0 hz1 hz2 rfl (by omega) _ _ _ rfl (sl_new wr _ [_] _ hsz (by simp [maxLen])) _ _ k _ _ rfl (by rw [List.length_map, FieldM.be_length]; omega) ((hsl.alloc _).rd) ?c1 ?c2 ?c3 ?c4 ?_)
      case c1 => exact bv_one _
      case c2 => unfold maxLen; simp; omega
      case c3 => simp; omega
      case c4 => simp; omega
      intro v2 w2 hs2 hf2 _
      have hkw : k = FieldM.wid N := by
        rcases Nat.lt_or_ge k (FieldM.wid N) with h | h
        · have h1 : ¬ N < 256 ^ k := fun h1 => by have := (FieldM.wid_lt k N HN.out).1 h1; omega
          have h2 := HM.out
          have h3 : 0 < N / 256 ^ k := Nat.div_pos (by omega) (Nat.pow_pos (by omega))
          omega
        · omega
      have hb : Value.int IntKind.u8 (k : Int) = bv (UInt8.ofNat (FieldM.wid N)) := bv_eq (by rw [UInt8.toNat_ofNat', ← hkw]; omega)
      have hs3 : Sl w2 w.heap.size 5 1 v2 (FieldM.num N).length ((FieldM.num N).map bv) := by
        rw [FieldM.num_length, FieldM.num, List.map_cons, ← hb, ← hkw, Nat.add_comm k 1]
        exact hs2
      have hf3 : Fresh w w2 := (hfr.alloc _).trans' hf2 (fun i hi hk => by simp [Value.ownBlock] at hk; omega)
      clear hs2 hf2 hb hkw
      go_wp2
      go_ret
      exact ⟨_, rfl, hs3, hf3⟩

end Go.Proofs.Ythofodjklogfgaa

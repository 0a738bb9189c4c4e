/- What field.Number answers: the code of a number, in new memory. -/
import Derived.Test.YtlceembcehokoaaOpen
import Derived.Test.YtlceembcehokoaaFieldMath
import Derived.Test.YtlceembcehokoaaShelf
import Derived.Test.YtlceembcehokoaaRows
import Derived.Handy
import Derived.WalkLawsBesides
namespace Go.Proofs.Ytlceembcehokoaa
open Go.RowKit

theorem info_u8 : (Try.prog.info? 5).map (fun i => (i.zero, i.size, i.bytes)) = some (some (.int .u8 0), 1, 1) := by kernel_rfl

theorem bv_eq {x : Int} {b : UInt8} (h : x = (b.toNat : Int)) : Value.int .u8 x = bv b := by rw [h]; rfl
set_option maxHeartbeats 400000 in
theorem number_any (n : Nat) (hn : n < 18446744073709551616) (w : World) :
    Calls Try.prog 37 #[.int .u64 (n : Int)] w fun e w' => ∃ v, e = .returned v ∧ Sl w' w.heap.size 5 1 v (FieldM.num n).length ((FieldM.num n).map bv) ∧ Fresh w w' := by
  obtain ⟨i0, hi, hz0, hz1, hz2⟩ := info_parts info_u8
  have K1 := Lib.hid (fun w => Try.bits_Len64 (n : Int) w (by omega) (by omega))
  have hw := FieldM.wid_le hn
  have hl : Lib.bitLen n ≤ 64 := by unfold FieldM.wid at hw; omega
  have HW := Lib.hid (show ((Lib.bitLen n : Int) + 7) / 8 = (FieldM.wid n : Int) by unfold FieldM.wid; omega)
  clear hn
  go_enter Try.func37, Try.ntmps37
  go_wp2_with fail
  refine (K1.out _).mono ?_
  rintro e w' ⟨rfl, rfl⟩
  rw [Int.toNat_natCast]
  go_wp2_with fail
  go_loopw [3, 4] (fun v3 v4 wr => ∃ r : Nat, r ≤ FieldM.wid n ∧ v3 = .int .i64 (r : Int) ∧ Sl wr w'.heap.size 5 1 v4 (FieldM.wid n - r + 1) ((FieldM.pre n (FieldM.wid n - r)).map bv) ∧ Fresh w' wr) (fun v3 _ _ => (intOf v3).toNat)
  case atStart =>
    refine ⟨FieldM.wid n, Nat.le_refl _, by rw [HW.out], ?_, (Frm.refl _ _).alloc _⟩
    rw [Nat.sub_self, FieldM.pre_zero, HW.out]
    have e : Value.int .u8 (FieldM.wid n : Int) = bv (UInt8.ofNat (FieldM.wid n)) := bv_eq (by rw [UInt8.toNat_ofNat']; omega)
    rw [e]
    exact sl_new w' _ [bv (UInt8.ofNat (FieldM.wid n))] _ (Nat.le_refl _) (by simp [maxLen])
  case round =>
    obtain ⟨r, hr, rfl, hsl, hfr⟩ := hrel
    have hsz := hfr.size
    by_cases h0 : 0 < r
    · go_wp2_with (at_builtin; refine wpList_append_sl _ rfl (.tmp 16) (.tmp 22) _ rfl w'.heap.size 5 i0 _ 1 1 Try.underlying26 hi hz0 hz1 hz2 rfl (by omega) _ _ _ rfl (hsl.alloc _) _ _ 1 1 _ rfl rfl (rd_one _ _ _) ?c1 ?c2 ?c3 ?c4 ?_)
      case c1 => intro u hu; simp at hu; subst hu; rfl
      case c2 => unfold maxLen; omega
      case c3 => omega
      case c4 => simp; omega
      intro v2 w2 hs2 hf2 _
      have hb : Value.int IntKind.u8 ((n : Int) / 2 ^ (8 * (r - 1)) % 256) = bv (UInt8.ofNat (n / 256 ^ (r - 1) % 256)) := bv_eq (FieldM.shr_byte n (r - 1))
      rw [hb] at hs2 hf2
      have hs3 : Sl w2 w'.heap.size 5 1 v2 (FieldM.wid n - (r - 1) + 1) ((FieldM.pre n (FieldM.wid n - (r - 1))).map bv) := by
        rw [FieldM.pre_step h0 hr, List.map_append, show FieldM.wid n - (r - 1) + 1 = FieldM.wid n - r + 1 + 1 by omega]
        exact hs2
      have hf3 : Fresh w' w2 := (hfr.alloc _).trans' hf2 (fun i hi hk => by have := hsl.lt i hk; omega)
      clear hs2 hf2 hb
      go_wp2
      go_roundw
      case rel => exact ⟨r - 1, by omega, by go_num, hs3, hf3⟩
      case measure => simp [intOf]; omega
    · obtain rfl : r = 0 := by omega
      go_wp2
      go_ret
      refine ⟨_, rfl, ?_, hfr⟩
      rw [Nat.sub_zero, FieldM.pre_all] at hsl
      rw [FieldM.num_length]
      exact hsl

end Go.Proofs.Ytlceembcehokoaa

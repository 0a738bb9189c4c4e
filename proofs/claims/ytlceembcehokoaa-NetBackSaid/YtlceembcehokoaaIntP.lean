/- What the program's Int computes. (Out of XField.) -/
import Derived.Test.YtlceembcehokoaaNumP
namespace Go.Proofs.Ytlceembcehokoaa
open Go.RowKit

theorem u8_or16 (k : Nat) (h : k ≤ 8) : bits .or .u8 (k : Int) 16 = ((k + 16 : Nat) : Int) := by
  have h1 := u8_or_nat k 16 (by omega) (by omega)
  have : ∀ k : Fin 9, k.1 ||| 16 = k.1 + 16 := by decide
  rw [this ⟨k, by omega⟩] at h1
  exact h1
theorem u64_negneg (n : Nat) (h0 : 0 < n) (h : n ≤ 9223372036854775808) : IntKind.u64.wrap (-IntKind.u64.wrap (-(n : Int))) = n := by
  rw [IntKind.wrap_u64, IntKind.wrap_u64]; omega
theorem int_neg_eq {n : Nat} (h0 : 0 < n) : FieldM.int (-(n : Int)) = UInt8.ofNat (FieldM.wid n + 16) :: FieldM.be (FieldM.wid n) n := by
  unfold FieldM.int
  rw [if_neg (by omega), show (- -(n : Int)).toNat = n by omega]
theorem int_store {w : World} {B e g o cap n : Nat} (h0 : 0 < n) (hw : FieldM.wid n ≤ 8) (h : Sl w B e 1 (.slice (some ⟨g, o, none⟩) (FieldM.num n).length cap) (FieldM.num n).length ((FieldM.num n).map bv)) {x : Int} (hx : x = ((FieldM.wid n + 16 : Nat) : Int)) :
    Sl (w.setCell ⟨g, o, none⟩ (.int .u8 x)) B e 1 (.slice (some ⟨g, o, none⟩) (FieldM.num n).length cap) (FieldM.int (-(n : Int))).length ((FieldM.int (-(n : Int))).map bv) := by
  have hs := h.store (j := 0) (by simp [FieldM.num_length]) (.int .u8 x)
  rw [Nat.add_zero] at hs
  have hl : (FieldM.int (-(n : Int))).length = (FieldM.num n).length := by rw [int_neg_eq h0, FieldM.num]; rfl
  rw [hl]
  have he : ((FieldM.num n).map bv).set 0 (.int .u8 x) = (FieldM.int (-(n : Int))).map bv := by
    rw [int_neg_eq h0, FieldM.num]
    have hb : Value.int .u8 x = bv (UInt8.ofNat (FieldM.wid n + 16)) := bv_eq (by rw [UInt8.toNat_ofNat', hx]; omega)
    simp [hb]
  rwa [he] at hs
theorem frm_own {w w1 : World} {g o : Nat} (hf : Fresh w w1) (hg : w.heap.size ≤ g) (u : Value) : Fresh w (w1.setCell ⟨g, o, none⟩ u) := Frm.setCell hf (p := ⟨g, o, none⟩) (fun h => by simp at h; omega) u
theorem num_cell0 {w : World} {B e g o cap n : Nat} (hw : FieldM.wid n ≤ 8) (h : Sl w B e 1 (.slice (some ⟨g, o, none⟩) (FieldM.num n).length cap) (FieldM.num n).length ((FieldM.num n).map bv)) : w.cell? ⟨g, o, none⟩ = some (.int .u8 (FieldM.wid n : Int)) := by
  have hc := h.cell (j := 0) (by simp [FieldM.num_length])
  rw [Nat.add_zero] at hc
  rw [hc]
  simp [FieldM.num, bv]
  omega
set_option maxHeartbeats 400000 in
theorem int_neg (n : Nat) (h0 : 0 < n) (hn : n ≤ 9223372036854775808) (w : World) :
    Calls Try.prog 39 #[.int .i64 (-(n : Int))] w fun e w' => ∃ v, e = .returned v ∧ Sl w' w.heap.size 5 1 v (FieldM.int (-(n : Int))).length ((FieldM.int (-(n : Int))).map bv) ∧ Fresh w w' := by
  have hw := FieldM.wid_le (n := n) (by omega)
  have K := Lib.hid (fun w => number_any n (by omega) w)
  have e1 := u64_negneg n h0 hn
  clear hn
  go_enter Try.func39, Try.ntmps39
  go_wp2_with fail
  refine (K.out _).mono ?_
  rintro e w1 ⟨v1, rfl, hs1, hf1⟩
  obtain ⟨g, o, cap, rfl, hg1, hg2, hcap, hmax⟩ := hs1.head (by rw [FieldM.num_length]; omega)
  have hf := hs1.frozen (j := o)
  have hlen : (0 : Int) < ((FieldM.num n).length : Int) := by rw [FieldM.num_length]; omega
  have hc := num_cell0 hw hs1
  have e2 := u8_or16 _ hw
  go_wp2
  go_ret
  exact ⟨_, rfl, int_store h0 hw hs1 (by first | rfl | omega), frm_own hf1 hg1 _⟩
set_option maxHeartbeats 400000 in
theorem int_pos (n : Nat) (hn : n ≤ 9223372036854775807) (w : World) :
    Calls Try.prog 39 #[.int .i64 (n : Int)] w fun e w' => ∃ v, e = .returned v ∧ Sl w' w.heap.size 5 1 v (FieldM.int (n : Int)).length ((FieldM.int (n : Int)).map bv) ∧ Fresh w w' := by
  have K := Lib.hid (fun w => number_any n (by omega) w)
  have e : FieldM.int (n : Int) = FieldM.num n := by unfold FieldM.int; rw [if_pos (by omega), Int.toNat_natCast]
  rw [e]
  clear e
  go_enter Try.func39, Try.ntmps39
  go_wp2_with fail
  refine (K.out _).mono ?_
  rintro e w1 ⟨v1, rfl, hs1, hf1⟩
  go_wp2
  go_ret
  exact ⟨_, rfl, hs1, hf1⟩
set_option maxHeartbeats 400000 in
theorem int_any (x : Int) (h1 : -9223372036854775808 ≤ x) (h2 : x ≤ 9223372036854775807) (w : World) :
    Calls Try.prog 39 #[.int .i64 x] w fun e w' => ∃ v, e = .returned v ∧ Sl w' w.heap.size 5 1 v (FieldM.int x).length ((FieldM.int x).map bv) ∧ Fresh w w' := by
  rcases Int.lt_or_le x 0 with h | h
  · obtain ⟨n, rfl⟩ : ∃ n : Nat, x = -(n : Int) := ⟨x.natAbs, by omega⟩
    exact int_neg n (by omega) (by omega) w
  · obtain ⟨n, rfl⟩ := Int.eq_ofNat_of_zero_le h
    exact int_pos n (by omega) w
end Go.Proofs.Ytlceembcehokoaa

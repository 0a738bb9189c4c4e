/- What Add, Sum and Join answer, of the program and of the reference. -/
import Derived.Test.YtlceembcehokoaaCrc
namespace Go.Proofs.Ytlceembcehokoaa.Rc
set_option maxRecDepth 100000
open Go.RowKit

theorem not_u32 (x : BitVec 32) : bits .xor .u32 IntKind.u32.max (x.toNat : Int) = ((~~~x).toNat : Int) := by
  have h := xor_u32 (BitVec.allOnes 32) x
  rw [BitVec.allOnes_xor] at h
  exact h
theorem xor_ones (x : BitVec 32) : bits .xor .u32 (x.toNat : Int) 4294967295 = ((~~~x).toNat : Int) := by
  have h := xor_u32 x (BitVec.allOnes 32)
  rw [BitVec.xor_allOnes] at h
  exact h
/-- the table's row for a byte of a number and a byte -/
def idx (r : BitVec 32) (c : UInt8) : Nat := ((r &&& 255#32) ^^^ CrcM.ext c).toNat
theorem and255 (r : BitVec 32) : (r &&& 255#32).toNat = r.toNat % 256 := by
  rw [BitVec.toNat_and]
  have h : (255#32).toNat = 2 ^ 8 - 1 := by decide
  rw [h, Nat.and_two_pow_sub_one_eq_mod]
theorem idx_eq (r : BitVec 32) (c : UInt8) : idx r c = (r.toNat % 256) ^^^ c.toNat := by
  unfold idx
  rw [BitVec.toNat_xor, and255, CrcM.ext_toNat]
theorem idx_lt (r : BitVec 32) (c : UInt8) : idx r c < 256 := by
  rw [idx_eq]
  have := c.toNat_lt
  exact Nat.xor_lt_two_pow (n := 8) (by omega) (by omega)
theorem idx_u8 (r : BitVec 32) (c : UInt8) : bits .xor .u8 ((r.toNat : Int) % 256) (c.toNat : Int) = (idx r c : Int) := by
  have := c.toNat_lt
  have h := u8_xor_nat (r.toNat % 256) c.toNat (by omega) (by omega)
  rw [idx_eq]
  exact h
theorem ofNat_idx (r : BitVec 32) (c : UInt8) : BitVec.ofNat 32 (idx r c) = (r &&& 255#32) ^^^ CrcM.ext c := by
  unfold idx
  exact BitVec.ofNat_toNat 32 _ |>.trans (BitVec.setWidth_eq _)
theorem upd_u32 (r : BitVec 32) (c : UInt8) : bits .xor .u32 ((r.toNat : Int) / 256) ((CrcM.it CrcM.step 8 (BitVec.ofNat 32 (idx r c))).toNat : Int) = ((CrcM.upd r c).toNat : Int) := by
  rw [CrcM.upd_table, ofNat_idx, ← xor_u32]
  congr 1
  rw [BitVec.toNat_ushiftRight, Nat.shiftRight_eq_div_pow]
  rfl
theorem run_take (r : BitVec 32) (l : List UInt8) (k : Nat) (h : k < l.length) : CrcM.run r (l.take (k + 1)) = CrcM.upd (CrcM.run r (l.take k)) l[k] := by
  rw [List.take_succ_eq_append_getElem h, CrcM.run_snoc]

set_option maxHeartbeats 800000 in
theorem add_any (s : BitVec 32) (A : Option Addr) (cap : Nat) (bs : List UInt8) (w : World) (hb : Rd w w.heap.size A (bs.map bv)) (hl : bs.length ≤ 140737488351232) :
    Calls Try.prog 81 #[.int .u32 (s.toNat : Int), .slice A bs.length cap] w fun e w' => e = .returned (.int .u32 ((CrcM.add s bs).toNat : Int)) ∧ Fresh w w' := by
  have HB := Lib.hid hb
  have hzt := zero_tab
  have hs := bv_lt s
  obtain ⟨ns, hns⟩ : ∃ ns, ns = ~~~s := ⟨_, rfl⟩
  have hn := not_u32 s
  rw [← hns] at hn
  obtain ⟨nr, hnr⟩ : ∃ nr, nr = ~~~CrcM.run ns bs := ⟨_, rfl⟩
  have hn2 := not_u32 (CrcM.run ns bs)
  rw [← hnr] at hn2
  have HA : Hid (CrcM.add s bs = nr) := by unfold CrcM.add; rw [← hns, ← hnr]; exact rfl
  have hrl := bv_lt (CrcM.run ns bs)
  rw [show CrcM.add s bs = nr from HA.out]
  clear hb hns hnr
  go_enter Try.func81, Try.ntmps81
  go_wp2_with fail
  refine (table_any _).mono ?_
  rintro e w1 ⟨cs, rfl, ⟨hsz, hcs, h1⟩, hf1⟩
  have HS := Lib.hid hsz
  have HC := Lib.hid hcs
  have H1 := Lib.hid h1
  clear hsz hcs h1
  go_wp2_with (with_reducible refine wpList_store_mid rfl 137 (.tmp 5) (.tmp 9) rfl w1.heap.size 0 cs rfl rfl ?st ?si ?s1 ?_)
  case st =>
    intro j hj
    have hj2 : j < zeros256.size := by rw [zeros256_size]; have := HS.out; omega
    rw [Nat.zero_add, (Blk.new w1 137 zeros256).cell, (Blk.new w1 137 zeros256).frozen, Array.getElem?_eq_getElem hj2]
    exact ⟨rfl, rfl⟩
  case si => rw [HS.out]; kernel_rfl
  case s1 => have := all_oneCell_toArray H1.out; simpa using this
  have hb2 : Blk ((w1.alloc (.cells zeros256 137)).setCells w1.heap.size 0 cs.toList) w1.heap.size 137 cs := by
    have := blk_setAll (Blk.new w1 137 zeros256) (vs := cs.toList) (by rw [Array.length_toList, HS.out, zeros256_size])
    simpa using this
  have hf2 : Fresh w ((w1.alloc (.cells zeros256 137)).setCells w1.heap.size 0 cs.toList) := (hf1.alloc _).trans' (frm_setCells w1.heap.size cs.toList 0 _) (fun i hi he => by have := hf1.size; omega)
  have ht2 : TabTo ((w1.alloc (.cells zeros256 137)).setCells w1.heap.size 0 cs.toList) w1.heap.size 256 := ⟨cs, hb2, HS.out, HC.out, H1.out⟩
  generalize (w1.alloc (.cells zeros256 137)).setCells w1.heap.size 0 cs.toList = w2 at *
  have HT := Lib.hid ht2
  clear hb2 ht2 hzt
  go_wp2_with fail
  go_loopw [6, 14] (fun v6 v14 wr => ∃ k : Nat, k ≤ bs.length ∧ v14 = .int .i64 (k : Int) ∧ v6 = .int .u32 ((CrcM.run (ns) (bs.take k)).toNat : Int) ∧ w2 = wr) (fun _ v14 _ => bs.length - (intOf v14).toNat)
  case atStart => exact ⟨0, by omega, rfl, by rw [List.take_zero]; rfl, by first | rfl | trivial⟩
  case round =>
    obtain ⟨k, hk, rfl, rfl, rfl⟩ := hrel
    by_cases h : k < bs.length
    · obtain ⟨b, o, rfl, hb, hc⟩ := (HB.out.fresh (Nat.le_refl _) hf2).at_ (k := k) (by simpa using h)
      have hc2 : w2.cell? ⟨b, o + k, none⟩ = some (.int .u8 ((bs[k]).toNat : Int)) := by rw [hc]; simp [bv]
      have ht := HT.out.cell (idx_lt (CrcM.run (ns) (bs.take k)) bs[k])
      have hi := idx_u8 (CrcM.run (ns) (bs.take k)) bs[k]
      have hi1 : (idx (CrcM.run (ns) (bs.take k)) bs[k] : Int) < 256 := by have := idx_lt (CrcM.run (ns) (bs.take k)) bs[k]; omega
      have HR := Lib.hid (run_take (ns) bs k h)
      have HU := Lib.hid (upd_u32 (CrcM.run (ns) (bs.take k)) bs[k])
      have hrl := bv_lt (CrcM.run (ns) (bs.take k))
      clear hc hb
      generalize idx (CrcM.run (ns) (bs.take k)) bs[k] = x at *
      generalize CrcM.run (ns) (bs.take k) = r at *
      generalize bs[k] = c at *
      go_wp2_with fail
      go_roundw
      case rel => exact ⟨k + 1, by omega, by go_num, by rw [HR.out, ← HU.out], by first | rfl | trivial⟩
      case measure => simp [intOf]; omega
    · obtain rfl : k = bs.length := by omega
      rw [List.take_length]
      go_wp2_with fail
      go_ret
      exact ⟨rfl, hf2⟩

theorem ext_u32 (r : BitVec 32) (c : UInt8) : bits .xor .u32 (r.toNat : Int) (c.toNat : Int) = ((r ^^^ CrcM.ext c).toNat : Int) := by
  rw [← xor_u32, CrcM.ext_toNat]
set_option maxHeartbeats 800000 in
theorem refAdd_any (s : BitVec 32) (A : Option Addr) (cap : Nat) (bs : List UInt8) (w : World) (hb : Rd w w.heap.size A (bs.map bv)) (hl : bs.length ≤ 140737488351232) :
    Calls Try.prog 112 #[.int .u32 (s.toNat : Int), .slice A bs.length cap] w fun e w' => e = .returned (.int .u32 ((CrcM.add s bs).toNat : Int)) ∧ w = w' := by
  have HB := Lib.hid hb
  have hs := bv_lt s
  obtain ⟨ns, hns⟩ : ∃ ns, ns = ~~~s := ⟨_, rfl⟩
  have hn := xor_ones s
  rw [← hns] at hn
  obtain ⟨nr, hnr⟩ : ∃ nr, nr = ~~~CrcM.run ns bs := ⟨_, rfl⟩
  have hn2 := xor_ones (CrcM.run ns bs)
  rw [← hnr] at hn2
  have HA : Hid (CrcM.add s bs = nr) := by unfold CrcM.add; rw [← hns, ← hnr]; exact rfl
  have hrl := bv_lt (CrcM.run ns bs)
  rw [show CrcM.add s bs = nr from HA.out]
  clear hb hns hnr
  go_enter Try.func112, Try.ntmps112
  go_wp2_with fail
  go_loop [5, 6] (fun v5 v6 => ∃ k : Nat, k ≤ bs.length ∧ v6 = .int .i64 (k : Int) ∧ v5 = .int .u32 ((CrcM.run ns (bs.take k)).toNat : Int)) (fun _ v6 => bs.length - (intOf v6).toNat)
  case atStart => exact ⟨0, by omega, rfl, by rw [List.take_zero]; rfl⟩
  case round =>
    obtain ⟨k, hk, rfl, rfl⟩ := hrel
    by_cases h : k < bs.length
    · obtain ⟨b, o, rfl, hb, hc⟩ := HB.out.at_ (k := k) (by simpa using h)
      have hc2 : w.cell? ⟨b, o + k, none⟩ = some (.int .u8 ((bs[k]).toNat : Int)) := by rw [hc]; simp [bv]
      have HR := Lib.hid (run_take ns bs k h)
      have hx := ext_u32 (CrcM.run ns (bs.take k)) bs[k]
      have hrl := bv_lt (CrcM.run ns (bs.take k))
      have hcl := (bs[k]).toNat_lt
      have HU : Hid (CrcM.upd (CrcM.run ns (bs.take k)) bs[k] = CrcM.it CrcM.step 8 (CrcM.run ns (bs.take k) ^^^ CrcM.ext bs[k])) := rfl
      clear hc hb
      generalize CrcM.run ns (bs.take k) ^^^ CrcM.ext bs[k] = y at *
      generalize CrcM.run ns (bs.take k) = r at *
      generalize bs[k] = c at *
      go_wp2_with fail
      go_loop [5, 7] (fun v5 v7 => ∃ j : Nat, j ≤ 8 ∧ v7 = .int .i64 (j : Int) ∧ v5 = .int .u32 ((CrcM.it CrcM.step j y).toNat : Int)) (fun _ v7 => 8 - (intOf v7).toNat)
      case atStart => exact ⟨0, by omega, rfl, by rw [CrcM.it_zero]⟩
      case round =>
        obtain ⟨j, hj, rfl, rfl⟩ := hrel
        by_cases h8 : j < 8
        · have hji : (j : Int) < 8 := by omega
          go_wp2_with fail
          refine (step_any _ _).mono ?_
          rintro e w' ⟨rfl, hw⟩
          rw [hw]
          clear hw
          go_wp2_with fail
          go_round
          case rel => exact ⟨j + 1, by omega, by go_num, by rw [CrcM.it_succ']⟩
          case measure => simp [intOf]; omega
        · obtain rfl : j = 8 := by omega
          go_wp2_with fail
          go_round
          case rel => exact ⟨k + 1, by omega, by go_num, by rw [HR.out, HU.out]⟩
          case measure => simp [intOf]; omega
    · obtain rfl : k = bs.length := by omega
      rw [List.take_length]
      go_wp2_with fail
      go_ret
      exact ⟨rfl, rfl⟩
theorem sum_any (A : Option Addr) (cap : Nat) (bs : List UInt8) (w : World) (hb : Rd w w.heap.size A (bs.map bv)) (hl : bs.length ≤ 140737488351232) :
    Calls Try.prog 82 #[.slice A bs.length cap] w fun e w' => e = .returned (.int .u32 ((CrcM.sum bs).toNat : Int)) ∧ Fresh w w' := by
  have K := Lib.hid (add_any 0#32 A cap bs w hb hl)
  clear hb
  go_enter Try.func82, Try.ntmps82
  go_wp2_with fail
  refine K.out.mono ?_
  rintro e w1 ⟨rfl, hf⟩
  go_wp2_with fail
  go_ret
  exact ⟨rfl, hf⟩
theorem refSum_any (A : Option Addr) (cap : Nat) (bs : List UInt8) (w : World) (hb : Rd w w.heap.size A (bs.map bv)) (hl : bs.length ≤ 140737488351232) :
    Calls Try.prog 88 #[.slice A bs.length cap] w fun e w' => e = .returned (.int .u32 ((CrcM.sum bs).toNat : Int)) ∧ w = w' := by
  have K := Lib.hid (refAdd_any 0#32 A cap bs w hb hl)
  clear hb
  go_enter Try.func88, Try.ntmps88
  go_wp2_with fail
  refine K.out.mono ?_
  rintro e w1 ⟨rfl, rfl⟩
  go_wp2_with fail
  go_ret
  exact ⟨rfl, rfl⟩
end Go.Proofs.Ytlceembcehokoaa.Rc

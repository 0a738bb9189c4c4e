/- What the check sum's parts answer: a step, a matrix done at a number, a matrix squared, the table, Add, Sum, Join, of the program and of the reference. -/
import Derived.Test.YtlceembcehokoaaOpen
import Derived.Test.YtlceembcehokoaaCrcMath
import Derived.Test.YtlceembcehokoaaRows
import Derived.Handy
import Derived.WalkLawsBesides
import Derived.Deep.QuietTactic
import Derived.BigQuiet
import Derived.Deep.MidRow
import Derived.Laws.BitsAllLaws
import Derived.Laws.BitsLemmas
namespace Go.Proofs.Ytlceembcehokoaa.Rc
set_option maxRecDepth 100000
open Go.RowKit

/-- a number of 32 bits as a value -/
def uv (x : BitVec 32) : Value := .int .u32 (x.toNat : Int)
theorem uv_eq {a : Int} {x : BitVec 32} (h : a = (x.toNat : Int)) : Value.int .u32 a = uv x := by rw [h]; rfl
theorem ret_u32 {a b : Int} (h : a = b) : Ending.returned (.int .u32 a) = .returned (.int .u32 b) := by rw [h]
theorem bv_lt (x : BitVec 32) : x.toNat < 4294967296 := x.isLt
theorem xor_u32 (x y : BitVec 32) : bits .xor .u32 (x.toNat : Int) (y.toNat : Int) = ((x ^^^ y).toNat : Int) := by
  rw [u32_xor_nat _ _ x.isLt y.isLt, BitVec.toNat_xor]
theorem and_u32 (x y : BitVec 32) : bits .and .u32 (x.toNat : Int) (y.toNat : Int) = ((x &&& y).toNat : Int) := by
  rw [u32_and_nat _ _ x.isLt y.isLt, BitVec.toNat_and]

theorem step_toNat (x : BitVec 32) : (CrcM.step x).toNat = if x.toNat % 2 = 1 then (x.toNat / 2) ^^^ 2197175160 else x.toNat / 2 := by
  unfold CrcM.step
  have h0 : x.getLsbD 0 = decide (x.toNat % 2 = 1) := by
    rw [BitVec.getLsbD, Nat.testBit_zero]
  rw [h0]
  by_cases h : x.toNat % 2 = 1
  · rw [if_pos h, decide_eq_true h, if_pos rfl, BitVec.toNat_xor, BitVec.toNat_ushiftRight, Nat.shiftRight_eq_div_pow]
    rfl
  · rw [if_neg h, decide_eq_false h]
    simp [Nat.shiftRight_eq_div_pow]

theorem step_any (x : BitVec 32) (w : World) : Calls Try.prog 124 #[.int .u32 (x.toNat : Int)] w fun e w' => e = .returned (.int .u32 ((CrcM.step x).toNat : Int)) ∧ w' = w := by
  rw [step_toNat]
  have hx := bv_lt x
  generalize x.toNat = n at *
  by_cases h : n % 2 = 1
  · rw [if_pos h]
    have h1 : ((n : Int) % 2 == 1) = true := by rw [beq_iff_eq]; omega
    have h2 := u32_xor_nat (n / 2) 2197175160 (by omega) (by omega)
    have h3 : bits .xor .u32 ((n : Int) / 2) 2197175160 = ((n / 2 ^^^ 2197175160 : Nat) : Int) := h2
    clear h h2
    have H3 := Lib.hid h3
    clear h3
    go_enter Try.func124, Try.ntmps124
    go_wp2
    go_ret
    exact ⟨ret_u32 H3.out, rfl⟩
  · rw [if_neg h]
    have h1 : ((n : Int) % 2 == 1) = false := by rw [beq_eq_false_iff_ne]; omega
    clear h
    go_enter Try.func124, Try.ntmps124
    go_wp2
    go_ret
    exact ⟨ret_u32 (by omega), rfl⟩

theorem times_step (acc mk r : BitVec 32) (k : Nat) :
    bits .xor .u32 (acc.toNat : Int) (bits .and .u32 (mk.toNat : Int) (-bits .and .u32 ((r.toNat : Int) / 2 ^ k) 1 % 4294967296)) = ((acc ^^^ (if r.getLsbD k then mk else 0#32)).toNat : Int) := by
  have hd : r.toNat / 2 ^ k < 4294967296 := Nat.lt_of_le_of_lt (Nat.div_le_self _ _) r.isLt
  have e0 : ((r.toNat : Int) / 2 ^ k) = ((r.toNat / 2 ^ k : Nat) : Int) := rfl
  have e1 : bits .and .u32 ((r.toNat : Int) / 2 ^ k) 1 = ((r.toNat / 2 ^ k % 2 : Nat) : Int) := by
    rw [e0]
    have := u32_and_nat (r.toNat / 2 ^ k) 1 hd (by omega)
    rw [nat_mask1] at this
    exact this
  have e2 : r.getLsbD k = decide (r.toNat / 2 ^ k % 2 = 1) := by
    rw [BitVec.getLsbD, Nat.testBit_eq_decide_div_mod_eq]
  rw [e1, e2]
  have h2 : r.toNat / 2 ^ k % 2 = 0 ∨ r.toNat / 2 ^ k % 2 = 1 := by omega
  rcases h2 with h | h
  · rw [h]
    have e3 := and_u32 mk 0#32
    rw [BitVec.and_zero] at e3
    have e4 : (-((0 : Nat) : Int) % 4294967296) = ((0#32).toNat : Int) := rfl
    rw [e4, e3, xor_u32]
    rfl
  · rw [h]
    have e3 := and_u32 mk (BitVec.allOnes 32)
    rw [BitVec.and_allOnes] at e3
    have e4 : (-((1 : Nat) : Int) % 4294967296) = ((BitVec.allOnes 32).toNat : Int) := by decide
    rw [e4, e3, xor_u32]
    rfl

/-- a matrix of 32 rows in a block of its own -/
def Mat (w : World) (g : Nat) (m : Nat → BitVec 32) : Prop := ∃ cs : Array Value, Blk w g 150 cs ∧ cs.size = 32 ∧ ∀ i, i < 32 → cs[i]? = some (uv (m i))
theorem Mat.cell {w : World} {g : Nat} {m : Nat → BitVec 32} (h : Mat w g m) {i : Nat} (hi : i < 32) : w.cell? ⟨g, i, none⟩ = some (.int .u32 ((m i).toNat : Int)) := by
  obtain ⟨cs, hb, _, hc⟩ := h
  rw [hb.cell, hc i hi]; rfl
theorem Mat.frm {S : Nat → Prop} {w w' : World} {g : Nat} {m : Nat → BitVec 32} (h : Mat w g m) (hf : Frm S w w') (hn : ¬ S g) : Mat w' g m := by
  obtain ⟨cs, hb, hr⟩ := h
  exact ⟨cs, hb.frm hf hn, hr⟩
theorem Mat.lt {w : World} {g : Nat} {m : Nat → BitVec 32} (h : Mat w g m) : g < w.heap.size := by
  obtain ⟨cs, hb, _⟩ := h
  exact hb.lt

set_option maxHeartbeats 400000 in
theorem times_any (g : Nat) (m : Nat → BitVec 32) (r : BitVec 32) (w : World) (hm : Mat w g m) :
    Calls Try.prog 120 #[.pointer (some ⟨g, 0, none⟩), .int .u32 (r.toNat : Int)] w fun e w' => e = .returned (.int .u32 ((CrcM.comb m r 32).toNat : Int)) ∧ ∃ n, w' = w.drewN n := by
  have hr := bv_lt r
  have HM := Lib.hid hm
  clear hm
  go_enter Try.func120, Try.ntmps120
  go_wp2_with fail
  go_loopw [5, 7] (fun v5 v7 wr => ∃ k n : Nat, k ≤ 32 ∧ v7 = .int .i64 (k : Int) ∧ v5 = .int .u32 ((CrcM.comb m r k).toNat : Int) ∧ w.drewN n = wr) (fun _ v7 _ => 32 - (intOf v7).toNat)
  case atStart => exact ⟨0, 0, by omega, rfl, rfl, rfl⟩
  case round =>
    obtain ⟨k, n, hk, rfl, rfl, rfl⟩ := hrel
    by_cases h : k < 32
    · have hc := HM.out.cell h
      have hc1 : ∀ q, (w.drewN q).cell? ⟨g, k, none⟩ = some (.int .u32 ((m k).toNat : Int)) := fun q => hc
      have hki : (k : Int) < 32 := by omega
      have hk0 : (0 : Int) ≤ k := by omega
      go_wp2_with fail
      go_quiet (fail)
      go_wp2_with fail
      go_roundw
      case rel => exact ⟨k + 1, n + nq, by omega, by go_num, by rw [times_step]; rfl, rfl⟩
      case measure => simp [intOf]; omega
    · obtain rfl : k = 32 := by omega
      go_wp2
      go_ret
      exact ⟨rfl, _, rfl⟩

/-- as far as row k -/
def MatTo (w : World) (g : Nat) (m : Nat → BitVec 32) (k : Nat) : Prop := ∃ cs : Array Value, Blk w g 150 cs ∧ cs.size = 32 ∧ ∀ i, i < k → cs[i]? = some (uv (m i))
theorem MatTo.all {w : World} {g : Nat} {m : Nat → BitVec 32} (h : MatTo w g m 32) : Mat w g m := h
theorem MatTo.drew {w : World} {g k : Nat} {m : Nat → BitVec 32} (h : MatTo w g m k) : MatTo w.drew g m k := h
theorem MatTo.drewN {w : World} {g k : Nat} {m : Nat → BitVec 32} (h : MatTo w g m k) (n : Nat) : MatTo (w.drewN n) g m k := h
theorem MatTo.some {w : World} {g k : Nat} {m : Nat → BitVec 32} (h : MatTo w g m k) {i : Nat} (hi : i < 32) : ∃ v, w.cell? ⟨g, i, none⟩ = some v := by
  obtain ⟨cs, hb, hs, _⟩ := h
  exact ⟨cs[i], by rw [hb.cell]; exact Array.getElem?_eq_getElem (by omega)⟩
theorem MatTo.free {w : World} {g k : Nat} {m : Nat → BitVec 32} (h : MatTo w g m k) (i : Nat) : w.frozen? ⟨g, i, none⟩ = false := by
  obtain ⟨cs, hb, _⟩ := h
  exact hb.frozen i
theorem MatTo.set {w : World} {g k : Nat} {m : Nat → BitVec 32} (h : MatTo w g m k) (hk : k < 32) {v : Value} (hv : v = uv (m k)) : MatTo (w.setCell ⟨g, k, none⟩ v) g m (k + 1) := by
  obtain ⟨cs, hb, hs, hc⟩ := h
  refine ⟨_, hb.set k v, by simpa using hs, fun i hi => ?_⟩
  rw [Array.getElem?_setIfInBounds]
  by_cases he : k = i
  · subst he; rw [if_pos rfl, if_pos (by omega), hv]
  · rw [if_neg he]; exact hc i (by omega)
theorem MatTo.frm {S : Nat → Prop} {w w' : World} {g k : Nat} {m : Nat → BitVec 32} (h : MatTo w g m k) (hf : Frm S w w') (hn : ¬ S g) : MatTo w' g m k := by
  obtain ⟨cs, hb, hr⟩ := h
  exact ⟨cs, hb.frm hf hn, hr⟩
theorem Mat.drewN {w : World} {g : Nat} {m : Nat → BitVec 32} (h : Mat w g m) (n : Nat) : Mat (w.drewN n) g m := h

theorem step_bit (k : Nat) (h : k < 31) : CrcM.step (CrcM.bit (k + 1)) = CrcM.bit k := by
  have : ∀ k : Fin 31, CrcM.step (CrcM.bit (k.1 + 1)) = CrcM.bit k.1 := by decide +kernel
  exact this ⟨k, h⟩
theorem bit_value (k : Nat) (h : k < 31) : Value.int .u32 (2 ^ k % 4294967296) = uv (CrcM.step (CrcM.bit (k + 1))) := by
  rw [step_bit k h]
  refine uv_eq ?_
  have : ∀ k : Fin 31, (2 : Int) ^ k.1 % 4294967296 = ((CrcM.bit k.1).toNat : Int) := by decide +kernel
  exact this ⟨k, h⟩
set_option maxHeartbeats 800000 in
theorem stepped_any (w : World) :
    Calls Try.prog 118 #[] w fun e w' => ∃ g, e = .returned (.pointer (some ⟨g, 0, none⟩)) ∧ w.heap.size ≤ g ∧ Mat w' g (fun i => CrcM.step (CrcM.bit i)) ∧ Fresh w w' := by
  go_enter Try.func118, Try.ntmps118
  go_wp2_with fail
  go_loopw [5] (fun v5 wr => ∃ k : Nat, k ≤ 31 ∧ v5 = .int .i64 (k : Int) ∧ MatTo wr w.heap.size (fun i => CrcM.step (CrcM.bit i)) (k + 1) ∧ Fresh w wr) (fun v5 _ => 31 - (intOf v5).toNat)
  case atStart =>
    refine ⟨0, by omega, rfl, ⟨_, Blk.new _ _ _, by rfl, fun i hi => ?_⟩, (Frm.refl _ _).alloc _⟩
    obtain rfl : i = 0 := by omega
    rfl
  case round =>
    obtain ⟨k, hk, rfl, hm, hfr⟩ := hrel
    by_cases h : k < 31
    · obtain ⟨v0, hc⟩ := hm.some (i := k + 1) (by omega)
      have hf := hm.free (k + 1)
      have hki : (k : Int) < 31 := by omega
      have hk0 : (0 : Int) ≤ k := by omega
      have HM := Lib.hid hm
      clear hm
      go_wp2_with fail
      go_region
      go_wp2_with fail
      go_roundw
      case rel => exact ⟨k + 1, by omega, by go_num, (HM.out.set (by omega) (bit_value k (by omega))).drew, (hfr.setCell (p := ⟨w.heap.size, k + 1, none⟩) (fun h => by simp at h) _).drew⟩
      case measure => simp [intOf]; omega
    · obtain rfl : k = 31 := by omega
      go_wp2
      go_ret
      exact ⟨_, rfl, Nat.le_refl _, hm, hfr⟩
set_option maxHeartbeats 800000 in
theorem squared_any (g : Nat) (m : Nat → BitVec 32) (w : World) (hm : Mat w g m) :
    Calls Try.prog 119 #[.pointer (some ⟨g, 0, none⟩)] w fun e w' => ∃ g', e = .returned (.pointer (some ⟨g', 0, none⟩)) ∧ w.heap.size ≤ g' ∧ Mat w' g' (fun i => CrcM.comb m (m i) 32) ∧ Fresh w w' := by
  have HM0 := Lib.hid hm
  have hg := hm.lt
  clear hm
  go_enter Try.func119, Try.ntmps119
  go_wp2_with fail
  go_loopw [7] (fun v7 wr => ∃ k : Nat, k ≤ 32 ∧ v7 = .int .i64 (k : Int) ∧ MatTo wr w.heap.size (fun i => CrcM.comb m (m i) 32) k ∧ Fresh w wr) (fun v7 _ => 32 - (intOf v7).toNat)
  case atStart => exact ⟨0, by omega, rfl, ⟨_, Blk.new _ _ _, by rfl, fun i hi => by omega⟩, (Frm.refl _ _).alloc _⟩
  case round =>
    obtain ⟨k, hk, rfl, hm, hfr⟩ := hrel
    by_cases h : k < 32
    · have hmg := HM0.out.frm hfr (fun f => f)
      have hc := hmg.cell h
      have hc1 : ∀ q, (wr.drewN q).cell? ⟨g, k, none⟩ = some (.int .u32 ((m k).toNat : Int)) := fun q => hc
      have hki : (k : Int) < 32 := by omega
      have hk0 : (0 : Int) ≤ k := by omega
      have HMG := Lib.hid hmg
      have HM := Lib.hid hm
      clear hm hmg
      go_wp2_with fail
      go_quiet (fail)
      go_wp2_with fail
      refine (times_any g m (m k) _ (HMG.out.drewN _)).mono ?_
      rintro e w1 ⟨rfl, n1, rfl⟩
      obtain ⟨v0, hc2⟩ := HM.out.some h
      have hc3 : ∀ q, (wr.drewN q).cell? ⟨w.heap.size, k, none⟩ = some v0 := fun q => hc2
      have hf := HM.out.free k
      have hf3 : ∀ q, (wr.drewN q).frozen? ⟨w.heap.size, k, none⟩ = false := fun q => hf
      go_wp2_with fail
      go_roundw
      case rel => exact ⟨k + 1, by omega, by go_num, (HM.out.drewN _).set h rfl, (hfr.drewN _).setCell (p := ⟨w.heap.size, k, none⟩) (fun h => by simp at h) _⟩
      case measure => simp [intOf]; omega
    · obtain rfl : k = 32 := by omega
      go_wp2
      go_ret
      exact ⟨_, rfl, Nat.le_refl _, hm, hfr⟩

/-! ### matrices of what is linear -/
def LMat (w : World) (g : Nat) (f : BitVec 32 → BitVec 32) : Prop := Mat w g (fun i => f (CrcM.bit i))
theorem LMat.frm {S : Nat → Prop} {w w' : World} {g : Nat} {f : BitVec 32 → BitVec 32} (h : LMat w g f) (hf : Frm S w w') (hn : ¬ S g) : LMat w' g f := Mat.frm h hf hn
theorem times_lin (g : Nat) (f : BitVec 32 → BitVec 32) (hf : CrcM.Lin f) (r : BitVec 32) (w : World) (hm : LMat w g f) :
    Calls Try.prog 120 #[.pointer (some ⟨g, 0, none⟩), .int .u32 (r.toNat : Int)] w fun e w' => e = .returned (.int .u32 ((f r).toNat : Int)) ∧ ∃ n, w' = w.drewN n := by
  have h := times_any g _ r w hm
  rwa [CrcM.comb_of_lin hf] at h
theorem times_nat (g : Nat) (f : BitVec 32 → BitVec 32) (hf : CrcM.Lin f) (k : Nat) (hk : k < 4294967296) (w : World) (hm : LMat w g f) :
    Calls Try.prog 120 #[.pointer (some ⟨g, 0, none⟩), .int .u32 (k : Int)] w fun e w' => e = .returned (.int .u32 ((f (BitVec.ofNat 32 k)).toNat : Int)) ∧ ∃ n, w' = w.drewN n := by
  have h := times_lin g f hf (BitVec.ofNat 32 k) w hm
  rwa [BitVec.toNat_ofNat, Nat.mod_eq_of_lt hk] at h
theorem squared_lin (g : Nat) (f : BitVec 32 → BitVec 32) (hf : CrcM.Lin f) (w : World) (hm : LMat w g f) :
    Calls Try.prog 119 #[.pointer (some ⟨g, 0, none⟩)] w fun e w' => ∃ g', e = .returned (.pointer (some ⟨g', 0, none⟩)) ∧ w.heap.size ≤ g' ∧ LMat w' g' (fun x => f (f x)) ∧ Fresh w w' := by
  have h := squared_any g _ w hm
  have e : (fun i => CrcM.comb (fun i => f (CrcM.bit i)) (f (CrcM.bit i)) 32) = fun i => f (f (CrcM.bit i)) := by
    funext i
    rw [CrcM.comb_of_lin hf]
  rw [e] at h
  exact h
theorem lin2 {f : BitVec 32 → BitVec 32} (hf : CrcM.Lin f) : CrcM.Lin (fun x => f (f x)) := CrcM.Lin.comp hf hf

/-! ### the table -/
def TabTo (w : World) (g k : Nat) : Prop := ∃ cs : Array Value, Blk w g 137 cs ∧ cs.size = 256 ∧ (∀ i, i < k → cs[i]? = some (uv (CrcM.it CrcM.step 8 (BitVec.ofNat 32 i)))) ∧ ∀ v ∈ cs.toList, v.oneCell' = true
theorem TabTo.some {w : World} {g k : Nat} (h : TabTo w g k) {i : Nat} (hi : i < 256) : ∃ v, w.cell? ⟨g, i, none⟩ = some v := by
  obtain ⟨cs, hb, hs, _⟩ := h
  exact ⟨cs[i], by rw [hb.cell]; exact Array.getElem?_eq_getElem (by omega)⟩
theorem TabTo.free {w : World} {g k : Nat} (h : TabTo w g k) (i : Nat) : w.frozen? ⟨g, i, none⟩ = false := by
  obtain ⟨cs, hb, _⟩ := h
  exact hb.frozen i
theorem TabTo.drewN {w : World} {g k : Nat} (h : TabTo w g k) (n : Nat) : TabTo (w.drewN n) g k := h
theorem TabTo.cell {w : World} {g k : Nat} (h : TabTo w g k) {i : Nat} (hi : i < k) : w.cell? ⟨g, i, none⟩ = Option.some (.int .u32 ((CrcM.it CrcM.step 8 (BitVec.ofNat 32 i)).toNat : Int)) := by
  obtain ⟨cs, hb, _, hc, _⟩ := h
  rw [hb.cell, hc i hi]; rfl
theorem TabTo.frm {S : Nat → Prop} {w w' : World} {g k : Nat} (h : TabTo w g k) (hf : Frm S w w') (hn : ¬ S g) : TabTo w' g k := by
  obtain ⟨cs, hb, hr⟩ := h
  exact ⟨cs, hb.frm hf hn, hr⟩
theorem TabTo.set {w : World} {g k : Nat} (h : TabTo w g k) (hk : k < 256) {v : Value} (hv : v = uv (CrcM.it CrcM.step 8 (BitVec.ofNat 32 k))) : TabTo (w.setCell ⟨g, k, none⟩ v) g (k + 1) := by
  obtain ⟨cs, hb, hs, hc, h1⟩ := h
  refine ⟨_, hb.set k v, by simpa using hs, fun i hi => ?_, fun u hu => ?_⟩
  · rw [Array.getElem?_setIfInBounds]
    by_cases he : k = i
    · subst he; rw [if_pos rfl, if_pos (by omega), hv]
    · rw [if_neg he]; exact hc i (by omega)
  · rw [Array.toList_setIfInBounds] at hu
    rcases List.mem_or_eq_of_mem_set hu with h | h
    · exact h1 u h
    · subst h; rw [hv]; rfl
/-- the table as a value -/
def IsTab (cs : Array Value) : Prop := cs.size = 256 ∧ (∀ i, i < 256 → cs[i]? = some (uv (CrcM.it CrcM.step 8 (BitVec.ofNat 32 i)))) ∧ ∀ v ∈ cs.toList, v.oneCell' = true

/-- 256 noughts, behind a name -/
def zeros256 : Array Value := Array.replicate 256 (.int .u32 0)
theorem zeros256_size : zeros256.size = 256 := by simp [zeros256]
theorem zeros256_one : ∀ v ∈ zeros256.toList, v.oneCell' = true := by
  intro v hv
  unfold zeros256 at hv
  rw [Array.toList_replicate] at hv
  rw [List.eq_of_mem_replicate hv]
  rfl
theorem zero_tab (w : World) : (zeroValue 137).run Try.prog w = .ok (.agg zeros256) w := by kernel_rfl
set_option maxHeartbeats 1600000 in
set_option maxRecDepth 100000 in
theorem table_any (w : World) : Calls Try.prog 109 #[] w fun e w' => ∃ cs, e = .returned (.agg cs) ∧ IsTab cs ∧ Fresh w w' := by
  have hzt := zero_tab
  go_enter Try.func109, Try.ntmps109
  go_wp2_with fail
  refine (stepped_any _).mono ?_
  rintro e w1 ⟨g1, rfl, hg1, hm1, hf1⟩
  obtain ⟨hz0, hs0⟩ : (∃ cs, Blk w1 w.heap.size 137 cs ∧ cs.size = 256) ∧ w.heap.size < w1.heap.size := ⟨⟨zeros256, (Blk.new _ _ _).frm hf1 (fun f => f), zeros256_size⟩, by have := hf1.size; simp at this; omega⟩
  have hf1 : Fresh w w1 := ((Frm.refl _ _).alloc _).trans hf1
  clear hg1
  go_wp2_with fail
  refine (squared_lin g1 CrcM.step CrcM.lin_step _ hm1).mono ?_
  rintro e w2 ⟨g2, rfl, hg2, hm2, hf2⟩
  go_wp2_with fail
  refine (squared_lin g2 _ (lin2 CrcM.lin_step) _ hm2).mono ?_
  rintro e w3 ⟨g3, rfl, hg3, hm3, hf3⟩
  go_wp2_with fail
  refine (squared_lin g3 _ (lin2 (lin2 CrcM.lin_step)) _ hm3).mono ?_
  rintro e w4 ⟨g4, rfl, hg4, hm4, hf4⟩
  rw [CrcM.it8_eq] at hm4
  have hf14 : Fresh w1 w4 := (hf2.trans hf3).trans hf4
  have hs4 := hf14.size
  have hf : Fresh w w4 := hf1.trans hf14
  obtain ⟨cz, hz, hzs⟩ := hz0
  have hz4 := hz.frm hf14 (fun f => f)
  clear hm1 hm2 hm3 hf1 hf2 hf3 hf4 hf14 hz
  have hg4l : g4 < w4.heap.size := Mat.lt hm4
  have HZ := Lib.hid hz4
  have HM := Lib.hid hm4
  clear hz4 hm4
  go_wp2_with fail
  go_loopw [8] (fun v8 wr => ∃ k : Nat, k ≤ 256 ∧ v8 = .int .i64 (k : Int) ∧ TabTo wr w4.heap.size k ∧ Fresh w4 wr) (fun v8 _ => 256 - (intOf v8).toNat)
  case atStart => exact ⟨0, by omega, rfl, ⟨_, Blk.new _ _ _, zeros256_size, fun i hi => by omega, zeros256_one⟩, (Frm.refl _ _).alloc _⟩
  case round =>
    obtain ⟨k, hk, rfl, ht, hfr⟩ := hrel
    clear hzt
    by_cases h : k < 256
    · have hmg := HM.out.frm hfr (fun f => f)
      have hki : (k : Int) < 256 := by omega
      have hk0 : (0 : Int) ≤ k := by omega
      have HMG := Lib.hid hmg
      have HT := Lib.hid ht
      clear ht hmg
      go_wp2_with fail
      refine (times_nat g4 _ (CrcM.lin_it CrcM.lin_step 8) k (by omega) _ HMG.out).mono ?_
      rintro e w5 ⟨rfl, n1, rfl⟩
      obtain ⟨v0, hc2⟩ := HT.out.some h
      have hc3 : ∀ q, (wr.drewN q).cell? ⟨w4.heap.size, k, none⟩ = some v0 := fun q => hc2
      have hf := HT.out.free k
      have hf3 : ∀ q, (wr.drewN q).frozen? ⟨w4.heap.size, k, none⟩ = false := fun q => hf
      go_wp2_with fail
      go_roundw
      case rel => exact ⟨k + 1, by omega, by go_num, (HT.out.drewN _).set h rfl, (hfr.drewN _).setCell (p := ⟨w4.heap.size, k, none⟩) (fun h => by simp at h) _⟩
      case measure => simp [intOf]; omega
    · obtain rfl : k = 256 := by omega
      obtain ⟨cs, hb, hsz, hcs, h1⟩ := ht
      have HB := Lib.hid hb
      have HS := Lib.hid hsz
      have HC := Lib.hid hcs
      have H1 := Lib.hid h1
      have HZ2 := Lib.hid (HZ.out.frm hfr (fun f => f))
      clear hb hsz hcs h1
      have hwl : w.heap.size < w4.heap.size := by omega
      go_wp2_with (first | (with_reducible refine wpList_load_mid rfl 137 (.tmp 2) rfl w4.heap.size 0 rfl cs.toList _ ?cl Try.underlying137 rfl ?ci ?_) | (with_reducible refine wpList_store_mid rfl 137 (.tmp 0) (.tmp 18) rfl w.heap.size 0 cs.toList.toArray rfl rfl ?st ?si ?s1 ?_))
      case cl => exact fun j u hu => by rw [Nat.zero_add, HB.out.cell]; simpa using hu
      case ci => rw [Array.length_toList, HS.out]; kernel_rfl
      case st =>
        intro j hj
        have hj2 : j < cz.size := by simp only [Array.toArray_toList] at hj; have := HS.out; omega
        rw [Nat.zero_add, HZ2.out.cell, HZ2.out.frozen, Array.getElem?_eq_getElem hj2]
        exact ⟨rfl, rfl⟩
      case si => simp only [Array.toArray_toList]; rw [HS.out]; kernel_rfl
      case s1 => exact all_oneCell_toArray H1.out
      have hb2 := blk_setAll HZ2.out (vs := cs.toList) (by rw [Array.length_toList, HS.out, hzs])
      have hf2 := frm_setCells w.heap.size cs.toList 0 wr
      go_wp2_with fail
      refine bodyPost_ret (results_cell_row rfl _ _ w.heap.size 137 cs.toList.toArray (0, 0) _ rfl hb2 Try.underlying137 rfl ?ri) rfl ⟨_, rfl, ?rt, ?rf⟩
      case ri => simp only [Array.toArray_toList]; rw [HS.out]; kernel_rfl
      case rt => simp only [Array.toArray_toList]; exact ⟨HS.out, HC.out, H1.out⟩
      case rf => exact (hf.trans hfr).trans' hf2 (fun i hi he => by omega)
end Go.Proofs.Ytlceembcehokoaa.Rc

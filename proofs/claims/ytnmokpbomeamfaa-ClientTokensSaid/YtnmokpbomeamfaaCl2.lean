/- What session.Encode makes of a request to begin. -/
import Derived.Test.YtnmokpbomeamfaaCl1
import Derived.IntWalk
import Derived.Deep.RegionHeld3
import Derived.Deep.DrawnRows
namespace Go.Proofs.Ytnmokpbomeamfaa
open Go.RowKit
attribute [local go_sem ↓] Go.wp_at_zero Go.wp_at_succ

def codes (l : List Nat) : List UInt8 := l.flatMap FieldM.num
def nv (n : Nat) : Value := .int .i64 (n : Int)
theorem codes_take {l : List Nat} {i : Nat} (h : i < l.length) : codes (l.take (i + 1)) = codes (l.take i) ++ FieldM.num l[i] := by
  unfold codes
  rw [List.take_succ_eq_append_getElem h, List.flatMap_append]
  simp
theorem codes_len : ∀ (l : List Nat), (∀ n ∈ l, n < 18446744073709551616) → (codes l).length ≤ l.length * 9
  | [], _ => by simp [codes]
  | n :: l, h => by
    have h1 := codes_len l (fun m hm => h m (by simp [hm]))
    have h2 := FieldM.num_length n
    have h3 := FieldM.wid_le (h n (by simp))
    unfold codes at *
    rw [List.flatMap_cons, List.length_append, List.length_cons]
    omega
set_option maxHeartbeats 1000000 in
theorem numbers_any (w : World) (A : Option Addr) (cap : Nat) (l : List Nat) (hA : Rd w w.heap.size A (l.map nv)) (hl : l.length ≤ 1000) (hs : ∀ n ∈ l, n ≤ 9223372036854775807) :
    Calls Try.prog 22 #[.slice A l.length cap] w fun e w' => ∃ v, e = .returned v ∧ Sl w' w.heap.size 5 1 v (codes l).length ((codes l).map bv) ∧ Fresh w w' := by
  obtain ⟨i0, hi, hz0, hz1, hz2⟩ := info_parts info_u8
  have HA := Lib.hid hA
  have HS := Lib.hid hs
  clear hA hs
  go_enter Try.func22, Try.ntmps22
  go_wp2_with fail
  go_loopw [3, 8] (fun v3 v8 wr => ∃ (i : Nat) (u : Value), u = v3 ∧ i ≤ l.length ∧ v8 = .int .i64 (i : Int) ∧ Sl wr w.heap.size 5 1 u (codes (l.take i)).length ((codes (l.take i)).map bv) ∧ Fresh w wr) (fun _ v8 _ => l.length - (intOf v8).toNat)
  case atStart => exact ⟨0, _, rfl, by omega, rfl, by simpa [codes] using Sl.nil _ _ _ _, Frm.refl _ _⟩
  case round =>
    obtain ⟨i, u, rfl, hin, rfl, hs, hf⟩ := hrel
    have HSL := Lib.hid hs
    have HF := Lib.hid hf
    have hsz := hf.size
    have hi0 : (0 : Int) ≤ (i : Int) := by omega
    by_cases hlt : i < l.length
    · obtain ⟨b, o, rfl, _, hc⟩ := ((HA.out.fresh (Nat.le_refl _) hf).more hf.size).at_ (k := i) (by simpa using hlt)
      rw [List.getElem_map] at hc
      unfold nv at hc
      have hn := HS.out _ (List.getElem_mem hlt)
      have HT := Lib.hid (codes_take hlt)
      have hcl := codes_len (l.take i) (fun m hm => by have := HS.out m (List.mem_of_mem_take hm); omega)
      rw [List.length_take] at hcl
      have hnum := FieldM.num_length l[i]
      have hwid := FieldM.wid_le (n := l[i]) (by omega)
      have hnle : (FieldM.num l[i]).length ≤ 9 := by omega
      have HNUM := Lib.hid (number_any l[i] (by omega) wr)
      clear hs hf hnum hwid
      generalize l[i] = n at hc hn HT HNUM hnle
      have hn0 : (0 : Int) ≤ (n : Int) := by omega
      have hn1 : ¬ (n : Int) < 0 := by omega
      have hn2 : (n : Int) ≤ 9223372036854775807 := by omega
      have hlti : (i : Int) < (l.length : Int) := by omega
      go_wp2_with fail
      refine HNUM.out.mono ?_
      rintro e w1 ⟨v1, rfl, hs1, f1⟩
      have HS1 := Lib.hid hs1
      have HSA := Lib.hid (HSL.out.fresh f1)
      have HF1 := Lib.hid (HF.out.trans f1)
      obtain ⟨A1, c1, rfl, _⟩ := hs1.shape
      have hsz1 := HF1.out.size
      clear hs1 f1
      go_wp2_with (at_builtin; refine wpList_append_sl _ rfl (.tmp 12) (.tmp 16) _ rfl w.heap.size 5 i0 _ 1 1 Try.underlying29 hi hz0 hz1 hz2 rfl (by omega) _ _ _ rfl HSA.out _ _ _ _ _ rfl (by rw [List.length_map, Nat.mul_one]) HS1.out.rd (bv_one _) (by unfold maxLen; omega) (by omega) hsz1 ?_; intro v2 w2 hs2 hf2 ha2)
      have HS2 : Hid (Sl w2 w.heap.size 5 1 v2 (codes (l.take (i + 1))).length ((codes (l.take (i + 1))).map bv)) := Lib.hid (by rw [HT.out, List.length_append, List.map_append]; exact hs2)
      have HF2 : Hid (Fresh w w2) := Lib.hid (HF1.out.trans' hf2 (fun i hi hk => by have := (HSA.out.lt _ hk).1; omega))
      clear hs2 hf2 ha2
      go_wp2_with fail
      go_roundw
      case rel => exact ⟨i + 1, _, rfl, by omega, by go_num, HS2.out, HF2.out⟩
      case measure => simp [intOf]; omega
    · obtain rfl : i = l.length := by omega
      have HT := Lib.hid (show l.take l.length = l from List.take_length)
      rw [HT.out] at HSL
      clear hs hf
      go_wp2_with fail
      go_ret
      exact ⟨_, rfl, HSL.out, HF.out⟩
set_option maxHeartbeats 1000000 in
theorem right_begin (w : World) (id : Nat) (hid : id ≤ 1000) :
    Calls Try.prog 21 #[.agg #[.int .i64 1, .int .i64 0, .int .i64 0, .int .i64 (id : Int), .slice none 0 0]] w fun e w' => e = .returned (.bool true) ∧ Fresh w w' := by
  have HANY : Hid ([0, 0, (id : Int)].any oddNum = false) := Lib.hid (by simp [oddNum]; omega)
  obtain ⟨W, hW⟩ : ∃ W, W = (w.alloc (.cells #[.int .i64 1, .int .i64 0, .int .i64 0, .int .i64 (id : Int), .slice none 0 0] 50)).alloc (.cells #[.int .i64 0, .int .i64 0, .int .i64 (id : Int)] 3) := ⟨_, rfl⟩
  have HF : Hid (Fresh w W) := Lib.hid (by rw [hW]; exact ((Frm.refl _ _).alloc _).alloc _)
  have R : Rd W W.heap.size (some ⟨w.heap.size + 1, 0, none⟩) ([0, 0, (id : Int)].map iv) := by
    rw [hW]
    have := rd_new (w.alloc (.cells #[.int .i64 1, .int .i64 0, .int .i64 0, .int .i64 (id : Int), .slice none 0 0] 50)) ([0, 0, (id : Int)].map iv) 3
    rw [World.size_alloc] at this
    exact this.more (by simp)
  have H := containsFunc_any _ _ oddNum_tests W _ 3 [0, 0, (id : Int)] R (by simp)
  rw [HANY.out] at H
  rw [hW] at H
  have HC := Lib.hid H
  rw [hW] at HF
  clear R H hW
  go_enter Try.func21, Try.ntmps21
  go_wp2_with fail
  refine HC.out.mono ?_
  rintro e w1 ⟨rfl, hw1⟩
  rw [hw1]
  clear hw1 w1
  go_wp2_with fail
  go_ret
  exact ⟨rfl, HF.out⟩
end Go.Proofs.Ytnmokpbomeamfaa

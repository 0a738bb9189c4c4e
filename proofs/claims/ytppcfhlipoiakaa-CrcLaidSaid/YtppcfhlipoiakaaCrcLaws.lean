/- The laws CrcJoins, CrcAdds, CrcSums, walked. -/
import Derived.Test.YtppcfhlipoiakaaCrc2
import Derived.Lib.SlBytesConst
namespace Go.Proofs.Ytppcfhlipoiakaa
open Go.RowKit

theorem wf_u32 {n : Int} (h : (Lit.int .u32 n).wf = true) : ∃ x : BitVec 32, n = (x.toNat : Int) := by
  have : 0 ≤ n ∧ n ≤ 4294967295 := by simpa [Lit.wf, IntKind.min, IntKind.max, IntKind.signed, IntKind.bits] using h
  exact ⟨BitVec.ofNat 32 n.toNat, by rw [BitVec.toNat_ofNat]; omega⟩
theorem join_one (w : World) : Calls Try.prog 11 #[.int .u32 0, .int .u32 1, .int .i64 0] w fun e w' => e = .returned (.tuple #[.int .u32 1, .int .i64 0]) ∧ Fresh w w' := by
  have h := join_ok 0#32 1#32 0 (by omega) w
  rw [show CrcM.join 0#32 1#32 0 = 1#32 by decide +kernel] at h
  exact h
theorem add_one (w : World) : Calls Try.prog 13 #[.int .u32 0, .slice (some ⟨w.heap.size, 0, none⟩) 1 1] (w.alloc (.cells #[.int .u8 1] 5)) fun e w' =>
    ∃ n : Nat, e = .returned (.int .u32 (n : Int)) ∧ ((n : Int) != 0) = true ∧ Fresh (w.alloc (.cells #[.int .u8 1] 5)) w' := by
  have h := add_any 0#32 (some ⟨w.heap.size, 0, none⟩) 1 [1] (w.alloc (.cells #[.int .u8 1] 5)) ((rd_new w [.int .u8 1] 5).more (by simp)) (by simp)
  exact h.mono fun e w' ⟨he, hf⟩ => ⟨_, he, by decide +kernel, hf⟩
theorem sum_nine (w : World) : Calls Try.prog 15 #[.slice (some ⟨w.heap.size, 0, none⟩) 9 9] (w.alloc (.cells #[.int .u8 49, .int .u8 50, .int .u8 51, .int .u8 52, .int .u8 53, .int .u8 54, .int .u8 55, .int .u8 56, .int .u8 57] 5 (9, 10))) fun e w' =>
    e = .returned (.int .u32 3808858755) ∧ Fresh w w' := by
  have h := sum_any (some ⟨w.heap.size, 0, none⟩) 9 [49, 50, 51, 52, 53, 54, 55, 56, 57] (w.alloc (.cells ([49, 50, 51, 52, 53, 54, 55, 56, 57].map bv).toArray 5 (9, 10))) ((rd_mark w _ 5 (9, 10)).more (by simp)) (by simp)
  rw [show CrcM.sum [49, 50, 51, 52, 53, 54, 55, 56, 57] = 3808858755#32 by decide +kernel] at h
  exact h.mono fun e w' ⟨he, hf⟩ => ⟨he, ((Frm.refl _ w).alloc _).trans hf⟩

set_option maxHeartbeats 400000 in
theorem joins_walk (w : World) (a : Int) (ha : (Lit.int .u32 a).wf = true) (b : Int) (hb : (Lit.int .u32 b).wf = true) (n : Int) (_ : (Lit.int .i64 n).wf = true) :
    Calls Try.prog 3 #[.int .u32 a, .int .u32 b, .int .i64 n] w fun e w' => e = .returned (.bool true) ∧ Below w.heap.size w w' := by
  obtain ⟨a, rfl⟩ := wf_u32 ha
  obtain ⟨b, rfl⟩ := wf_u32 hb
  clear ha hb
  by_cases hn : 0 ≤ n ∧ n ≤ 1048576
  · obtain ⟨n, rfl⟩ := Int.eq_ofNat_of_zero_le hn.1
    have hn2 : n ≤ 1048576 := by omega
    clear hn
    go_enter Try.func3, Try.ntmps3
    go_wp2_with fail
    refine (join_ok _ _ _ hn2 _).mono ?_
    rintro e w1 ⟨rfl, hf1⟩
    go_wp2_with fail
    refine (refJoin_ok _ _ _ hn2 _).mono ?_
    rintro e w2 ⟨rfl, rfl⟩
    go_wp2_with fail
    refine (join_one _).mono ?_
    rintro e w3 ⟨rfl, hf3⟩
    go_wp2_with fail
    go_ret
    exact ⟨by simp, Fresh.below (hf1.trans hf3)⟩
  · have hn2 : n < 0 ∨ 1048576 < n := by omega
    have HN := Lib.hid hn2
    clear hn hn2
    go_enter Try.func3, Try.ntmps3
    go_wp2_with fail
    refine (join_no _ _ _ HN.out _).mono ?_
    rintro e w1 ⟨rfl, rfl⟩
    go_wp2_with fail
    refine (refJoin_no _ _ _ HN.out _).mono ?_
    rintro e w2 ⟨rfl, rfl⟩
    go_wp2_with fail
    refine (join_one _).mono ?_
    rintro e w3 ⟨rfl, hf3⟩
    go_wp2_with fail
    go_ret
    exact ⟨by simp, Fresh.below hf3⟩
set_option maxHeartbeats 400000 in
theorem adds_walk (w : World) (s : Int) (hs : (Lit.int .u32 s).wf = true) (A : Option Addr) (cap : Nat) (bs : List UInt8) (hb : IsBytes w A cap bs) (hr : cap ≤ 140737488351232) :
    Calls Try.prog 4 #[.int .u32 s, .slice A bs.length cap] w fun e w' => e = .returned (.bool true) ∧ Below w.heap.size w w' := by
  obtain ⟨s, rfl⟩ := wf_u32 hs
  have hl : bs.length ≤ 140737488351232 := Nat.le_trans hb.le hr
  have HB := Lib.hid hb.rd
  clear hs hb hr
  by_cases h : 3000000 < bs.length
  · go_enter Try.func4, Try.ntmps4
    go_wp2_with fail
    go_ret
    exact ⟨rfl, Below.refl _ _⟩
  · go_enter Try.func4, Try.ntmps4
    go_wp2_with fail
    refine (add_one _).mono ?_
    rintro e w1 ⟨n, rfl, hn, hf1⟩
    have hf1 : Fresh w w1 := ((Frm.refl _ w).alloc _).trans hf1
    have HB1 := Lib.hid ((HB.out.fresh (Nat.le_refl _) hf1).more hf1.size)
    go_wp2_with fail
    refine (add_any s A cap bs _ HB1.out hl).mono ?_
    rintro e w2 ⟨rfl, hf2⟩
    have HB2 := Lib.hid ((HB1.out.fresh (Nat.le_refl _) hf2).more hf2.size)
    go_wp2_with fail
    refine (refAdd_any s A cap bs _ HB2.out hl).mono ?_
    rintro e w3 ⟨rfl, rfl⟩
    go_wp2_with fail
    go_ret
    exact ⟨by simp, Fresh.below (hf1.trans hf2)⟩
set_option maxHeartbeats 400000 in
theorem sums_walk (w : World) (A : Option Addr) (cap : Nat) (bs : List UInt8) (hb : IsBytes w A cap bs) (hr : cap ≤ 140737488351232) :
    Calls Try.prog 5 #[.slice A bs.length cap] w fun e w' => e = .returned (.bool true) ∧ Below w.heap.size w w' := by
  have hl : bs.length ≤ 140737488351232 := Nat.le_trans hb.le hr
  have HB := Lib.hid hb.rd
  clear hb hr
  by_cases h : 3000000 < bs.length
  · go_enter Try.func5, Try.ntmps5
    go_wp2_with fail
    go_ret
    exact ⟨rfl, Below.refl _ _⟩
  · have kc := fun (w : World) (C : Array Value) (n c : Nat) => Lib.run_convert_bytes_const (P := Try.prog) w 27 5 C n c Try.underlying27 Try.underlying5
    go_enter Try.func5, Try.ntmps5
    go_wp2_with fail
    refine (sum_nine _).mono ?_
    rintro e w1 ⟨rfl, hf1⟩
    have HB1 := Lib.hid ((HB.out.fresh (Nat.le_refl _) hf1).more hf1.size)
    go_wp2_with fail
    refine (sum_any A cap bs _ HB1.out hl).mono ?_
    rintro e w2 ⟨rfl, hf2⟩
    have HB2 := Lib.hid ((HB1.out.fresh (Nat.le_refl _) hf2).more hf2.size)
    go_wp2_with fail
    refine (refSum_any A cap bs _ HB2.out hl).mono ?_
    rintro e w3 ⟨rfl, rfl⟩
    go_wp2_with fail
    go_ret
    exact ⟨by simp, Fresh.below (hf1.trans hf2)⟩
end Go.Proofs.Ytppcfhlipoiakaa

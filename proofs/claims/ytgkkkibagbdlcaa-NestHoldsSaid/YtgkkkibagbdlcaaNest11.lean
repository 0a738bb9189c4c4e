/- The laws NestReturns, NestOther walked. -/
import Derived.Test.YtgkkkibagbdlcaaNest10
namespace Go.Proofs.Ytgkkkibagbdlcaa
open Go.RowKit NestM

theorem leftIs_ask {l s : List Int} {c x y : Int} (h : LeftIs l s c x y) (ha : Asked l s c) : y = 0 ∧ x = least l s c 0 := by
  rcases leftIs_cases h with ⟨h1, _, h2⟩ | ⟨_, h⟩
  · exact ⟨h1, h2⟩
  · exact absurd ha h

set_option maxRecDepth 100000 in
set_option maxHeartbeats 1000000 in
theorem returns_walk (w : World) (A : Option Addr) (ca : Nat) (l : List Int) (hl : IsInts .i64 w A ca l) (_ : ca * 8 ≤ 140737488351232) (B : Option Addr) (cb : Nat) (s : List Int) (hs : IsInts .i64 w B cb s) (_ : cb * 8 ≤ 140737488351232) (xs : List Int) (hx : xs.length = 2 ∧ ∀ x ∈ xs, (Lit.int .i64 x).wf = true) :
    Calls Try.prog 6 #[.slice A l.length ca, .slice B s.length cb, .agg (i64f xs).toArray] w fun e w' => e = .returned (.bool true) ∧ Below w.heap.size w w' := by
  obtain ⟨x0, x1, rfl⟩ := two_of hx.1
  show Calls _ _ #[_, _, .agg #[.int .i64 x0, .int .i64 x1]] _ _
  have hsc := hs.le
  have hsm := hs.most
  have S0 := Lib.hid (Still.start w 33 #[.int .i64 x0, .int .i64 x1] hl.rd hs.rd)
  clear hl hs hx
  go_enter Try.func6, Try.ntmps6
  go_wp2_with fail
  refine (awake_any _).mono ?_
  rintro e w1 ⟨rfl, F1⟩
  have S1 := Lib.hid (S0.out.next F1)
  clear F1
  have b0 : w1.cell? ⟨w.heap.size, 0, none⟩ = some (.int .i64 x0) := S1.out.box.cell 0
  have b1 : w1.cell? ⟨w.heap.size, 1, none⟩ = some (.int .i64 x1) := S1.out.box.cell 1
  go_wp2_with fail
  refine (sell_any w1 A ca l B cb s x0 x1 S1.out.l S1.out.s hsc hsm).mono ?_
  intro e w2 h2
  obtain ⟨A2, cap2, t2, y2, rfl, E2, F2, R2, c2, m2, q2⟩ := sold_rd h2
  have S2 := Lib.hid (S1.out.next F2)
  have HR2 := Lib.hid R2
  clear h2 F2 R2 b0 b1
  have b0 : w2.cell? ⟨w.heap.size, 0, none⟩ = some (.int .i64 x0) := S2.out.box.cell 0
  have b1 : w2.cell? ⟨w.heap.size, 1, none⟩ = some (.int .i64 x1) := S2.out.box.cell 1
  rcases E2 with ⟨a1, a2, a3, a4, rfl⟩ | ⟨_, _, _, _, rfl⟩ | ⟨_, rfl⟩
  · rw [if_pos rfl] at q2
    obtain ⟨k, rfl⟩ := Int.eq_ofNat_of_zero_le a1.2.1
    rw [Int.toNat_natCast] at q2
    have hkl : k < l.length := by have := a1.2.2; omega
    have hsl : s.length = l.length := a1.1.1.1.2.2
    have hs8 : s.length ≤ 8 := by have := a1.1.1.1.2.1; omega
    have hks : k < s.length := by omega
    have hr2 : Right l t2 := by rw [q2]; exact right_sale a1.1 hkl a2 a4
    have hback : plus t2 k (-x1) = s := by rw [q2]; exact plus_back hks x1
    have hat : x1 ≤ at_ t2 k := by
      rw [q2, at_plus hks, if_pos rfl]
      have := (right_sold a1.1 hkl).1
      omega
    have HB := Lib.hid hback
    have HAT := Lib.hid hat
    have HASK := Lib.hid (show Asked l t2 (k : Int) from ⟨hr2, a1.2.1, a1.2.2⟩)
    have hs1 : s.length ≤ 1000000 := by omega
    have hx1 := a2
    clear q2 hr2 hback hat a1 a2 a3 a4 hsl
    go_wp2_with fail
    refine (back_any w2 A ca l A2 cap2 t2 k x1 S2.out.l HR2.out c2 m2).mono ?_
    intro e w3 h3
    obtain ⟨A3, cap3, t3, y3, rfl, E3, F3, R3, c3, m3, q3⟩ := sold_rd h3
    have hE : y3 = 0 := by
      rcases E3 with ⟨_, _, _, h⟩ | ⟨h, _⟩
      · exact h
      · exact absurd ⟨HASK.out, hx1, by rw [Int.toNat_natCast]; exact HAT.out⟩ h
    subst hE
    rw [if_pos rfl, Int.toNat_natCast, HB.out] at q3
    subst q3
    have S3 := Lib.hid (S2.out.next F3)
    have HR3 := Lib.hid R3
    clear h3 F3 E3 R3
    go_wp2_with fail
    refine (same_any w3 A3 cap3 t3 B cb t3 HR3.out S3.out.s hs1).mono ?_
    rintro e w4 ⟨r, n, rfl, rfl, hr⟩
    obtain rfl : r = true := hr.2 rfl
    have S4 := Lib.hid ((S3.out.next ((Frm.refl _ w3).drewN n)).frm)
    clear hr
    go_wp2_with fail
    go_ret
    exact ⟨by simp, S4.out.below⟩
  · have S4 := Lib.hid S2.out.frm
    go_wp2_with fail
    go_ret
    exact ⟨by simp, S4.out.below⟩
  · have S4 := Lib.hid S2.out.frm
    go_wp2_with fail
    go_ret
    exact ⟨by simp, S4.out.below⟩

set_option maxRecDepth 100000 in
set_option maxHeartbeats 1000000 in
theorem other_walk (w : World) (A : Option Addr) (ca : Nat) (l : List Int) (hl : IsInts .i64 w A ca l) (_ : ca * 8 ≤ 140737488351232) (B : Option Addr) (cb : Nat) (s : List Int) (hs : IsInts .i64 w B cb s) (_ : cb * 8 ≤ 140737488351232) (xs : List Int) (hx : xs.length = 3 ∧ ∀ x ∈ xs, (Lit.int .i64 x).wf = true) :
    Calls Try.prog 4 #[.slice A l.length ca, .slice B s.length cb, .agg (i64f xs).toArray] w fun e w' => e = .returned (.bool true) ∧ Below w.heap.size w w' := by
  obtain ⟨x0, x1, x2, rfl⟩ := three_of hx.1
  show Calls _ _ #[_, _, .agg #[.int .i64 x0, .int .i64 x1, .int .i64 x2]] _ _
  have hsc := hs.le
  have hsm := hs.most
  have S0 := Lib.hid (Still.start w 29 #[.int .i64 x0, .int .i64 x1, .int .i64 x2] hl.rd hs.rd)
  clear hl hs hx
  go_enter Try.func4, Try.ntmps4
  go_wp2_with fail
  refine (awake_any _).mono ?_
  rintro e w1 ⟨rfl, F1⟩
  have S1 := Lib.hid (S0.out.next F1)
  clear F1
  have b0 : w1.cell? ⟨w.heap.size, 0, none⟩ = some (.int .i64 x0) := S1.out.box.cell 0
  have b1 : w1.cell? ⟨w.heap.size, 1, none⟩ = some (.int .i64 x1) := S1.out.box.cell 1
  go_wp2_with fail
  refine (sell_any w1 A ca l B cb s x0 x1 S1.out.l S1.out.s hsc hsm).mono ?_
  intro e w2 h2
  obtain ⟨A2, cap2, t2, y2, rfl, E2, F2, R2, c2, m2, q2⟩ := sold_rd h2
  have S2 := Lib.hid (S1.out.next F2)
  have HR2 := Lib.hid R2
  clear h2 F2 R2 b0 b1
  have b0 : w2.cell? ⟨w.heap.size, 0, none⟩ = some (.int .i64 x0) := S2.out.box.cell 0
  have b1 : w2.cell? ⟨w.heap.size, 1, none⟩ = some (.int .i64 x1) := S2.out.box.cell 1
  have b2 : w2.cell? ⟨w.heap.size, 2, none⟩ = some (.int .i64 x2) := S2.out.box.cell 2
  rcases E2 with ⟨a1, a2, a3, a4, rfl⟩ | ⟨_, _, _, _, rfl⟩ | ⟨_, rfl⟩
  · rw [if_pos rfl] at q2
    obtain ⟨k, rfl⟩ := Int.eq_ofNat_of_zero_le a1.2.1
    rw [Int.toNat_natCast] at q2
    have hkl : k < l.length := by have := a1.2.2; omega
    have hsl : s.length = l.length := a1.1.1.1.2.2
    have hks : k < s.length := by omega
    have hr2 : Right l t2 := by rw [q2]; exact right_sale a1.1 hkl a2 a4
    by_cases g1 : x2 < 0
    · have d1 : decide (x2 < 0) = true := by simpa using g1
      have S4 := Lib.hid S2.out.frm
      go_wp2_with fail
      go_ret
      exact ⟨by simp, S4.out.below⟩
    have d1 : decide (x2 < 0) = false := by simpa using g1
    by_cases g2 : (k : Int) < x2
    · have d2 : decide ((k : Int) < x2) = true := by simpa using g2
      have S4 := Lib.hid S2.out.frm
      go_wp2_with fail
      go_ret
      exact ⟨by simp, S4.out.below⟩
    have d2 : decide ((k : Int) < x2) = false := by simpa using g2
    obtain ⟨j, rfl⟩ := Int.eq_ofNat_of_zero_le (show 0 ≤ x2 by omega)
    have hjk : j ≤ k := by omega
    have hls : least l t2 (j : Int) 0 = least l s (j : Int) 0 - x1 := by rw [q2]; exact least_sale a1.1 hkl hjk a2
    have hps : 0 ≤ least l t2 (j : Int) 0 := least_pos hr2 (by omega)
    have HASK := Lib.hid (show Asked l s (j : Int) from ⟨a1.1, by omega, by omega⟩)
    have HASK2 := Lib.hid (show Asked l t2 (j : Int) from ⟨hr2, by omega, by omega⟩)
    have HLS := Lib.hid hls
    have HPS := Lib.hid hps
    have HA2 := Lib.hid a2
    clear q2 hr2 hls hps a1 a2 a3 a4 hsl
    go_wp2_with fail
    refine (left_any w2 A ca l B cb s j S2.out.l S2.out.s).mono ?_
    rintro e w3 ⟨x, y, rfl, F3, hx⟩
    have S3 := Lib.hid (S2.out.next F3)
    have HR3 := Lib.hid ((HR2.out.fresh (Nat.le_refl _) F3).more F3.size)
    obtain ⟨rfl, he⟩ := leftIs_ask hx HASK.out
    have HX := Lib.hid he
    clear hx he F3 b0 b1 b2
    have b0 : w3.cell? ⟨w.heap.size, 0, none⟩ = some (.int .i64 k) := S3.out.box.cell 0
    have b1 : w3.cell? ⟨w.heap.size, 1, none⟩ = some (.int .i64 x1) := S3.out.box.cell 1
    have b2 : w3.cell? ⟨w.heap.size, 2, none⟩ = some (.int .i64 j) := S3.out.box.cell 2
    go_wp2_with fail
    refine (left_any w3 A ca l A2 cap2 t2 j S3.out.l HR3.out).mono ?_
    rintro e w4 ⟨x', y, rfl, F4, hx⟩
    have S4 := Lib.hid (S3.out.next F4)
    obtain ⟨rfl, he⟩ := leftIs_ask hx HASK2.out
    have hx1 : x' = x - x1 := by rw [he, HX.out, HLS.out]
    have hx2 : 0 ≤ x' := by rw [he]; exact HPS.out
    have hx3 := HA2.out
    have hx4 : x ≤ 10000 := by rw [HX.out]; exact least_le (by omega)
    clear hx he F4 b0 b1 b2
    have b1 : w4.cell? ⟨w.heap.size, 1, none⟩ = some (.int .i64 x1) := S4.out.box.cell 1
    have d3 : decide (x' ≤ x) = true := by simp; omega
    have d4 : decide (x - x' ≤ x1) = true := by simp; omega
    have d5 : decide (0 ≤ x') = true := by simp; omega
    have hx5 : 0 ≤ x := by omega
    have hx6 : x' ≤ 10000 := by omega
    have hx7 : x' ≤ x := by omega
    have hx8 : x - x' ≤ x1 := by omega
    have HX1 := Lib.hid hx1
    clear hx1
    have FR := Lib.hid S4.out.frm
    go_wp2_with fail
    all_goals
      go_ret
      exact ⟨by simp, FR.out.below⟩
  · have S4 := Lib.hid S2.out.frm
    go_wp2_with fail
    go_ret
    exact ⟨by simp, S4.out.below⟩
  · have S4 := Lib.hid S2.out.frm
    go_wp2_with fail
    go_ret
    exact ⟨by simp, S4.out.below⟩
end Go.Proofs.Ytgkkkibagbdlcaa

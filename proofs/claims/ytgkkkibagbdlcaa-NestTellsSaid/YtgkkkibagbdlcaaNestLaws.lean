/- The law NestTells, walked. -/
import Derived.Test.YtgkkkibagbdlcaaNest6
namespace Go.Proofs.Ytgkkkibagbdlcaa
open Go.RowKit NestM

set_option maxHeartbeats 1000000 in
theorem tells_walk (w : World) (A : Option Addr) (ca : Nat) (l : List Int) (hl : IsInts .i64 w A ca l) (_ : ca * 8 ≤ 140737488351232) (B : Option Addr) (cb : Nat) (s : List Int) (hs : IsInts .i64 w B cb s) (_ : cb * 8 ≤ 140737488351232) (c : Int) (_ : (Lit.int .i64 c).wf = true) :
    Calls Try.prog 3 #[.slice A l.length ca, .slice B s.length cb, .int .i64 c] w fun e w' => e = .returned (.bool true) ∧ Below w.heap.size w w' := by
  have HL : Hid (Rd w w.heap.size A (l.map iv)) := Lib.hid hl.rd
  have HS : Hid (Rd w w.heap.size B (s.map iv)) := Lib.hid hs.rd
  clear hl hs
  go_enter Try.func3, Try.ntmps3
  go_wp2_with fail
  refine (awake_any w).mono ?_
  rintro e w1 ⟨rfl, F1⟩
  have HL1 := Lib.hid ((HL.out.fresh (Nat.le_refl _) F1).more F1.size)
  have HS1 := Lib.hid ((HS.out.fresh (Nat.le_refl _) F1).more F1.size)
  go_wp2_with fail
  refine (left_any _ _ _ _ _ _ _ _ HL1.out HS1.out).mono ?_
  rintro e w2 ⟨x, y, rfl, F2, hx⟩
  have HL2 := Lib.hid ((HL1.out.fresh (Nat.le_refl _) F2).more F2.size)
  have HS2 := Lib.hid ((HS1.out.fresh (Nat.le_refl _) F2).more F2.size)
  go_wp2_with fail
  refine (refLeft_any _ _ _ _ _ _ _ _ HL2.out HS2.out).mono ?_
  rintro e w3 ⟨x', y', rfl, F3, hx'⟩
  obtain ⟨rfl, rfl⟩ := hx.same hx'
  have HL3 := Lib.hid ((HL2.out.fresh (Nat.le_refl _) F3).more F3.size)
  have HS3 := Lib.hid ((HS2.out.fresh (Nat.le_refl _) F3).more F3.size)
  clear hx hx'
  go_wp2_with fail
  refine (right_any _ _ _ _ _ _ _ HL3.out HS3.out).mono ?_
  rintro e w4 ⟨b, n, rfl, rfl, hb⟩
  go_wp2_with fail
  refine (refRight_any _ _ _ _ _ _ _ (rd_drawn HL3.out n) (rd_drawn HS3.out n)).mono ?_
  rintro e w5 ⟨b', n', rfl, rfl, hb'⟩
  obtain rfl : b = b' := by
    cases b <;> cases b' <;> simp_all
  clear hb hb'
  have FR : Below w.heap.size w (w3.drewN (n + n')) := Fresh.below (((F1.trans F2).trans F3).drewN _)
  have HFR := Lib.hid FR
  clear FR
  go_wp2_with fail
  go_ret
  exact ⟨by simp, HFR.out⟩
end Go.Proofs.Ytgkkkibagbdlcaa

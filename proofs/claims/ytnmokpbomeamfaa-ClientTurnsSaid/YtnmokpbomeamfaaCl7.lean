/- The laws ClientTurns, ClientTokens walked. -/
import Derived.Test.YtnmokpbomeamfaaCl6
namespace Go.Proofs.Ytnmokpbomeamfaa
open Go.RowKit

theorem turn_next (n i : Nat) (hn : 0 < n) : tickA n (i / 3 % n) (i % 3) = (i + 1) / 3 % n ∧ tickW (i % 3) = (i + 1) % 3 := by
  unfold tickA tickW
  by_cases h : 3 ≤ i % 3 + 1
  · rw [if_pos h, if_pos h]
    have e : (i + 1) / 3 = i / 3 + 1 := by omega
    refine ⟨?_, by omega⟩
    rw [e, Nat.add_mod (i / 3 % n) 1 n, Nat.mod_mod, ← Nat.add_mod]
  · rw [if_neg h, if_neg h]
    have e : (i + 1) / 3 = i / 3 := by omega
    exact ⟨by rw [e], by omega⟩
set_option maxRecDepth 100000 in
set_option maxHeartbeats 4000000 in
theorem turns_walk (w : World) (A : Option Addr) (cap : Nat) (l : List Int) (hl : IsInts .i64 w A cap l) (_ : cap * 8 ≤ 140737488351232) (t : Int) (_ : (Lit.int .i64 t).wf = true) :
    Calls Try.prog 4 #[.slice A l.length cap, .int .i64 t] w fun e w' => e = .returned (.bool true) ∧ Below w.heap.size w w' := by
  have HA : Hid (Rd w w.heap.size A (l.map iv)) := Lib.hid hl.rd
  have hle := hl.le
  have hmo := hl.most
  clear hl
  by_cases hok : 1 ≤ l.length ∧ l.length ≤ 15 ∧ l.any oddNode = false
  · obtain ⟨h1, h15, hodd⟩ := hok
    have HODD := Lib.hid hodd
    clear hodd
    go_enter Try.func4, Try.ntmps4
    go_wp2_with fail
    refine (awake_any w).mono ?_
    rintro e w1 ⟨rfl, f1⟩
    have HF1 := Lib.hid f1
    have HN := Lib.hid (new_yes w1 5 A cap l ((HA.out.fresh (Nat.le_refl _) f1).more f1.size) (by omega) (by omega) h1 h15 HODD.out hle hmo)
    clear f1
    go_wp2_with fail
    refine HN.out.mono ?_
    rintro e w2 ⟨b, mb, A2, nc, rfl, hc, f2⟩
    have HC := Lib.hid hc
    have HF2 := Lib.hid (HF1.out.trans f2)
    have hsz1 := HF1.out.size
    clear hc f2
    go_wp2_with fail
    go_loopw [8] (fun v8 wr => ∃ i : Nat, i ≤ 100 ∧ v8 = .int .i64 (i : Int) ∧ Cl wr w1.heap.size b mb 5 A2 nc l (i / 3 % l.length) (i % 3) i ∧ Fresh w wr) (fun v8 _ => 100 - (intOf v8).toNat)
    case atStart => exact ⟨0, by omega, rfl, by simpa using HC.out, HF2.out⟩
    case round =>
      obtain ⟨i, hi, rfl, hcl, hf⟩ := hrel
      have HCL := Lib.hid hcl
      have HF := Lib.hid hf
      have hi0 : (0 : Int) ≤ (i : Int) := by omega
      have hi100 : (i : Int) ≤ 100 := by omega
      by_cases hgo : (i : Int) < t ∧ i < 100
      · obtain ⟨hit, hi2⟩ := hgo
        have hi2i : (i : Int) < 100 := by omega
        obtain ⟨a, ha⟩ : ∃ a, i / 3 % l.length = a := ⟨_, rfl⟩
        have hal : a < l.length := by rw [← ha]; exact Nat.mod_lt _ (by omega)
        obtain ⟨q, hq⟩ : ∃ q, i / 3 = q := ⟨_, rfl⟩
        have hq1 : (i : Int) / 3 = (q : Int) := by omega
        have hq2 : (q : Int) % (l.length : Int) = (a : Int) := by rw [← Int.natCast_emod, ← hq, ha]
        have hq0 : (0 : Int) ≤ (q : Int) := by omega
        have hl0 : (0 : Int) < (l.length : Int) := by omega
        have hl1 : ((l.length : Int) == 0) = false := by rw [beq_eq_false_iff_ne]; omega
        have hl2 : ¬ ((l.length : Int) = 0) := by omega
        have ha0 : (0 : Int) ≤ (a : Int) := by omega
        have ha1 : (a : Int) < (l.length : Int) := by omega
        have HTN := Lib.hid (turn_next l.length i (by omega))
        rw [ha] at HCL HTN
        have HW := Lib.hid (want_any wr w1.heap.size b mb 5 A2 nc l a (i % 3) i HCL.out (by omega) (by omega) h15)
        clear hcl hf ha hq
        go_wp2_with fail
        refine HW.out.mono ?_
        rintro e w3 ⟨v, bs, rfl, hs, _, hc3, f3⟩
        have HC3 := Lib.hid hc3
        have HF3 : Hid (Fresh w w3) := Lib.hid (HF.out.trans' f3 (fun k hk hh => by
          have h1 := HCL.out.bge
          have h2 := HCL.out.mge
          rcases hh with e | e <;> omega))
        obtain ⟨A3, c3, rfl, _⟩ := hs.shape
        obtain ⟨bA, oA, rfl, _, hcA⟩ := ((HA.out.fresh (Nat.le_refl _) HF3.out).more HF3.out.size).at_ (k := a) (by simpa using hal)
        rw [List.getElem_map, ← at_get hal] at hcA
        unfold iv at hcA
        have HTK := Lib.hid (tick_any w3 w1.heap.size b mb 5 A2 nc l a (i % 3) (i + 1) hc3 (by omega) h15)
        generalize at_ l a = y at hcA
        clear hs hc3 f3
        go_wp2_with fail
        refine HTK.out.mono ?_
        rintro e w4 ⟨rfl, hc4, f4⟩
        have HC4 : Hid (Cl w4 w1.heap.size b mb 5 A2 nc l ((i + 1) / 3 % l.length) ((i + 1) % 3) (i + 1)) := Lib.hid (by
          rw [HTN.out.1, HTN.out.2] at hc4
          exact hc4)
        have HF4 : Hid (Fresh w w4) := Lib.hid (HF3.out.trans' f4 (fun k hk hh => by
          have h1 := HCL.out.bge
          have h2 := HCL.out.mge
          rcases hh with e | e <;> omega))
        clear hc4 f4 hcA hq1 hq2
        go_wp2_with fail
        go_roundw
        case rel => exact ⟨i + 1, by omega, by go_num, HC4.out, HF4.out⟩
        case measure => simp [intOf]; omega
      · have HOV := Lib.hid (over_any wr w1.heap.size b mb 5 A2 nc l (i / 3 % l.length) (i % 3) i hcl)
        have HEND : Hid (¬ (i : Int) < t ∨ ((i : Int) < t ∧ ¬ (i : Int) < 100)) := Lib.hid (by omega)
        clear hcl hf hgo
        rcases HEND.out with hh | ⟨hh, hh2⟩
        all_goals
          go_wp2_with fail
          refine HOV.out.mono ?_
          rintro e w5 ⟨rfl, f5⟩
          have HF5 := Lib.hid (HF.out.trans f5)
          clear f5
          go_wp2_with fail
          go_ret
          exact ⟨rfl, Fresh.below HF5.out⟩
  · have hno : (5 : Int) < 1 ∨ 1000 < (5 : Int) ∨ l.length < 1 ∨ 15 < l.length ∨ l.any oddNode = true := by
      by_cases h1 : 1 ≤ l.length
      · by_cases h15 : l.length ≤ 15
        · exact .inr (.inr (.inr (.inr (by
            rcases Bool.eq_false_or_eq_true (l.any oddNode) with h | h
            · exact h
            · exact absurd ⟨h1, h15, h⟩ hok))))
        · exact .inr (.inr (.inr (.inl (by omega))))
      · exact .inr (.inr (.inl (by omega)))
    have HNO := Lib.hid hno
    clear hno hok
    go_enter Try.func4, Try.ntmps4
    go_wp2_with fail
    refine (awake_any w).mono ?_
    rintro e w1 ⟨rfl, f1⟩
    have HF1 := Lib.hid f1
    have HN := Lib.hid (new_no w1 5 A cap l ((HA.out.fresh (Nat.le_refl _) f1).more f1.size) HNO.out)
    clear f1
    go_wp2_with fail
    refine HN.out.mono ?_
    rintro e w2 ⟨rfl, rfl⟩
    go_wp2_with fail
    go_ret
    exact ⟨rfl, Fresh.below HF1.out⟩
end Go.Proofs.Ytnmokpbomeamfaa

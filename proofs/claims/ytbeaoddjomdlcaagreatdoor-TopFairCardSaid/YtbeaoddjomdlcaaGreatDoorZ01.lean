/- Proved here, for the statement TopFairCardSaid: laws that its walk leans on. It holds with no condition. (Put together and shortened by a program out of many texts: On1.) -/
import Derived.Test.YtbeaoddjomdlcaaGreatDoorZ00
import Derived.Test.YtbeaoddjomdlcaaGreatDoorRows
import Derived.Handy
import Derived.WalkLawsBesides
import Derived.BigQuiet
set_option linter.unusedVariables false
set_option linter.unusedSimpArgs false
set_option maxRecDepth 100000
set_option maxHeartbeats 64000000
namespace Go.Proofs.YtbeaoddjomdlcaaGreatDoor
section
open Go.RowKit
abbrev ivs (l : List Int) : List Value := l.map (Value.int .i64)
theorem ret_b {a b : Bool} (h : a = b) : Ending.returned (.bool a) = .returned (.bool b) := by rw [h]
theorem ret_z {a b : Int} (h : a = b) : Ending.returned (.int .i64 a) = .returned (.int .i64 b) := by rw [h]
def small (gs : List Int) : Prop := gs.length ≤ 16 ∧ ∀ g ∈ gs, 0 ≤ g ∧ g ≤ 9999
theorem sum_take {gs : List Int} {i : Nat} (h : i < gs.length) : (gs.take (i + 1)).sum = (gs.take i).sum + gs[i] := by
  rw [List.take_succ_eq_append_getElem h, List.sum_append]
  simp
theorem sum_small : ∀ (gs : List Int), (∀ g ∈ gs, 0 ≤ g ∧ g ≤ 9999) → 0 ≤ gs.sum ∧ gs.sum ≤ 9999 * (gs.length : Int)
  | [], _ => by simp
  | g :: r, h => by
    have h1 := h g (by simp)
    have h2 := sum_small r (fun x hx => h x (List.mem_cons_of_mem _ hx))
    rw [List.sum_cons, List.length_cons]
    omega
theorem across_any (w : World) (r : Int) (A : Option Addr) (c : Nat) (gs : List Int) (hA : Rd w w.heap.size A (ivs gs)) (hs : small gs) :
    Calls Tryz.prog 155 #[.agg #[.int .i64 r, .slice A gs.length c]] w fun e w' => e = .returned (.int .i64 gs.sum) ∧ Fresh w w' := by
  obtain ⟨W, hW⟩ : ∃ W, w.alloc (.cells #[.int .i64 r, .slice A gs.length c] 33) = W := ⟨_, rfl⟩
  have hFW : Fresh w W := by rw [← hW]; exact (Frm.refl _ w).alloc _
  have hBX : Blk W w.heap.size 33 #[.int .i64 r, .slice A gs.length c] := by rw [← hW]; exact Blk.new w _ _
  have HF := zh hFW
  have y1 : W.cell? ⟨w.heap.size, 1, none⟩ = some (.slice A gs.length c) := hBX.cell 1
  have HA := zh (hA.fresh (Nat.le_refl _) hFW)
  have HS := zh hs
  have hl := hs.1
  clear hFW hBX hA hs
  go_in
  go_wp2_with fail
  try rw [hW]
  clear hW
  go_loopw [3, 4] (fun v3 v4 wr => ∃ i : Nat, i ≤ gs.length ∧ v3 = .int .i64 (gs.take i).sum ∧ v4 = .int .i64 (i : Int) ∧ wr = W) (fun _ v4 _ => gs.length - (RowKit.intOf v4).toNat)
  case atStart => exact ⟨0, by omega, rfl, rfl, rfl⟩
  case round =>
    obtain ⟨i, hi, rfl, rfl, rfl⟩ := hrel
    have hi0 : (0 : Int) ≤ (i : Int) := by omega
    by_cases hlt : i < gs.length
    · have hlti : (i : Int) < (gs.length : Int) := by omega
      obtain ⟨b, o, rfl, _, hc⟩ := HA.out.at_ (k := i) (by simpa using hlt)
      rw [List.getElem_map] at hc
      have HST := zh (sum_take hlt)
      have h1 := HS.out.2 _ (List.getElem_mem hlt)
      have h2 := sum_small (gs.take i) (fun x hx => HS.out.2 x (List.mem_of_mem_take hx))
      have h3 : (gs.take i).length = i := by rw [List.length_take]; omega
      rw [h3] at h2
      generalize gs[i] = x at hc HST h1
      generalize (gs.take i).sum = s at HST h2
      have hw : IntKind.i64.wrap (s + x) = s + x := IntWalk.i64_in _ (by omega)
      clear h3
      go_wp2_with fail
      go_roundw
      case rel => exact ⟨i + 1, by omega, by rw [HST.out], by go_num, by first | rfl | trivial⟩
      case measure => simp [RowKit.intOf]; omega
    · have hlti : ¬ (i : Int) < (gs.length : Int) := by omega
      have HE : Hid ((gs.take i).sum = gs.sum) := zh (by rw [List.take_of_length_le (by omega)])
      go_wp2_with fail
      go_ret
      exact ⟨ret_z HE.out, HF.out⟩
def rightL (r : Int) (gs : List Int) : Bool := decide ((1 ≤ r ∧ r ≤ 60) ∧ (1 ≤ gs.length ∧ gs.length ≤ 4) ∧ (∀ g ∈ gs, 1 ≤ g ∧ g ≤ 10) ∧ gs.sum ≤ 10)
def countL (r : Int) (gs : List Int) : Int := if rightL r gs = true then r * gs.sum else 0
theorem rightL_no {r : Int} {gs : List Int} (h : ¬ ((1 ≤ r ∧ r ≤ 60) ∧ (1 ≤ gs.length ∧ gs.length ≤ 4) ∧ (∀ g ∈ gs, 1 ≤ g ∧ g ≤ 10))) : rightL r gs = false := decide_eq_false (fun k => h ⟨k.1, k.2.1, k.2.2.1⟩)
theorem rightL_yes {r : Int} {gs : List Int} (h : (1 ≤ r ∧ r ≤ 60) ∧ (1 ≤ gs.length ∧ gs.length ≤ 4) ∧ (∀ g ∈ gs, 1 ≤ g ∧ g ≤ 10)) : rightL r gs = decide (gs.sum ≤ 10) := by
  unfold rightL
  by_cases k : gs.sum ≤ 10
  · rw [decide_eq_true k]; exact decide_eq_true ⟨h.1, h.2.1, h.2.2, k⟩
  · rw [decide_eq_false k]; exact decide_eq_false (fun e => k e.2.2.2)
theorem rightL_of {r : Int} {gs : List Int} (h : rightL r gs = true) : (1 ≤ r ∧ r ≤ 60) ∧ (1 ≤ gs.length ∧ gs.length ≤ 4) ∧ (∀ g ∈ gs, 1 ≤ g ∧ g ≤ 10) ∧ gs.sum ≤ 10 := of_decide_eq_true h
theorem ten_take {gs : List Int} {i : Nat} (h : i < gs.length) (hn : ∀ g ∈ gs.take i, 1 ≤ g ∧ g ≤ 10) (hx : 1 ≤ gs[i] ∧ gs[i] ≤ 10) : ∀ g ∈ gs.take (i + 1), 1 ≤ g ∧ g ≤ 10 := by
  rw [List.take_succ_eq_append_getElem h]
  intro g hg
  rcases List.mem_append.1 hg with hg | hg
  · exact hn g hg
  · rw [List.mem_singleton] at hg
    rw [hg]
    exact hx
theorem rightL_any (w : World) (r : Int) (A : Option Addr) (c : Nat) (gs : List Int) (hA : Rd w w.heap.size A (ivs gs)) (hs : small gs) :
    Calls Tryz.prog 120 #[.agg #[.int .i64 r, .slice A gs.length c]] w fun e w' => e = .returned (.bool (rightL r gs)) ∧ Fresh w w' := by
  obtain ⟨W, hW⟩ : ∃ W, w.alloc (.cells #[.int .i64 r, .slice A gs.length c] 33) = W := ⟨_, rfl⟩
  have hFW : Fresh w W := by rw [← hW]; exact (Frm.refl _ w).alloc _
  have hBX : Blk W w.heap.size 33 #[.int .i64 r, .slice A gs.length c] := by rw [← hW]; exact Blk.new w _ _
  have HF := zh hFW
  have y0 : W.cell? ⟨w.heap.size, 0, none⟩ = some (.int .i64 r) := hBX.cell 0
  have y1 : W.cell? ⟨w.heap.size, 1, none⟩ = some (.slice A gs.length c) := hBX.cell 1
  have hA2 := hA.fresh (Nat.le_refl _) hFW
  have HAC := zh (across_any W r A c gs (hA2.more hFW.size) hs)
  have HA := zh hA2
  have HS := zh hs
  have hl := hs.1
  obtain ⟨n, hn⟩ : ∃ n, n = gs.length := ⟨_, rfl⟩
  rw [← hn] at y1 hl HAC hW ⊢
  have HN := zh hn
  clear hFW hBX hA hA2 hs hn
  by_cases c0 : 1 ≤ r
  · by_cases c1 : r ≤ 60
    · by_cases c2 : 1 ≤ (n : Int)
      · by_cases c3 : (n : Int) ≤ 4
        · have d0 : decide (r < 1) = false := decide_eq_false (by omega)
          have d1 : decide (60 < r) = false := decide_eq_false (by omega)
          have d2 : decide ((n : Int) < 1) = false := decide_eq_false (by omega)
          have d3 : decide (4 < (n : Int)) = false := decide_eq_false (by omega)
          go_in
          go_wp2_with fail
          try rw [hW]
          clear hW
          go_loopw [3] (fun v3 wr => ∃ i : Nat, i ≤ n ∧ v3 = .int .i64 (i : Int) ∧ (∀ g ∈ gs.take i, 1 ≤ g ∧ g ≤ 10) ∧ wr = W) (fun v3 _ => n - (RowKit.intOf v3).toNat)
          case atStart => exact ⟨0, by omega, rfl, fun g hg => by simp at hg, rfl⟩
          case round =>
            obtain ⟨i, hi, rfl, hten, rfl⟩ := hrel
            have hi0 : (0 : Int) ≤ (i : Int) := by omega
            have HT := zh hten
            clear hten
            by_cases hlt : i < n
            · have hlti : (i : Int) < (n : Int) := by omega
              have hltg : i < gs.length := by rw [← HN.out]; exact hlt
              obtain ⟨b, o, rfl, _, hc⟩ := HA.out.at_ (k := i) (by simpa using hltg)
              rw [List.getElem_map] at hc
              have HM := zh (List.getElem_mem hltg)
              have HST := zh (ten_take hltg HT.out)
              generalize gs[i] = x at hc HM HST
              by_cases e0 : 1 ≤ x
              · by_cases e1 : x ≤ 10
                · have f0 : decide (x < 1) = false := decide_eq_false (by omega)
                  have f1 : decide (10 < x) = false := decide_eq_false (by omega)
                  go_wp2_with fail
                  go_roundw
                  case rel => exact ⟨i + 1, by omega, by go_num, HST.out ⟨e0, e1⟩, by first | rfl | trivial⟩
                  case measure => simp [RowKit.intOf]; omega
                · have f0 : decide (x < 1) = false := decide_eq_false (by omega)
                  have f1 : decide (10 < x) = true := decide_eq_true (by omega)
                  have HV : Hid (rightL r gs = false) := zh (rightL_no (fun k => e1 (k.2.2 _ HM.out).2))
                  go_wp2_with fail
                  go_ret
                  exact ⟨ret_b HV.out.symm, HF.out⟩
              · have f0 : decide (x < 1) = true := decide_eq_true (by omega)
                have HV : Hid (rightL r gs = false) := zh (rightL_no (fun k => e0 (k.2.2 _ HM.out).1))
                go_wp2_with fail
                go_ret
                exact ⟨ret_b HV.out.symm, HF.out⟩
            · have hlti : ¬ (i : Int) < (n : Int) := by omega
              have HV : Hid (rightL r gs = decide (gs.sum ≤ 10)) := zh (rightL_yes ⟨⟨c0, c1⟩, by have := HN.out; omega, by
                have h := HT.out
                rwa [List.take_of_length_le (by have := HN.out; omega)] at h⟩)
              go_wp2_with fail
              refine HAC.out.mono ?_
              rintro e w1 ⟨rfl, f1⟩
              have HF1 := zh (HF.out.trans f1)
              clear f1
              go_wp2_with fail
              go_ret
              exact ⟨ret_b HV.out.symm, HF1.out⟩
        · have HV : Hid (rightL r gs = false) := zh (rightL_no (by have := HN.out; omega))
          have d0 : decide (r < 1) = false := decide_eq_false (by omega)
          have d1 : decide (60 < r) = false := decide_eq_false (by omega)
          have d2 : decide ((n : Int) < 1) = false := decide_eq_false (by omega)
          have d3 : decide (4 < (n : Int)) = true := decide_eq_true (by omega)
          go_in
          go_wp2_with fail
          go_ret
          exact ⟨ret_b HV.out.symm, HF.out⟩
      · have HV : Hid (rightL r gs = false) := zh (rightL_no (by have := HN.out; omega))
        have d0 : decide (r < 1) = false := decide_eq_false (by omega)
        have d1 : decide (60 < r) = false := decide_eq_false (by omega)
        have d2 : decide ((n : Int) < 1) = true := decide_eq_true (by omega)
        go_in
        go_wp2_with fail
        go_ret
        exact ⟨ret_b HV.out.symm, HF.out⟩
    · have HV : Hid (rightL r gs = false) := zh (rightL_no (by omega))
      have d0 : decide (r < 1) = false := decide_eq_false (by omega)
      have d1 : decide (60 < r) = true := decide_eq_true (by omega)
      go_in
      go_wp2_with fail
      go_ret
      exact ⟨ret_b HV.out.symm, HF.out⟩
  · have HV : Hid (rightL r gs = false) := zh (rightL_no (by omega))
    have d0 : decide (r < 1) = true := decide_eq_true (by omega)
    go_in
    go_wp2_with fail
    go_ret
    exact ⟨ret_b HV.out.symm, HF.out⟩
theorem countL_any (w : World) (r : Int) (A : Option Addr) (c : Nat) (gs : List Int) (hA : Rd w w.heap.size A (ivs gs)) (hs : small gs) :
    Calls Tryz.prog 122 #[.agg #[.int .i64 r, .slice A gs.length c]] w fun e w' => e = .returned (.int .i64 (countL r gs)) ∧ Fresh w w' := by
  obtain ⟨W, hW⟩ : ∃ W, w.alloc (.cells #[.int .i64 r, .slice A gs.length c] 33) = W := ⟨_, rfl⟩
  have hFW : Fresh w W := by rw [← hW]; exact (Frm.refl _ w).alloc _
  have hBX : Blk W w.heap.size 33 #[.int .i64 r, .slice A gs.length c] := by rw [← hW]; exact Blk.new w _ _
  have HF := zh hFW
  have y0 : W.cell? ⟨w.heap.size, 0, none⟩ = some (.int .i64 r) := hBX.cell 0
  have y1 : W.cell? ⟨w.heap.size, 1, none⟩ = some (.slice A gs.length c) := hBX.cell 1
  have hA2 := (hA.fresh (Nat.le_refl _) hFW).more hFW.size
  have HRI := zh (rightL_any W r A c gs hA2 hs)
  have HA := zh hA2
  have BX := zh hBX
  have HS := zh hs
  obtain ⟨n, hn⟩ : ∃ n, n = gs.length := ⟨_, rfl⟩
  rw [← hn] at y1 HRI hW BX ⊢
  have HN := zh hn
  obtain ⟨rb, hrb⟩ : ∃ b, b = rightL r gs := ⟨_, rfl⟩
  rw [← hrb] at HRI
  have HRB := zh hrb
  clear hFW hBX hA hA2 hs hn hrb
  go_in
  go_wp2_with fail
  try rw [hW]
  clear hW
  refine HRI.out.mono ?_
  rintro e w1 ⟨rfl, f1⟩
  have HF1 := zh (HF.out.trans f1)
  have b1 := BX.out.frm f1 (fun f => f)
  have z0 : w1.cell? ⟨w.heap.size, 0, none⟩ = some (.int .i64 r) := b1.cell 0
  have z1 : w1.cell? ⟨w.heap.size, 1, none⟩ = some (.slice A n c) := b1.cell 1
  have HA1 := zh ((HA.out.fresh (Nat.le_refl _) f1).more f1.size)
  clear f1 b1 y0 y1
  cases rb with
  | false =>
    have HV : Hid (countL r gs = 0) := zh (by unfold countL; rw [← HRB.out]; rfl)
    go_wp2_with fail
    go_ret
    exact ⟨ret_z HV.out.symm, HF1.out⟩
  | true =>
    have HV : Hid (countL r gs = r * gs.sum) := zh (by unfold countL; rw [← HRB.out]; rfl)
    obtain ⟨⟨q1, q2⟩, _, _, q3⟩ := rightL_of HRB.out.symm
    have q4 := (sum_small gs HS.out.2).1
    have hw : IntKind.i64.wrap (r * gs.sum) = r * gs.sum := IntWalk.i64_in _ (by
      have h1 : r * gs.sum ≤ 60 * 10 := Int.mul_le_mul q2 q3 q4 (by omega)
      have h2 : 0 ≤ r * gs.sum := Int.mul_nonneg (by omega) q4
      omega)
    have HAC : Hid (Calls Tryz.prog 155 #[.agg #[.int .i64 r, .slice A n c]] w1.drew fun e w' => e = .returned (.int .i64 gs.sum) ∧ Fresh w1.drew w') := zh (by rw [HN.out]; exact across_any w1.drew r A c gs HA1.out.drew HS.out)
    have SS : Hid (w1.drew.cell? ⟨w.heap.size, 0, none⟩ = some (.int .i64 r) ∧ w1.drew.cell? ⟨w.heap.size, 1, none⟩ = some (.slice A n c)) := zh ⟨z0, z1⟩
    have HB1 : Hid (∀ w', Fresh w1.drew w' → w'.cell? ⟨w.heap.size, 0, none⟩ = some (.int .i64 r) ∧ w'.cell? ⟨w.heap.size, 1, none⟩ = some (.slice A n c)) := zh fun w' F =>
      ⟨(F.cell (World.block_lt_of_cell? _ _ SS.out.1) (fun f => f)).trans SS.out.1, (F.cell (World.block_lt_of_cell? _ _ SS.out.2) (fun f => f)).trans SS.out.2⟩
    clear z0 z1
    go_wp2_with fail
    go_region_held3 (fun w' => w'.cell? ⟨w.heap.size, 0, none⟩ = some (.int .i64 r) ∧ w'.cell? ⟨w.heap.size, 1, none⟩ = some (.slice A n c)) (first | exact SS.out | exact HB1.out _ HF2.out)
      (first | (go_at_call 155; show Calls _ _ #[_] w1.drew _; refine HAC.out.mono ?_; rintro e w' ⟨rfl, f2⟩; have HF2 := zh f2; clear f2))
    all_goals first | (go_wp2_with fail; go_ret; exact ⟨ret_z HV.out.symm, (HF1.out.drew).trans HF2.out⟩) | trace_state
end
end Go.Proofs.YtbeaoddjomdlcaaGreatDoor

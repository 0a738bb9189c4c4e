/- Proved here, for the statement TopFairCardSaid: laws that its walk leans on. It holds with no condition. (Put together and shortened by a program out of many texts: To2, On4, On9, On10, On11, On12.) -/
import Derived.Test.YtbeaoddjomdlcaaGreatDoorZ04
import Derived.Lib.ItoaLen
set_option linter.unusedVariables false
set_option linter.unusedSimpArgs false
set_option maxRecDepth 100000
set_option maxHeartbeats 64000000
namespace Go.Proofs.YtbeaoddjomdlcaaGreatDoor
section
open Go.RowKit
theorem pHas_any (w : World) (r : Int) (A : Option Addr) (c : Nat) (gs : List Int) (n : Int) (hA : Rd w w.heap.size A (ivs gs)) (hs : small gs) :
    Calls Tryz.prog 114 #[.agg #[.int .i64 r, .slice A gs.length c], .int .i64 n] w fun e w' => e = .returned (.bool (decide (0 ≤ n ∧ n < countL r gs))) ∧ Fresh w w' := by
  obtain ⟨W, hW⟩ : ∃ W, w.alloc (.cells #[.int .i64 r, .slice A gs.length c] 33) = W := ⟨_, rfl⟩
  have hFW : Fresh w W := by rw [← hW]; exact (Frm.refl _ w).alloc _
  have hBX : Blk W w.heap.size 33 #[.int .i64 r, .slice A gs.length c] := by rw [← hW]; exact Blk.new w _ _
  have HF := zh hFW
  have y0 : W.cell? ⟨w.heap.size, 0, none⟩ = some (.int .i64 r) := hBX.cell 0
  have y1 : W.cell? ⟨w.heap.size, 1, none⟩ = some (.slice A gs.length c) := hBX.cell 1
  have hA2 := hA.fresh (Nat.le_refl _) hFW
  have HCN := zh (pCount_any W r A c gs (hA2.more hFW.size) hs)
  clear hFW hBX hA hA2 hs
  by_cases h0 : 0 ≤ n
  · have d0 : decide (0 ≤ n) = true := decide_eq_true h0
    have HV : Hid (decide (0 ≤ n ∧ n < countL r gs) = decide (n < countL r gs)) := zh (by
      by_cases h2 : n < countL r gs
      · rw [decide_eq_true h2]; exact decide_eq_true ⟨h0, h2⟩
      · rw [decide_eq_false h2]; exact decide_eq_false (fun k => h2 k.2))
    go_in
    go_wp2_with fail
    try rw [hW]
    clear hW
    refine HCN.out.mono ?_
    rintro e w1 ⟨rfl, f1⟩
    have HF1 := zh (HF.out.trans f1)
    clear f1
    go_wp2_with fail
    go_ret
    exact ⟨ret_b HV.out.symm, HF1.out⟩
  · have d0 : decide (0 ≤ n) = false := decide_eq_false h0
    have HV : Hid (decide (0 ≤ n ∧ n < countL r gs) = false) := zh (decide_eq_false (fun k => h0 k.1))
    clear h0
    go_in
    go_wp2_with fail
    go_ret
    exact ⟨ret_b HV.out.symm, by first | exact HF.out | (rw [hW]; exact HF.out)⟩
theorem letters_at (i : Nat) (h : i < 10) (w : World) : ∃ x : Int, 0 ≤ x ∧ x ≤ 255 ∧ (Instr.index 9 (.string { data := #[65, 66, 67, 68, 69, 70, 71, 72, 74, 75] }) (.int .i64 (i : Int))).run Tryz.prog w = .ok (.int .u8 x) w := by
  match i, h with
  | 0, _ => exact ⟨65, by omega, by omega, by kernel_rfl⟩
  | 1, _ => exact ⟨66, by omega, by omega, by kernel_rfl⟩
  | 2, _ => exact ⟨67, by omega, by omega, by kernel_rfl⟩
  | 3, _ => exact ⟨68, by omega, by omega, by kernel_rfl⟩
  | 4, _ => exact ⟨69, by omega, by omega, by kernel_rfl⟩
  | 5, _ => exact ⟨70, by omega, by omega, by kernel_rfl⟩
  | 6, _ => exact ⟨71, by omega, by omega, by kernel_rfl⟩
  | 7, _ => exact ⟨72, by omega, by omega, by kernel_rfl⟩
  | 8, _ => exact ⟨74, by omega, by omega, by kernel_rfl⟩
  | 9, _ => exact ⟨75, by omega, by omega, by kernel_rfl⟩
  | n + 10, h => omega
theorem letters_cut (i : Nat) (h : i < 10) : ∃ b : ByteArray, b.size = 1 ∧ ∀ w, (Instr.sliceAt 9 (.string { data := #[65, 66, 67, 68, 69, 70, 71, 72, 74, 75] }) (some (.int .i64 (i : Int))) (some (.int .i64 ((i : Int) + 1))) none).run Tryz.prog w = .ok (.string b) w := by
  match i, h with
  | 0, _ => exact ⟨⟨#[65]⟩, rfl, fun _ => by kernel_rfl⟩
  | 1, _ => exact ⟨⟨#[66]⟩, rfl, fun _ => by kernel_rfl⟩
  | 2, _ => exact ⟨⟨#[67]⟩, rfl, fun _ => by kernel_rfl⟩
  | 3, _ => exact ⟨⟨#[68]⟩, rfl, fun _ => by kernel_rfl⟩
  | 4, _ => exact ⟨⟨#[69]⟩, rfl, fun _ => by kernel_rfl⟩
  | 5, _ => exact ⟨⟨#[70]⟩, rfl, fun _ => by kernel_rfl⟩
  | 6, _ => exact ⟨⟨#[71]⟩, rfl, fun _ => by kernel_rfl⟩
  | 7, _ => exact ⟨⟨#[72]⟩, rfl, fun _ => by kernel_rfl⟩
  | 8, _ => exact ⟨⟨#[74]⟩, rfl, fun _ => by kernel_rfl⟩
  | 9, _ => exact ⟨⟨#[75]⟩, rfl, fun _ => by kernel_rfl⟩
  | n + 10, h => omega
def ColPost (w : World) (e : Ending) (w' : World) : Prop := ∃ i : Int, -1 ≤ i ∧ i ≤ 9 ∧ e = .returned (.int .i64 i) ∧ w' = w
theorem pColumn_any (w : World) (c : Int) : Calls Tryz.prog 149 #[.int .i32 c] w fun e w' => ColPost w e w' := by
  go_in
  go_wp2_with fail
  go_loop [4] (fun v4 => ∃ i : Nat, i ≤ 10 ∧ v4 = .int .i64 (i : Int)) (fun v4 => 10 - (RowKit.intOf v4).toNat)
  case atStart => exact ⟨0, by omega, rfl⟩
  case round =>
    obtain ⟨i, hi, rfl⟩ := hrel
    have hi0 : (0 : Int) ≤ (i : Int) := by omega
    by_cases hlt : i < 10
    · have hlti : (i : Int) < 10 := by omega
      obtain ⟨x, hx0, hx1, hrun⟩ := letters_at i hlt w
      by_cases hx : x = c
      · have d1 : (x == c) = true := by rw [hx]; simp
        clear hx
        go_wp2_with fail
        go_ret
        exact ⟨i, by omega, by omega, rfl, rfl⟩
      · have d1 : (x == c) = false := by rw [beq_eq_false_iff_ne]; exact hx
        clear hx
        go_wp2_with fail
        go_round
        case rel => exact ⟨i + 1, by omega, by go_num⟩
        case measure => simp [RowKit.intOf]; omega
    · have hlti : ¬ (i : Int) < 10 := by omega
      go_wp2_with fail
      go_ret
      exact ⟨-1, by omega, by omega, rfl, rfl⟩
def SidesPost (w : World) (e : Ending) (w' : World) : Prop := ∃ a b : Int, 0 ≤ a ∧ a ≤ 9 ∧ e = .returned (.tuple #[.int .i64 a, .int .i64 b]) ∧ Fresh w w'
theorem pSides_any (w : World) (r : Int) (A : Option Addr) (c : Nat) (gs : List Int) (n : Int) (hA : Rd w w.heap.size A (ivs gs)) (hr : rightL r gs = true) (hn : 0 ≤ n) (hn2 : n ≤ 1000) :
    Calls Tryz.prog 115 #[.agg #[.int .i64 r, .slice A gs.length c], .int .i64 n] w fun e w' => SidesPost w e w' := by
  obtain ⟨h1, h2, h3, h4⟩ := rightL_of hr
  have hs : small gs := ⟨by omega, fun g hg => by have := h3 g hg; omega⟩
  have h5 : 1 ≤ gs.sum := by
    match gs, h2, h3 with
    | g :: t, _, h3 =>
      have := h3 g (by simp)
      have := sum_small t (fun x hx => by have := h3 x (by simp [hx]); omega)
      rw [List.sum_cons]
      omega
  obtain ⟨W, hW⟩ : ∃ W, w.alloc (.cells #[.int .i64 r, .slice A gs.length c] 33) = W := ⟨_, rfl⟩
  have hFW : Fresh w W := by rw [← hW]; exact (Frm.refl _ w).alloc _
  have hBX : Blk W w.heap.size 33 #[.int .i64 r, .slice A gs.length c] := by rw [← hW]; exact Blk.new w _ _
  have HF := zh hFW
  have HY : Hid (∀ w', Fresh W w' → w'.cell? ⟨w.heap.size, 0, none⟩ = some (.int .i64 r) ∧ w'.cell? ⟨w.heap.size, 1, none⟩ = some (.slice A gs.length c)) := zh fun w' F => ⟨(hBX.frm F (fun f => f)).cell 0, (hBX.frm F (fun f => f)).cell 1⟩
  obtain ⟨y0, y1⟩ := HY.out W (Frm.refl _ _)
  have hA2 := hA.fresh (Nat.le_refl _) hFW
  have HAC := zh (pAcross_any W r A c gs (hA2.more hFW.size) hs)
  have HA : Hid (∀ w', Fresh W w' → Rd w' w.heap.size A (ivs gs)) := zh fun w' F => hA2.fresh hFW.size F
  have HG := zh h3
  have hl : gs.length ≤ 4 := h2.2
  obtain ⟨sm, hsm⟩ : ∃ x, x = gs.sum := ⟨_, rfl⟩
  rw [← hsm] at HAC h4 h5
  have HMV : Hid ((n.tmod sm) = n % sm ∧ 0 ≤ n % sm ∧ n % sm ≤ 9) := zh ⟨Int.tmod_eq_emod_of_nonneg hn, Int.emod_nonneg _ (by omega), by have := Int.emod_lt_of_pos n (show 0 < sm by omega); omega⟩
  have hz : (sm == 0) = false := by rw [beq_eq_false_iff_ne]; omega
  have hz1 : ¬ sm = 0 := by omega
  have hz2 : ¬ sm = -1 := by omega
  clear hFW hBX hA hA2 hs h1 h2 h3 hsm hr
  go_in
  go_wp2_with fail
  try rw [hW]
  clear hW
  refine HAC.out.mono ?_
  rintro e w1 ⟨rfl, f1⟩
  obtain ⟨z0, z1⟩ := HY.out w1 f1
  have hrd := HA.out w1 f1
  have HR := zh hrd
  have HF1 := zh (HF.out.trans f1)
  clear f1 y0 y1 hrd
  go_wp2_with fail
  obtain ⟨a0, ha0⟩ : ∃ x, x = n % sm := ⟨_, rfl⟩
  obtain ⟨hm1, hm2⟩ := HMV.out.2
  rw [← ha0] at hm1 hm2 ⊢
  clear ha0 HMV hz hz1 hz2
  go_loopw [6, 16] (fun v6 v16 wr => ∃ (i : Nat) (a : Int), i ≤ gs.length ∧ 0 ≤ a ∧ a ≤ 9 ∧ v6 = .int .i64 a ∧ v16 = .int .i64 (i : Int) ∧ wr = w1) (fun _ v16 _ => gs.length - (RowKit.intOf v16).toNat)
  case atStart => exact ⟨0, a0, by omega, by omega, by omega, rfl, rfl, rfl⟩
  case round =>
    obtain ⟨i, a, hi, ha1, ha2, rfl, rfl, rfl⟩ := hrel
    have hi0 : (0 : Int) ≤ (i : Int) := by omega
    by_cases hlt : i < gs.length
    · have hlti : (i : Int) < (gs.length : Int) := by omega
      obtain ⟨b, o, rfl, _, hc⟩ := HR.out.at_ (k := i) (by simpa using hlt)
      rw [List.getElem_map] at hc
      have hg := HG.out _ (List.getElem_mem hlt)
      generalize gs[i] = x at hc hg
      by_cases hx : a < x
      · have w1' : IntKind.i64.wrap (x - 1) = x - 1 := IntWalk.i64_in _ (by omega)
        have w2' : IntKind.i64.wrap (x - 1 - a) = x - 1 - a := IntWalk.i64_in _ (by omega)
        have d1 : decide (a < x) = true := decide_eq_true hx
        go_wp2_with fail
        go_ret2
        exact ⟨a, x - 1 - a, ha1, ha2, rfl, HF1.out⟩
      · have w1' : IntKind.i64.wrap (a - x) = a - x := IntWalk.i64_in _ (by omega)
        have d1 : decide (a < x) = false := decide_eq_false hx
        go_wp2_with fail
        go_roundw
        case rel => exact ⟨i + 1, a - x, by omega, by omega, by omega, rfl, by go_num, by first | rfl | trivial⟩
        case measure => simp [RowKit.intOf]; omega
    · have hlti : ¬ (i : Int) < (gs.length : Int) := by omega
      go_wp2_with fail
      go_ret2
      exact ⟨0, 0, by omega, by omega, rfl, HF1.out⟩
def LblPost (w : World) (e : Ending) (w' : World) : Prop := ∃ (s : ByteArray) (k : Int), s.size ≤ 1000 ∧ e = .returned (.tuple #[.string s, .int .i64 k]) ∧ Fresh w w'
theorem pLabel_any (w : World) (r : Int) (A : Option Addr) (c : Nat) (gs : List Int) (n : Int) (hA : Rd w w.heap.size A (ivs gs)) (hs : small gs) :
    Calls Tryz.prog 117 #[.agg #[.int .i64 r, .slice A gs.length c], .int .i64 n] w fun e w' => LblPost w e w' := by
  obtain ⟨W, hW⟩ : ∃ W, w.alloc (.cells #[.int .i64 r, .slice A gs.length c] 33) = W := ⟨_, rfl⟩
  have hFW : Fresh w W := by rw [← hW]; exact (Frm.refl _ w).alloc _
  have hBX : Blk W w.heap.size 33 #[.int .i64 r, .slice A gs.length c] := by rw [← hW]; exact Blk.new w _ _
  have HF := zh hFW
  have HY : Hid (∀ w', Fresh W w' → w'.cell? ⟨w.heap.size, 0, none⟩ = some (.int .i64 r) ∧ w'.cell? ⟨w.heap.size, 1, none⟩ = some (.slice A gs.length c)) := zh fun w' F => ⟨(hBX.frm F (fun f => f)).cell 0, (hBX.frm F (fun f => f)).cell 1⟩
  obtain ⟨y0, y1⟩ := HY.out W (Frm.refl _ _)
  have hA2 := hA.fresh (Nat.le_refl _) hFW
  have HH := zh (pHas_any W r A c gs n (hA2.more hFW.size) hs)
  have HAC : Hid (∀ w', Fresh W w' → Calls Tryz.prog 94 #[.agg #[.int .i64 r, .slice A gs.length c]] w' fun e w'' => e = .returned (.int .i64 gs.sum) ∧ Fresh w' w'') := zh fun w' F => pAcross_any w' r A c gs ((hA2.fresh hFW.size F).more (Nat.le_trans hFW.size F.size)) hs
  clear hFW hBX hA hA2
  by_cases hx : 0 ≤ n ∧ n < countL r gs
  · rw [decide_eq_true hx] at HH
    have hr : rightL r gs = true := by
      rcases Bool.eq_false_or_eq_true (rightL r gs) with h | h
      · exact h
      · have : countL r gs = 0 := by unfold countL; rw [h]; rfl
        omega
    have hcl : countL r gs = r * gs.sum := by unfold countL; rw [hr, if_pos rfl]
    obtain ⟨h1, h2, h3, h4⟩ := rightL_of hr
    have hb := (countL_bd r gs).2
    have h0 : 0 ≤ n := hx.1
    have h6 : n < r * gs.sum := by rw [← hcl]; exact hx.2
    clear hs hx hr hcl h3 h2
    have hs0 : 0 < gs.sum := by
      rcases Int.lt_or_le 0 gs.sum with h | h
      · exact h
      · have : r * gs.sum ≤ 0 := Int.mul_nonpos_of_nonneg_of_nonpos (by omega) h
        omega
    generalize gs.sum = sm at HAC h4 h6 hs0
    have HQ : Hid (∃ q : Nat, n / sm = (q : Int) ∧ q < 60) := zh (by
      have q0 := Int.ediv_nonneg h0 (show 0 ≤ sm by omega)
      have q1 : n / sm < 60 := by
        refine Int.lt_of_lt_of_le (Int.ediv_lt_of_lt_mul hs0 h6) h1.2
      exact ⟨(n / sm).toNat, by omega, by omega⟩)
    have HM : Hid (∃ m : Nat, n % sm = (m : Int) ∧ m < 10) := zh (by
      have q0 := Int.emod_nonneg n (show sm ≠ 0 by omega)
      have q1 := Int.emod_lt_of_pos n hs0
      exact ⟨(n % sm).toNat, by omega, by omega⟩)
    obtain ⟨q, hq, hq6⟩ := HQ.out
    obtain ⟨m, hm, hm1⟩ := HM.out
    have hq' : n.tdiv sm = (q : Int) := by rw [Int.tdiv_eq_ediv_of_nonneg h0]; exact hq
    have hm' : n.tmod sm = (m : Int) := by rw [Int.tmod_eq_emod_of_nonneg h0]; exact hm
    obtain ⟨st, hst⟩ : ∃ x : ByteArray, x = ⟨(Lib.decDigits (q + 1)).toArray⟩ := ⟨_, rfl⟩
    have HIT : Hid (∀ w, Calls Tryz.prog 153 #[.int .i64 ((q : Int) + 1)] w fun e w' => e = .returned (.string st) ∧ w' = w) := zh fun w => by rw [hst]; exact Go.Proofs.Tryz.strconv_Itoa_small (q + 1) (by omega) w
    have HDL : Hid (st.size ≤ 100) := zh (by
      have h1 : st.size = (Lib.decDigits (q + 1)).length := by rw [hst]; rfl
      rw [h1, Lib.decDigits_length]
      have := Lib.nDigits_le20 (q + 1) (by omega)
      omega)
    have e1 : IntKind.i64.wrap ((q : Int) + 1) = (q : Int) + 1 := IntWalk.i64_in _ (by omega)
    have e2 : IntKind.i64.wrap ((m : Int) + 1) = (m : Int) + 1 := IntWalk.i64_in _ (by omega)
    have e0 : IntKind.i64.wrap (q : Int) = (q : Int) := IntWalk.i64_in _ (by omega)
    have e0' : IntKind.i64.wrap (m : Int) = (m : Int) := IntWalk.i64_in _ (by omega)
    have e3 : (0 : Int) ≤ (m : Int) := by omega
    have e4 : (m : Int) + 1 ≤ 10 := by omega
    obtain ⟨bl, hbl, hcut⟩ := letters_cut m hm1
    have HBL := zh hbl
    have hz : (sm == 0) = false := by rw [beq_eq_false_iff_ne]; omega
    have hz1 : ¬ sm = 0 := by omega
    have hz2 : ¬ sm = -1 := by omega
    have hadd : ∀ w, (Op.stringOp .add st bl).run Tryz.prog w = .ok (.string (st ++ bl)) w := fun w => run_string_add_sum _ st bl (by have := HDL.out; have := HBL.out; omega)
    have HSZ : Hid ((st ++ bl).size ≤ 1000) := zh (by have := HDL.out; have := HBL.out; rw [ByteArray.size_append]; omega)
    clear hst hbl HQ HM h1 h4 h6 hb
    go_in
    go_wp2_with fail
    try rw [hW]
    clear hW
    refine HH.out.mono ?_
    rintro e w1 ⟨rfl, f1⟩
    obtain ⟨z0, z1⟩ := HY.out w1 f1
    have HF1 := zh f1
    clear f1 y0 y1
    go_wp2_with fail
    refine (HAC.out w1 HF1.out).mono ?_
    rintro e w2 ⟨rfl, f2⟩
    have HF2 := zh f2
    clear f2
    go_wp2_with fail
    go_quiet ((go_at_call 153; exact Calls.quiet_of_same (HIT.out _)))
    go_wp2_with fail
    go_ret2
    exact ⟨_, _, HSZ.out, rfl, (HF.out.trans (HF1.out.trans HF2.out)).drewN _⟩
  · rw [decide_eq_false hx] at HH
    clear hx hs
    go_in
    go_wp2_with fail
    try rw [hW]
    clear hW
    refine HH.out.mono ?_
    rintro e w1 ⟨rfl, f1⟩
    have HF1 := zh (HF.out.trans f1)
    clear f1
    go_wp2_with fail
    go_ret2
    exact ⟨_, _, by decide, rfl, HF1.out⟩
def FindPost (w : World) (e : Ending) (w' : World) : Prop := ∃ n k : Int, (0 ≤ n ∧ n < 600) ∧ e = .returned (.tuple #[.int .i64 n, .int .i64 k]) ∧ Fresh w w'
theorem width1 (s : ByteArray) (pos : Nat) (h : pos < s.size) : 1 ≤ (Utf8.decode s pos).2 := by
  by_cases ha : (s[pos]'h).toNat < 128
  · rw [decode_ascii s pos h ha]; exact Nat.le_refl _
  · exact (decode_high s pos h (by omega)).2
theorem iter_fresh (w : World) (s : ByteArray) (p : Nat) : Fresh w (w.iter s p) := (Frm.refl _ w).alloc _
theorem rowB {r row sm last : Int} (h1 : 1 ≤ row) (h2 : row ≤ r) (hr : r ≤ 60) (hs : sm ≤ 10) (h0 : 0 ≤ sm) (hl : 0 ≤ last) (hl2 : last < sm) : 0 ≤ (row - 1) * sm ∧ (row - 1) * sm ≤ 590 ∧ 0 ≤ (row - 1) * sm + last ∧ (row - 1) * sm + last < 600 := by
  have a1 : 0 ≤ (row - 1) * sm := Int.mul_nonneg (by omega) h0
  have a2 : (row - 1) * sm ≤ 59 * 10 := Int.mul_le_mul (by omega) hs h0 (by omega)
  omega
theorem pFind_any (w : World) (r : Int) (A : Option Addr) (c : Nat) (gs : List Int) (lb : ByteArray) (hA : Rd w w.heap.size A (ivs gs)) (hs : small gs) (hlb : lb.size ≤ 1000) :
    Calls Tryz.prog 111 #[.agg #[.int .i64 r, .slice A gs.length c], .string lb] w fun e w' => FindPost w e w' := by
  obtain ⟨W, hW⟩ : ∃ W, w.alloc (.cells #[.int .i64 r, .slice A gs.length c] 33) = W := ⟨_, rfl⟩
  have hFW : Fresh w W := by rw [← hW]; exact (Frm.refl _ w).alloc _
  have hBX : Blk W w.heap.size 33 #[.int .i64 r, .slice A gs.length c] := by rw [← hW]; exact Blk.new w _ _
  have HF := zh hFW
  have HY : Hid (∀ w', Fresh W w' → w'.cell? ⟨w.heap.size, 0, none⟩ = some (.int .i64 r) ∧ w'.cell? ⟨w.heap.size, 1, none⟩ = some (.slice A gs.length c)) := zh fun w' F => ⟨(hBX.frm F (fun f => f)).cell 0, (hBX.frm F (fun f => f)).cell 1⟩
  obtain ⟨y0, y1⟩ := HY.out W (Frm.refl _ _)
  have hA2 := hA.fresh (Nat.le_refl _) hFW
  have HRG := zh (pRight_any W r A c gs (hA2.more hFW.size) hs)
  have HAC : Hid (∀ w', Fresh W w' → Calls Tryz.prog 94 #[.agg #[.int .i64 r, .slice A gs.length c]] w' fun e w'' => e = .returned (.int .i64 gs.sum) ∧ Fresh w' w'') := zh fun w' F => pAcross_any w' r A c gs ((hA2.fresh hFW.size F).more (Nat.le_trans hFW.size F.size)) hs
  clear hFW hBX hA hA2
  cases hr : rightL r gs with
  | false =>
    rw [hr] at HRG
    clear hr hs
    go_in
    go_wp2_with fail
    try rw [hW]
    clear hW
    refine HRG.out.mono ?_
    rintro e w1 ⟨rfl, f1⟩
    have HF1 := zh (HF.out.trans f1)
    clear f1
    go_wp2_with fail
    go_ret2
    exact ⟨0, 1, by omega, rfl, HF1.out⟩
  | true =>
    rw [hr] at HRG
    obtain ⟨h1, h2, h3, h4⟩ := rightL_of hr
    have h5 := (sum_small gs hs.2).1
    obtain ⟨sm, hsm⟩ : ∃ x, x = gs.sum := ⟨_, rfl⟩
    rw [← hsm] at HAC h4 h5
    obtain ⟨hr1, hr2⟩ := h1
    clear hr hs hsm h2 h3
    go_in
    go_wp2_with fail
    try rw [hW]
    clear hW
    refine HRG.out.mono ?_
    rintro e w1 ⟨rfl, f1⟩
    have HF1 := zh f1
    clear f1 y0 y1
    go_wp2_with fail
    go_loopw [6, 7] (fun v6 v7 wr => ∃ (pos : Nat) (row last : Int), 0 ≤ row ∧ row ≤ 609 ∧ -1 ≤ last ∧ last ≤ 9 ∧ v6 = .int .i64 row ∧ v7 = .int .i64 last ∧ wr = w1.iter lb pos) (fun _ _ wr => lb.size - wr.iterPos w1.heap.size)
    case atStart => exact ⟨0, 0, -1, by omega, by omega, by omega, by omega, rfl, rfl, rfl⟩
    case round =>
      obtain ⟨pos, row, last, b1, b2, b3, b4, rfl, rfl, rfl⟩ := hrel
      have HI := zh (iter_fresh w1 lb pos)
      by_cases hp : pos < lb.size
      · have hnx := fun ty => run_next_any (P := Tryz.prog) w1 lb pos ty hp
        have hw1 := width1 lb pos hp
        have hd := decode_le lb pos
        generalize (Utf8.decode lb pos).1 = d at hnx hd
        generalize (Utf8.decode lb pos).2 = q at hnx hw1
        go_wp2_with (go_at_call 149; refine (pColumn_any _ _).mono ?_; rintro e w2 ⟨i, hi1, hi2, rfl, rfl⟩)
        all_goals first
          | (go_ret2
             exact ⟨0, 2, by omega, rfl, HF.out.trans (HF1.out.trans (iter_fresh _ _ _))⟩)
          | (go_roundw
             case rel => exact ⟨_, _, _, by omega, by omega, by omega, by omega, rfl, rfl, rfl⟩
             case measure => rw [World.iterPos_iter, World.iterPos_iter]; omega)
      · have hnx := fun ty => run_next_end (P := Tryz.prog) w1 lb pos ty hp
        obtain ⟨z0, z1⟩ := HY.out _ (HF1.out.trans HI.out)
        have HX := zh (HF.out.trans (HF1.out.trans HI.out))
        have HAX := zh (HAC.out _ (HF1.out.trans HI.out))
        have HYX : Hid (∀ w', Fresh (w1.iter lb pos) w' → w'.cell? ⟨w.heap.size, 0, none⟩ = some (.int .i64 r) ∧ w'.cell? ⟨w.heap.size, 1, none⟩ = some (.slice A gs.length c)) := zh fun w' F => HY.out _ ((HF1.out.trans HI.out).trans F)
        have HAY : Hid (∀ w', Fresh (w1.iter lb pos) w' → Calls Tryz.prog 94 #[.agg #[.int .i64 r, .slice A gs.length c]] w' fun e w'' => e = .returned (.int .i64 sm) ∧ Fresh w' w'') := zh fun w' F => HAC.out _ ((HF1.out.trans HI.out).trans F)
        clear hp
        by_cases g1 : 1 ≤ row
        · have d1 : decide (row < 1) = false := decide_eq_false (by omega)
          by_cases g2 : row ≤ r
          · have d2 : decide (r < row) = false := decide_eq_false (by omega)
            by_cases g3 : 0 ≤ last
            · have d3 : decide (last < 0) = false := decide_eq_false (by omega)
              by_cases g4 : last < sm
              · have d4 : decide (sm ≤ last) = false := decide_eq_false (by omega)
                obtain ⟨k1, k2, k3, k4⟩ := rowB g1 g2 hr2 h4 h5 g3 g4
                have hw0 : IntKind.i64.wrap (row - 1) = row - 1 := IntWalk.i64_in _ (by omega)
                have hw1 : IntKind.i64.wrap ((row - 1) * sm) = (row - 1) * sm := IntWalk.i64_in _ (by omega)
                have hw2 : IntKind.i64.wrap ((row - 1) * sm + last) = (row - 1) * sm + last := IntWalk.i64_in _ (by omega)
                have K3 := zh (show 0 ≤ (row - 1) * sm + last ∧ (row - 1) * sm + last < 600 from ⟨k3, k4⟩)
                clear k1 k2 k3 k4
                go_wp2_with fail
                refine HAX.out.mono ?_
                rintro e w3 ⟨rfl, f3⟩
                obtain ⟨x0, x1⟩ := HYX.out _ f3
                have HF3 := zh f3
                clear f3
                go_wp2_with fail
                refine (HAY.out _ HF3.out).mono ?_
                rintro e w4 ⟨rfl, f4⟩
                have HF4 := zh (HX.out.trans (HF3.out.trans f4))
                clear f4
                go_wp2_with fail
                go_ret2
                exact ⟨_, 0, K3.out, rfl, HF4.out⟩
              · have d4 : decide (sm ≤ last) = true := decide_eq_true (by omega)
                go_wp2_with fail
                refine HAX.out.mono ?_
                rintro e w3 ⟨rfl, f3⟩
                have HF3 := zh (HX.out.trans f3)
                clear f3
                go_wp2_with fail
                go_ret2
                exact ⟨0, 2, by omega, rfl, HF3.out⟩
            · have d3 : decide (last < 0) = true := decide_eq_true (by omega)
              go_wp2_with fail
              go_ret2
              exact ⟨0, 2, by omega, rfl, HX.out⟩
          · have d2 : decide (r < row) = true := decide_eq_true (by omega)
            go_wp2_with fail
            go_ret2
            exact ⟨0, 2, by omega, rfl, HX.out⟩
        · have d1 : decide (row < 1) = true := decide_eq_true (by omega)
          go_wp2_with fail
          go_ret2
          exact ⟨0, 2, by omega, rfl, HX.out⟩
theorem info_i64 : (Tryz.prog.info? 3).map (fun i => (i.zero, i.size, i.bytes)) = some (some (.int .i64 0), 1, 8) := by kernel_rfl
theorem flat_len4 {α : Type} (f : α → List Value) (hf : ∀ a, (f a).length = 4) (l : List α) : (l.flatMap f).length = l.length * 4 := by
  induction l with
  | nil => rfl
  | cons x r ih => rw [List.flatMap_cons, List.length_append, ih, hf, List.length_cons]; omega
structure Hd where
  ow : Int
  cl : Int
  mn : Int
  A : Option Addr
  c : Nat
  st : List Int
def hcel (h : Hd) : List Value := [.int .i64 h.ow, .int .i64 h.cl, .int .i64 h.mn, .slice h.A h.st.length h.c]
theorem hcel_len (l : List Hd) : (l.flatMap hcel).length = l.length * 4 := flat_len4 hcel (fun _ => rfl) l
theorem hcel_get : ∀ (l : List Hd) (i : Nat) (h : i < l.length) (j : Nat), j < 4 → (l.flatMap hcel)[i * 4 + j]? = (hcel l[i])[j]?
  | x :: l, 0, _, j, hj => by
    rw [List.flatMap_cons, Nat.zero_mul, Nat.zero_add, List.getElem?_append_left (by exact hj)]
    rfl
  | x :: l, i + 1, h, j, hj => by
    rw [List.flatMap_cons, List.getElem?_append_right (by show 4 ≤ _; omega), show (hcel x).length = 4 from rfl, show (i + 1) * 4 + j - 4 = i * 4 + j by omega]
    exact hcel_get l i (by simpa using h) j hj
def FourH (w : World) (b o : Nat) (e : Hd) : Prop :=
  w.cell? ⟨b, o, none⟩ = some (.int .i64 e.ow) ∧ w.cell? ⟨b, o + 1, none⟩ = some (.int .i64 e.cl) ∧ w.cell? ⟨b, o + 2, none⟩ = some (.int .i64 e.mn) ∧ w.cell? ⟨b, o + 3, none⟩ = some (.slice e.A e.st.length e.c)
theorem hold_at {w : World} {B : Nat} {A : Option Addr} {l : List Hd} (h : Rd w B A (l.flatMap hcel)) {i : Nat} (hi : i < l.length) :
    ∃ b o, A = some ⟨b, o, none⟩ ∧ b < B ∧ FourH w b (o + i * 4) l[i] := by
  have hne : l.flatMap hcel ≠ [] := fun e => by
    have := hcel_len l
    rw [e] at this
    simp at this
    omega
  obtain ⟨b, o, hA, hb, hc⟩ := h hne
  have g := fun j (hj : j < 4) => hcel_get l i hi j hj
  refine ⟨b, o, hA, hb, ?_, ?_, ?_, ?_⟩
  · exact hc _ _ (g 0 (by omega))
  · rw [Nat.add_assoc]; exact hc _ _ (g 1 (by omega))
  · rw [Nat.add_assoc]; exact hc _ _ (g 2 (by omega))
  · rw [Nat.add_assoc]; exact hc _ _ (g 3 (by omega))
structure FlM where
  num : Int
  rows : Int
  GA : Option Addr
  gc : Nat
  gs : List Int
  LA : Option Addr
  lc : Nat
  lims : List Int
  HA : Option Addr
  hc : Nat
  hs : List Hd
def fcel (m : FlM) : Array Value := #[.int .i64 m.num, .int .i64 m.rows, .slice m.GA m.gs.length m.gc, .slice m.LA m.lims.length m.lc, .slice m.HA m.hs.length m.hc]
structure FlAt (w : World) (B f : Nat) (m : FlM) : Prop where
  blk : Blk w f 167 (fcel m)
  gsl : Sl w B 3 1 (.slice m.GA m.gs.length m.gc) m.gs.length (ivs m.gs)
  lsl : Sl w B 3 1 (.slice m.LA m.lims.length m.lc) m.lims.length (ivs m.lims)
  hsl : Sl w B 139 4 (.slice m.HA m.hs.length m.hc) m.hs.length (m.hs.flatMap hcel)
  ssl : ∀ h ∈ m.hs, Sl w B 3 1 (.slice h.A h.st.length h.c) h.st.length (ivs h.st)
theorem FlAt.fresh {w w' : World} {B f : Nat} {m : FlM} (h : FlAt w B f m) (F : Fresh w w') : FlAt w' B f m :=
  ⟨h.blk.frm F (fun f => f), h.gsl.fresh F, h.lsl.fresh F, h.hsl.fresh F, fun x hx => (h.ssl x hx).fresh F⟩
def OwnL (w : World) (l : List Int) (e : Ending) (w' : World) : Prop := ∃ v, e = .returned v ∧ Sl w' w.heap.size 3 1 v l.length (ivs l) ∧ Fresh w w'
end
def soldS (acc : List Int) (h : Hd) : List Int := acc.set h.cl.toNat ((acc[h.cl.toNat]?).getD 0 + h.mn)
def soldF (nl : Nat) (hs : List Hd) : List Int := hs.foldl soldS (List.replicate nl 0)
theorem soldF_nil (nl : Nat) : soldF nl [] = List.replicate nl 0 := rfl
theorem soldF_step {nl : Nat} {hs : List Hd} {i : Nat} (h : i < hs.length) : soldF nl (hs.take (i + 1)) = soldS (soldF nl (hs.take i)) hs[i] := by
  unfold soldF
  rw [List.take_succ_eq_append_getElem h, List.foldl_append]
  rfl
theorem soldS_len (acc : List Int) (h : Hd) : (soldS acc h).length = acc.length := List.length_set
theorem soldF_len (nl : Nat) (hs : List Hd) : (soldF nl hs).length = nl := by
  unfold soldF
  have : ∀ (l : List Hd) (acc : List Int), (l.foldl soldS acc).length = acc.length := by
    intro l
    induction l with
    | nil => intro acc; rfl
    | cons x r ih => intro acc; rw [List.foldl_cons, ih, soldS_len]
  rw [this, List.length_replicate]
theorem soldS_bd {acc : List Int} {h : Hd} {a k : Int} (hk0 : 0 ≤ k) (ha0 : 0 ≤ a) (h0 : 0 ≤ h.mn) (h1 : h.mn ≤ k) (hacc : ∀ y ∈ acc, 0 ≤ y ∧ y ≤ a) : ∀ y ∈ soldS acc h, 0 ≤ y ∧ y ≤ a + k := by
  intro y hy
  unfold soldS at hy
  rcases List.mem_or_eq_of_mem_set hy with hm | rfl
  · have := hacc y hm
    omega
  · cases hg : acc[h.cl.toNat]? with
    | none => simp; omega
    | some z =>
      have := hacc z (List.mem_of_getElem? hg)
      simp
      omega
theorem soldF_bd {nl : Nat} {hs : List Hd} {k : Int} (hk0 : 0 ≤ k) (hb : ∀ x ∈ hs, 0 ≤ x.mn ∧ x.mn ≤ k) : ∀ (i : Nat), i ≤ hs.length → ∀ y ∈ soldF nl (hs.take i), 0 ≤ y ∧ y ≤ (i : Int) * k
  | 0, _, y, hy => by
    rw [List.take_zero, soldF_nil] at hy
    have := List.eq_of_mem_replicate hy
    simp [this]
  | i + 1, hi, y, hy => by
    have hlt : i < hs.length := by omega
    rw [soldF_step hlt] at hy
    have hx := hb _ (List.getElem_mem hlt)
    have h2 := soldS_bd hk0 (Int.mul_nonneg (Int.natCast_nonneg i) hk0) hx.1 hx.2 (soldF_bd hk0 hb i (by omega)) y hy
    rw [Int.natCast_succ, Int.add_mul, Int.one_mul]
    exact h2
section
open Go.RowKit
def zarr (n : Nat) : Array Value := (ivs (List.replicate n 0)).toArray
theorem made_ints (n : Nat) : madeCells (Value.int .i64 0).cells (n * 1) = zarr n := by
  unfold zarr ivs
  apply Array.ext_getElem?
  intro j
  rw [Nat.mul_one]
  by_cases h : j < n
  · simp [madeCells, h, Value.cells, Nat.mod_one]
  · simp [madeCells, h]
theorem make_ints (n : Nat) (hn : n ≤ 1000) (w : World) : (Instr.makeSlice 26 (.int .i64 (n : Int)) (.int .i64 (n : Int))).run Tryz.prog w = .ok (.slice (some ⟨w.heap.size, 0, none⟩) n n) (w.alloc (.cells (zarr n) 3)) := by
  obtain ⟨i0, hi, hz0, hz1, hz2⟩ := info_parts info_i64
  have hr := run_make (P := Tryz.prog) w 26 3 i0 _ Tryz.underlying26 hi hz0 .i64 .i64 n n (by omega) (Int.le_refl _) (by rw [hz2]; omega) (by omega)
  simp only [Int.toNat_natCast] at hr
  rw [hr, hz1, made_ints]
theorem zarr_sl (w : World) (n : Nat) (h : n ≤ 1000) : Sl (w.alloc (.cells (zarr n) 3)) w.heap.size 3 1 (.slice (some ⟨w.heap.size, 0, none⟩) n n) n (ivs (List.replicate n 0)) := by
  have hl : (ivs (List.replicate n 0)).length = n := by unfold ivs; simp
  have := sl_new w w.heap.size (ivs (List.replicate n 0)) 3 (Nat.le_refl _) (by rw [hl]; unfold maxLen; omega)
  rw [hl] at this
  exact this
theorem sold15_any (w : World) (B f : Nat) (m : FlM) (h : FlAt w B f m) (hl : m.hs.length ≤ 1000) (hn : m.lims.length ≤ 8)
    (hb : ∀ x ∈ m.hs, 0 ≤ x.mn ∧ x.mn ≤ 1000000) (hc : ∀ x ∈ m.hs, 0 ≤ x.cl ∧ x.cl < (m.lims.length : Int)) :
    Calls Tryz.prog 125 #[.pointer (some ⟨f, 0, none⟩)] w fun e w' => OwnL w (soldF m.lims.length m.hs) e w' := by
  have HFA := zh h
  obtain ⟨hs, hhs⟩ : ∃ x, x = m.hs := ⟨_, rfl⟩
  obtain ⟨nl, hnl⟩ : ∃ x, x = m.lims.length := ⟨_, rfl⟩
  have HY : Hid (∀ w', Fresh w w' → w'.cell? ⟨f, 4, none⟩ = some (.slice m.HA hs.length m.hc)) := zh fun w' F => by rw [hhs]; exact (h.fresh F).blk.cell 4
  have y3 : w.cell? ⟨f, 3, none⟩ = some (.slice m.LA nl m.lc) := by rw [hnl]; exact h.blk.cell 3
  have HR : Hid (∀ w', Fresh w w' → Rd w' w'.heap.size m.HA (hs.flatMap hcel)) := zh fun w' F => by rw [hhs]; exact (h.fresh F).hsl.rd
  rw [← hhs] at hl hb hc ⊢
  rw [← hnl] at hn hc ⊢
  have HB := zh hb
  have HC := zh hc
  generalize m.HA = HA at HY HR
  generalize m.hc = c at HY
  generalize m.LA = LA at y3
  generalize m.lc = lc at y3
  have S0 := zh (zarr_sl w nl (by omega))
  have hmk := make_ints nl (by omega)
  clear h hhs hnl HFA hb hc
  go_in
  go_wp2_with fail
  go_loopw [4] (fun v4 wr => ∃ (i : Nat), i ≤ hs.length ∧ v4 = .int .i64 (i : Int) ∧ Sl wr w.heap.size 3 1 (.slice (some ⟨w.heap.size, 0, none⟩) nl nl) nl (ivs (soldF nl (hs.take i))) ∧ Fresh w wr) (fun v4 _ => hs.length - (RowKit.intOf v4).toNat)
  case atStart => exact ⟨0, by omega, rfl, S0.out, (Frm.refl _ _).alloc _⟩
  case round =>
    obtain ⟨i, hil, rfl, hsl, hf⟩ := hrel
    have hi0 : (0 : Int) ≤ (i : Int) := by omega
    have y4 := HY.out wr hf
    have HF := zh hf
    have HSL := zh hsl
    clear hsl hf
    by_cases hlt : i < hs.length
    · have hlti : (i : Int) < (hs.length : Int) := by omega
      obtain ⟨b, o, hA, _, _, c1, c2, _⟩ := hold_at (HR.out wr HF.out) hlt
      subst hA
      obtain ⟨hc0, hc1⟩ := HC.out _ (List.getElem_mem hlt)
      obtain ⟨hb0, hb1⟩ := HB.out _ (List.getElem_mem hlt)
      have HN := zh (soldF_step (nl := nl) hlt)
      have HL := zh (soldF_len nl (hs.take i))
      have HBD := zh (soldF_bd (nl := nl) (k := 1000000) (by omega) HB.out i hil)
      generalize soldF nl (hs.take i) = s at HN HL HBD HSL
      generalize hs[i] = x at c1 c2 hc0 hc1 hb0 hb1 HN
      obtain ⟨xo, xc, xm, xA, xk, xs⟩ := x
      simp only at c1 c2 hc0 hc1 hb0 hb1
      obtain ⟨k, rfl⟩ := Int.eq_ofNat_of_zero_le hc0
      have hk : k < s.length := by have := HL.out; omega
      obtain ⟨b2, o2, he, _, hcc⟩ := HSL.out.rd.at_ (k := k) (by unfold ivs; simpa using hk)
      injection he with he
      injection he with he1 he2
      subst he1 he2
      unfold ivs at hcc
      rw [List.getElem_map, Nat.zero_add] at hcc
      have hy := HBD.out _ (List.getElem_mem hk)
      have HY2 : Hid (soldS s ⟨xo, (k : Int), xm, xA, xk, xs⟩ = s.set k (s[k] + xm)) := zh (by unfold soldS; simp [List.getElem?_eq_getElem hk])
      generalize s[k] = y at hcc hy HY2
      obtain ⟨hy0, hy1⟩ := hy
      have hy2 : y ≤ 1000000000 := by omega
      clear hy1
      go_wp2_with fail
      have hz := HSL.out.frozen k
      go_region
      go_wp2_with fail
      go_roundw
      case rel =>
        refine ⟨i + 1, by omega, by go_num, ?_, ?_⟩
        · rw [HN.out, HY2.out]
          have h := (HSL.out.drew).store (j := k) (by unfold ivs; simpa using hk) (.int .i64 (y + xm))
          rw [Nat.zero_add] at h
          unfold ivs at h ⊢
          rw [List.map_set]
          exact h
        · exact (HF.out.drew).setCell (p := ⟨w.heap.size, k, none⟩) (fun h => by simp at h) _
      case measure => simp [RowKit.intOf]; omega
    · have hlti : ¬ (i : Int) < (hs.length : Int) := by omega
      have HE : Hid (hs.take i = hs) := zh (List.take_of_length_le (by omega))
      go_wp2_with fail
      go_ret
      unfold OwnL
      rw [HE.out] at HSL
      rw [soldF_len]
      exact ⟨_, rfl, HSL.out, HF.out⟩
end
end Go.Proofs.YtbeaoddjomdlcaaGreatDoor

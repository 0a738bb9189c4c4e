/- Proved here, for the statement ClientOnceSaid: laws that its walk leans on. It holds with no condition. (Put together and shortened by a program out of many texts: Level, NestLim, NestLim2, On18, On19.) -/
import Derived.Test.YtnmokpbomeamfaaGreatZ04
set_option linter.unusedVariables false
set_option maxRecDepth 100000
set_option maxHeartbeats 64000000
namespace Go.Proofs.YtnmokpbomeamfaaGreat
section
open Go.RowKit
theorem lv_f64_format : FloatKind.f64.format = Ieee.double := rfl
theorem lv_isnan_eq (u : Nat) : (FloatKind.f64.format.order u u != some Ordering.eq) = FareM.nan u := by
 rw [lv_f64_format]
 by_cases h : FareM.nan u = true
 ·rw [FareM.order_nan_left u h, h]; rfl
 ·have h : FareM.nan u = false := by simpa using h
  rw [FareM.order_eq h h, FareM.cmp_eq rfl, h]; rfl
theorem lv_lt_eq {u v : Nat} (hu : FareM.nan u = false) (hv : FareM.nan v = false) : (FloatKind.f64.format.order u v == some Ordering.lt) = decide (FareM.worth u < FareM.worth v) := by
 rw [lv_f64_format, FareM.order_eq hu hv]
 rcases Int.lt_trichotomy (FareM.worth u) (FareM.worth v) with h | h | h
 ·rw [FareM.cmp_lt h]; simp [h]
 ·rw [FareM.cmp_eq h, h]; simp
 ·rw [FareM.cmp_gt h]; simp; omega
theorem lv_gt_eq {u v : Nat} (hu : FareM.nan u = false) (hv : FareM.nan v = false) : (FloatKind.f64.format.order u v == some Ordering.gt) = decide (FareM.worth v < FareM.worth u) := by
 rw [lv_f64_format, FareM.order_eq hu hv]
 rcases Int.lt_trichotomy (FareM.worth u) (FareM.worth v) with h | h | h
 ·rw [FareM.cmp_lt h]; simp; omega
 ·rw [FareM.cmp_eq h, h]; simp
 ·rw [FareM.cmp_gt h]; simp [h]
theorem lv_eq_eq {u v : Nat} (hu : FareM.nan u = false) (hv : FareM.nan v = false) : (FloatKind.f64.format.order u v == some Ordering.eq) = decide (FareM.worth u = FareM.worth v) := by
 rw [lv_f64_format, FareM.order_eq hu hv]
 rcases Int.lt_trichotomy (FareM.worth u) (FareM.worth v) with h | h | h
 ·rw [FareM.cmp_lt h]; simp; omega
 ·rw [FareM.cmp_eq h, h]; simp
 ·rw [FareM.cmp_gt h]; simp; omega
theorem nan_one : FareM.nan 4607182418800017408 = false := by decide +kernel
theorem one_nan : FareM.nan 4607182418800017408 = false := nan_one
theorem zero_nan : FareM.nan 0 = false := by decide +kernel
theorem ge1 {u : Nat} (h : FareM.nan u = false) : ((FloatKind.f64.format.order u 4607182418800017408 == some Ordering.gt) = decide (FareM.worth 4607182418800017408 < FareM.worth u)) ∧ (FloatKind.f64.format.order u 4607182418800017408 == some Ordering.eq) = decide (FareM.worth u = FareM.worth 4607182418800017408) := ⟨lv_gt_eq h one_nan, lv_eq_eq h one_nan⟩
theorem ret_lvl {a b : Int} (h : a = b) : Ending.returned (.tuple #[.int .i64 a, .int .i64 0]) = .returned (.tuple #[.int .i64 b, .int .i64 0]) := by rw [h]
theorem refLevel_low (u k lv pr fk : Nat) (fl : Nat → Nat) (w : World) (hk : k ≤ 10000) (hlk : lv ≤ k)
 (n0 : (FloatKind.f64.format.order u u != some Ordering.eq) = false) (z1 : (FloatKind.f64.format.order u 0 == some Ordering.lt) = false) (z2 : (FloatKind.f64.format.order u 0 == some Ordering.eq) = false)
 (g1 : (FloatKind.f64.format.order u 4607182418800017408 == some Ordering.gt) = false) (g2 : (FloatKind.f64.format.order u 4607182418800017408 == some Ordering.eq) = false)
 (hnear : floatOfInt .f64 (k : Int) = fk) (hrun : ∀ (w : World) (t : TypeId), (binOp .mul t (.float .f64 u) (.float .f64 fk)).run Tryz.prog w = .ok (.float .f64 pr) w)
 (hn : ∀ n : Nat, n ≤ 10000 → floatOfInt .f64 ((n : Int) + 1) = fl (n + 1))
 (hle : ∀ n : Nat, n ≤ 10000 → ((FloatKind.f64.format.order (fl (n + 1)) pr == some Ordering.lt) = true ∨ (FloatKind.f64.format.order (fl (n + 1)) pr == some Ordering.eq) = true ↔ n + 1 ≤ lv)) :
 Calls Tryz.prog 130 #[.float .f64 u, .int .i64 (k : Int)] w fun e w' => e = .returned (.tuple #[.int .i64 (lv : Int), .int .i64 0]) ∧ w' = w := by
 have HN := zh hn
 have HLE := zh hle
 have k0 : ¬ (k : Int) < 0 := by omega
 have k1 : ¬ (10000 : Int) < (k : Int) := by omega
 clear hn hle
 go_in
 go_wp2_with fail
 go_loop [7] (fun v7 => ∃ n : Nat, n ≤ lv ∧ v7 = .int .i64 (n : Int)) (fun v7 => k - (intOf v7).toNat)
 case atStart => exact ⟨0, by omega, rfl⟩
 case round =>
  obtain ⟨n, hnl, rfl⟩ := hrel
  have hnn := HN.out n (by omega)
  have hll := HLE.out n (by omega)
  generalize fl (n + 1) = x at hnn hll
  by_cases h1 : n + 1 ≤ lv
  ·have hnk : (n : Int) < (k : Int) := by omega
   rcases hll.2 h1 with h2 | h2
   ·clear hll
    go_wp2_with fail
    go_round
    case rel => exact ⟨n + 1, by omega, by go_num⟩
    case measure => simp [intOf]; omega
   ·have h3 : (FloatKind.f64.format.order x pr == some Ordering.lt) = false := by
     have h4 := eq_of_beq h2
     rw [h4]; rfl
    clear hll
    go_wp2_with fail
    go_round
    case rel => exact ⟨n + 1, by omega, by go_num⟩
    case measure => simp [intOf]; omega
  ·obtain rfl : n = lv := by omega
   by_cases h5 : n < k
   ·have hnk : (n : Int) < (k : Int) := by omega
    have h2 : (FloatKind.f64.format.order x pr == some Ordering.lt) = false := by
     rcases zI (FloatKind.f64.format.order x pr == some Ordering.lt) with h | h
     ·exact absurd (hll.1 (.inl h)) h1
     ·exact h
    have h3 : (FloatKind.f64.format.order x pr == some Ordering.eq) = false := by
     rcases zI (FloatKind.f64.format.order x pr == some Ordering.eq) with h | h
     ·exact absurd (hll.1 (.inr h)) h1
     ·exact h
    clear hll h1
    go_wp2_with fail
    go_ret2
    exact ⟨rfl, rfl⟩
   ·have hnk : ¬ (n : Int) < (k : Int) := by omega
    clear hll h1
    go_wp2_with fail
    go_ret2
    exact ⟨rfl, rfl⟩
theorem refLevel_any (u k : Nat) (w : World) (hu : u < 18446744073709551616) (h0 : k ≤ 10000) : Calls Tryz.prog 130 #[.float .f64 u, .int .i64 (k : Int)] w fun e w' => e = .returned (.tuple #[.int .i64 (FareM.levelOf u k : Int), .int .i64 0]) ∧ w' = w := by
 have k0 : ¬ (k : Int) < 0 := by omega
 have k1 : ¬ (10000 : Int) < (k : Int) := by omega
 have n0 := lv_isnan_eq u
 rcases zI (FareM.nan u) with hn | hn
 ·have HL := zh (show (FareM.levelOf u k : Int) = 0 by unfold FareM.levelOf; rw [zl (.inl hn)]; rfl)
  rw [hn] at n0
  clear hu hn
  go_in
  go_wp2_with fail
  go_ret2
  exact ⟨ret_lvl HL.out.symm, rfl⟩
 ·rw [hn] at n0
  have z1 : (FloatKind.f64.format.order u 0 == some Ordering.lt) = decide (FareM.worth u < 0) := by rw [lv_lt_eq hn zero_nan, FareM.zero_worth]
  have z2 : (FloatKind.f64.format.order u 0 == some Ordering.eq) = decide (FareM.worth u = 0) := by rw [lv_eq_eq hn zero_nan, FareM.zero_worth]
  obtain ⟨g1, g2⟩ := ge1 hn
  rcases Int.lt_trichotomy (FareM.worth u) 0 with hz | hz | hz
  ·have HL := zh (show (FareM.levelOf u k : Int) = 0 by unfold FareM.levelOf; rw [zl (.inr (by omega))]; rfl)
   have z1' : (FloatKind.f64.format.order u 0 == some Ordering.lt) = true := by rw [z1]; simpa using hz
   clear hu hn z1 z2 g1 g2 hz
   go_in
   go_wp2_with fail
   go_ret2
   exact ⟨ret_lvl HL.out.symm, rfl⟩
  ·have HL := zh (show (FareM.levelOf u k : Int) = 0 by unfold FareM.levelOf; rw [zl (.inr (by omega))]; rfl)
   have z1' : (FloatKind.f64.format.order u 0 == some Ordering.lt) = false := by rw [z1]; simp; omega
   have z2' : (FloatKind.f64.format.order u 0 == some Ordering.eq) = true := by rw [z2]; simpa using hz
   clear hu hn z1 z2 g1 g2 hz
   go_in
   go_wp2_with fail
   go_ret2
   exact ⟨ret_lvl HL.out.symm, rfl⟩
  ·have z1' : (FloatKind.f64.format.order u 0 == some Ordering.lt) = false := by rw [z1]; simp; omega
   have z2' : (FloatKind.f64.format.order u 0 == some Ordering.eq) = false := by rw [z2]; simp; omega
   have hnz : ¬ (FareM.nan u = true ∨ FareM.worth u ≤ 0) := by rw [hn]; simp; omega
   clear z1 z2
   by_cases h1 : FareM.worth 4607182418800017408 ≤ FareM.worth u
   ·have HL := zh (show (FareM.levelOf u k : Int) = k by unfold FareM.levelOf; rw [zk hnz, zl h1])
    rcases Int.lt_or_eq_of_le h1 with h2 | h2
    ·have g1' : (FloatKind.f64.format.order u 4607182418800017408 == some Ordering.gt) = true := by rw [g1]; simpa using h2
     clear hu hn h1 h2 g1 g2 hz hnz
     go_in
     go_wp2_with fail
     go_ret2
     exact ⟨ret_lvl HL.out.symm, rfl⟩
    ·have g1' : (FloatKind.f64.format.order u 4607182418800017408 == some Ordering.gt) = false := by rw [g1]; simp; omega
     have g2' : (FloatKind.f64.format.order u 4607182418800017408 == some Ordering.eq) = true := by rw [g2]; simpa using h2.symm
     clear hu hn h1 h2 g1 g2 hz hnz
     go_in
     go_wp2_with fail
     go_ret2
     exact ⟨ret_lvl HL.out.symm, rfl⟩
   ·obtain ⟨l1, l2, l3⟩ := FareM.part_low hu hz (by omega)
    have HL := zh (show FareM.levelOf u k = FareM.level u k by unfold FareM.levelOf; rw [zk hnz, zk h1])
    have g1' : (FloatKind.f64.format.order u 4607182418800017408 == some Ordering.gt) = false := by rw [g1]; simp; omega
    have g2' : (FloatKind.f64.format.order u 4607182418800017408 == some Ordering.eq) = false := by rw [g2]; simp; omega
    have hll := FareM.level_le (k := k) l2 (by omega)
    have hpl : FareM.prod u k < 9218868437227405312 := Nat.lt_of_le_of_lt (FareM.prod_le l2) (FareM.fl_lt (by omega))
    rw [HL.out]
    refine refLevel_low u k (FareM.level u k) (FareM.prod u k) (FareM.fl k) FareM.fl w h0 hll n0 z1' z2' g1' g2' (FareM.nearest_fl (by omega))
     (fun w t => run_float_arith w .mul t .f64 u _ _ (FareM.mul_prod l1 l2 (k := k) (by omega)))
     (fun n hn => by have := FareM.nearest_fl (k := n + 1) (by omega); rw [show ((n + 1 : Nat) : Int) = (n : Int) + 1 by omega] at this; exact this) (fun n hn => ?_)
    have nf := (FareM.low_worth (FareM.fl_lt (k := n + 1) (by omega))).2
    have np := (FareM.low_worth hpl).2
    rw [lv_lt_eq nf np, lv_eq_eq nf np, ← FareM.fl_le_prod (k := k) (n := n + 1) l2 (by omega) (by omega), decide_eq_true_iff, decide_eq_true_iff]
    generalize FareM.worth (FareM.fl (n + 1)) = a
    generalize FareM.worth (FareM.prod u k) = b
    omega
end
section
open Go.RowKit NestM
def lim (us : List Nat) (k : Nat) : Nat → Int
 | 0 => (k : Int)
 | i + 1 => min (FareM.levelOf (us.getD (i + 1) 0) k : Int) (lim us k i)
def lims (us : List Nat) (k n : Nat) : List Int := (List.range n).map (lim us k)
theorem lims_succ (us : List Nat) (k n : Nat) : lims us k (n + 1) = lims us k n ++ [lim us k n] := by simp [lims, List.range_succ]
theorem lims_len (us : List Nat) (k n : Nat) : (lims us k n).length = n := by simp [lims]
theorem lims_at (us : List Nat) (k n i : Nat) (h : i < (lims us k n).length) : (lims us k n)[i] = lim us k i := by simp [lims]
theorem lim_le (us : List Nat) (k : Nat) : ∀ i, 0 ≤ lim us k i ∧ lim us k i ≤ (k : Int)
 | 0 => by simp [lim]
 | i + 1 => by
  have := lim_le us k i
  unfold lim
  omega
def fv (u : Nat) : Value := .float .f64 u
theorem rd_at {w : World} {B : Nat} {A : Option Addr} {us : List Nat} (h : Rd w B A (us.map fv)) {k : Nat} (hk : k < us.length) : ∃ b o, A = some ⟨b, o, none⟩ ∧ b < B ∧ w.cell? ⟨b, o + k, none⟩ = some (.float .f64 (us.getD k 0)) := by
 obtain ⟨b, o, h1, h2, h3⟩ := h.at_ (k := k) (by simpa using hk)
 refine ⟨b, o, h1, h2, ?_⟩
 rw [h3]
 simp [fv, List.getD, hk]
theorem sl_at {w : World} {B : Nat} {v : Value} {n : Nat} {xs : List Int} (h : Sl w B 3 1 v n (xs.map iv)) (hn : 0 < n) {k : Nat} (hk : k < n) :
 ∃ g o cap, v = .slice (some ⟨g, o, none⟩) n cap ∧ n ≤ cap ∧ cap ≤ maxLen ∧ w.cell? ⟨g, o + k, none⟩ = some (.int .i64 (at_ xs k)) := by
 have hl := h.1
 rw [zB] at hl
 obtain ⟨g, o, cap, rfl, _, _, h1, h2⟩ := h.head hn
 refine ⟨g, o, cap, rfl, h1, h2, ?_⟩
 rw [h.cell (j := k) (by rw [zB]; omega), at_get (by omega)]
 simp [iv]
def LimPost2 (w : World) (us : List Nat) (k : Nat) (e : Ending) (w' : World) : Prop := ∃ v, e = .returned (.tuple #[v, .int .i64 0]) ∧ Sl w' w.heap.size 3 1 v us.length ((lims us k us.length).map iv) ∧ Fresh w w'
theorem refLimits_no (k : Int) (A : Option Addr) (cap n : Nat) (w : World) (h : ¬ (0 ≤ k ∧ k ≤ 10000) ∨ n < 1 ∨ 8 < n) :
 Calls Tryz.prog 119 #[.int .i64 k, .slice A n cap] w fun e w' => e = .returned (.tuple #[.slice none 0 0, .int .i64 1]) ∧ w' = w := by
 by_cases h1 : k < 0
 ·clear h
  go_in
  go_wp2_with fail
  go_ret2
  exact ⟨rfl, rfl⟩
 by_cases h2 : 10000 < k
 ·clear h
  go_in
  go_wp2_with fail
  go_ret2
  exact ⟨rfl, rfl⟩
 by_cases h3 : n < 1
 ·have h3i : (n : Int) < 1 := by omega
  clear h
  go_in
  go_wp2_with fail
  go_ret2
  exact ⟨rfl, rfl⟩
 have h3i : ¬ (n : Int) < 1 := by omega
 have h4i : (8 : Int) < (n : Int) := by omega
 clear h
 go_in
 go_wp2_with fail
 go_ret2
 exact ⟨rfl, rfl⟩
theorem refLimits_yes (k : Nat) (hk : k ≤ 10000) (A : Option Addr) (cap : Nat) (us : List Nat) (hu : ∀ i, us.getD i 0 < 18446744073709551616) (h1 : 1 ≤ us.length) (h8 : us.length ≤ 8) (w : World) (hA : Rd w w.heap.size A (us.map fv)) (hle : us.length ≤ cap) (hm : cap ≤ maxLen) :
 Calls Tryz.prog 119 #[.int .i64 (k : Int), .slice A us.length cap] w fun e w' => LimPost2 w us k e w' := by
 unfold maxLen at hm
 obtain ⟨i0, hi, hz0, hz1, hz2⟩ := info_parts info_int
 have HA := zh hA
 have HU := zh hu
 have HLIM := zh (lim_le us k)
 obtain ⟨bA, oA, rfl, _, _⟩ := rd_at hA (k := 0) (by omega)
 clear hA hu
 have q1 : ¬ (us.length : Int) < 1 := by omega
 have q2 : ¬ (8 : Int) < (us.length : Int) := by omega
 have q3 : ¬ (k : Int) < 0 := by omega
 have q4 : ¬ (10000 : Int) < (k : Int) := by omega
 have S0 : Hid (Sl (w.alloc (.cells #[.int .i64 (k : Int)] 3)) w.heap.size 3 1 (.slice (some ⟨w.heap.size, 0, none⟩) 1 1) 1 ((lims us k 1).map iv)) := zh (sl_new w _ [.int .i64 (k : Int)] _ (zf _) (by simp [maxLen]))
 go_in
 go_wp2_with fail
 go_loopw [6, 7] (fun v6 v29 wr => ∃ (i : Nat) (v : Value), v = v6 ∧ i + 1 ≤ us.length ∧ v29 = .int .i64 ((i + 1 : Nat) : Int) ∧ Sl wr w.heap.size 3 1 v (i + 1) ((lims us k (i + 1)).map iv) ∧ Fresh w wr) (fun _ v29 _ => us.length - (intOf v29).toNat)
 case atStart => exact ⟨0, _, rfl, by omega, rfl, S0.out, (za _ w).alloc _⟩
 case round =>
  obtain ⟨i, v, rfl, hin, rfl, hs, hf⟩ := hrel
  obtain ⟨g, o, c, rfl, hg1, hg2, hcell⟩ := sl_at hs (by omega) (k := i) (by omega)
  rw [show at_ (lims us k (i + 1)) i = lim us k i from by rw [at_get (by rw [lims_len]; omega), lims_at]] at hcell
  have HS := zh hs
  have HF := zh hf
  have hsz := hf.size
  clear hs hf
  unfold maxLen at hg2
  obtain ⟨x, hx⟩ : ∃ x, i + 1 = x := ⟨_, rfl⟩
  have hx0 : (0 : Int) ≤ (x : Int) := by omega
  have hx1 : (1 : Int) ≤ (x : Int) := by omega
  have hx2 : (x : Int) - 1 = (i : Int) := by omega
  have hx3 : (i : Int) < (x : Int) := by omega
  have hx4 : i < x := by omega
  have hi0 : (0 : Int) ≤ (i : Int) := by omega
  rw [hx] at HS hg1 ⊢
  by_cases hlt : x < us.length
  ·obtain ⟨b', o', e1, _, hc⟩ := rd_at ((HA.out.fresh (zf _) HF.out).more HF.out.size) (k := x) hlt
   injection e1 with e1
   injection e1 with e1 e2 _
   subst e1 e2
   have hlv := refLevel_any (us.getD x 0) k wr (HU.out _) hk
   have hll := (HLIM.out i)
   have hXX : us.getD (i + 1) 0 = us.getD x 0 := by rw [hx]
   generalize hy1 : us.getD x 0 = u at hc hlv hXX
   generalize hy : FareM.levelOf u k = y at hlv
   have HLV := zh hlv
   have HX : Hid (lim us k x = min (y : Int) (lim us k i)) := zh (by rw [← hx, lim, hXX, hy])
   have hlti : (x : Int) < (us.length : Int) := by omega
   clear hlv hy hy1 hXX
   generalize hz : lim us k i = z at hcell HX hll
   clear hz
   have HI := zh hx
   clear hx
   have FIN : ∀ (y : Int) (v1 : Value) (w1 : World), lim us k x = y → Sl w1 w.heap.size 3 1 v1 (x + 1) ((lims us k x).map iv ++ [.int .i64 y]) → Sl w1 w.heap.size 3 1 v1 (x + 1) ((lims us k (x + 1)).map iv) := by
    intro x v1 w1 e h
    rw [lims_succ, zn, e]
    exact h
   have HFIN := zh FIN
   clear FIN
   by_cases hmin : (y : Int) ≤ z
   ·have HM := zh (show lim us k x = (y : Int) by rw [HX.out]; omega)
    have R := zh (qE wr (.int .i64 (y : Int)) 3)
    have hmm : min (y : Int) z = (y : Int) := by omega
    have HSA := zh (HS.out.alloc (.cells #[.int .i64 (y : Int)] 3))
    go_wp2_with fail
    refine HLV.out.mono ?_
    rintro e w1 ⟨rfl, rfl⟩
    go_wp2_with (at_builtin; refine jD _ rfl (.tmp 43) (.tmp 51) _ rfl w.heap.size 3 i0 _ 1 8 Tryz.underlying26 hi hz0 hz1 hz2 rfl (by omega) _ _ _ rfl HSA.out _ _ 1 _ _ rfl (by rfl) R.out (fun u hu => by simp at hu; subst hu; rfl) (by unfold maxLen; omega) (by omega) (by simp; omega) ?_; intro v1 w1 hs1 hf1 ha1)
    have HS1 := zh (HFIN.out _ _ _ HM.out hs1)
    have HF1 : Hid (Fresh w w1) := zh ((HF.out.alloc _).trans' hf1 (fun i hi hk => by have := (HSA.out.lt _ hk).1; omega))
    clear hs1 hf1 ha1
    go_wp2_with fail
    go_roundw
    case rel => exact ⟨x, _, rfl, by omega, by go_num, HS1.out, HF1.out⟩
    case measure => simp [intOf]; omega
   ·have HM := zh (show lim us k x = z by rw [HX.out]; omega)
    have R := zh (qE wr (.int .i64 z) 3)
    have hmm : min (y : Int) z = z := by omega
    have HSA := zh (HS.out.alloc (.cells #[.int .i64 z] 3))
    have hmin2 : z < (y : Int) := by omega
    go_wp2_with fail
    refine HLV.out.mono ?_
    rintro e w1 ⟨rfl, rfl⟩
    go_wp2_with (at_builtin; refine jD _ rfl (.tmp 43) (.tmp 51) _ rfl w.heap.size 3 i0 _ 1 8 Tryz.underlying26 hi hz0 hz1 hz2 rfl (by omega) _ _ _ rfl HSA.out _ _ 1 _ _ rfl (by rfl) R.out (fun u hu => by simp at hu; subst hu; rfl) (by unfold maxLen; omega) (by omega) (by simp; omega) ?_; intro v1 w1 hs1 hf1 ha1)
    have HS1 := zh (HFIN.out _ _ _ HM.out hs1)
    have HF1 : Hid (Fresh w w1) := zh ((HF.out.alloc _).trans' hf1 (fun i hi hk => by have := (HSA.out.lt _ hk).1; omega))
    clear hs1 hf1 ha1
    go_wp2_with fail
    go_roundw
    case rel => exact ⟨x, _, rfl, by omega, by go_num, HS1.out, HF1.out⟩
    case measure => simp [intOf]; omega
  ·have HN := zh (show us.length = x by omega)
   have hlti : ¬ (x : Int) < (us.length : Int) := by omega
   clear hx
   go_wp2_with fail
   go_ret2
   exact ⟨_, rfl, by rw [HN.out]; exact HS.out, HF.out⟩
theorem getD_wf {us : List Nat} (h : ∀ x ∈ us, x < 18446744073709551616) (i : Nat) : us.getD i 0 < 18446744073709551616 := by
 rcases zL i us.length with hl | hl
 ·rw [List.getD_eq_getElem?_getD, zH hl]; exact h _ (ze hl)
 ·rw [List.getD_eq_getElem?_getD, List.getElem?_eq_none hl]; simp
end
section
open Go.RowKit
def newA (num rows : Int) (gs : List Int) (parts : List Nat) : Int × Fl :=
 if num < 1 ∨ 9999 < num ∨ jU rows gs = false ∨ parts.length < 1 ∨ 8 < parts.length then (1, ⟨0, 0, [], [], []⟩)
 else (0, ⟨num, rows, gs, lims parts (qJ rows gs).toNat parts.length, []⟩)
theorem newA_no {num rows : Int} {gs : List Int} {parts : List Nat} (h : num < 1 ∨ 9999 < num ∨ jU rows gs = false ∨ parts.length < 1 ∨ 8 < parts.length) : newA num rows gs parts = (1, ⟨0, 0, [], [], []⟩) := by
 unfold newA; exact zl h
def NewPost (w : World) (r : Int × Fl) (e : Ending) (w' : World) : Prop :=
 Fresh w w' ∧ ((r.1 ≠ 0 ∧ e = .returned (.tuple #[.pointer none, .int .i64 r.1])) ∨
  (r.1 = 0 ∧ ∃ f M, e = .returned (.tuple #[.pointer (some ⟨f, 0, none⟩), .int .i64 0]) ∧ M.abs = r.2 ∧ FlAt w' w.heap.size f M ∧ w.heap.size ≤ f ∧ M.hb = none))
theorem newPost_no {w w' : World} {num rows : Int} {gs : List Int} {parts : List Nat} (h : num < 1 ∨ 9999 < num ∨ jU rows gs = false ∨ parts.length < 1 ∨ 8 < parts.length) (F : Fresh w w') : NewPost w (newA num rows gs parts) (.returned (.tuple #[.pointer none, .int .i64 1])) w' := by
 rw [newA_no h]
 exact ⟨F, .inl ⟨by decide, rfl⟩⟩
theorem new15_any (w : World) (num rows : Int) (A : Option Addr) (c : Nat) (gs : List Int) (hA : Rd w w.heap.size A (ivs gs)) (hs : small gs)
 (PA : Option Addr) (pc : Nat) (parts : List Nat) (hP : Rd w w.heap.size PA (parts.map fv)) (hwf : ∀ x ∈ parts, x < 18446744073709551616) (hle : parts.length ≤ pc) (hm : pc ≤ maxLen) :
 Calls Tryz.prog 104 #[.int .i64 num, .agg #[.int .i64 rows, .slice A gs.length c], .slice PA parts.length pc] w fun e w' => NewPost w (newA num rows gs parts) e w' := by
 obtain ⟨i0, hi, hz0, hz1, hz2⟩ := info_parts info_i64
 obtain ⟨W, hW⟩ : ∃ W, w.alloc (.cells #[.int .i64 rows, .slice A gs.length c] 92) = W := ⟨_, rfl⟩
 have hFW : Fresh w W := by rw [← hW]; exact (za _ w).alloc _
 have hBX : Blk W w.heap.size 92 #[.int .i64 rows, .slice A gs.length c] := by rw [← hW]; exact Blk.new w _ _
 have HF := zh hFW
 have BX := zh hBX
 have y0 : W.cell? ⟨w.heap.size, 0, none⟩ = some (.int .i64 rows) := hBX.cell 0
 have y1 : W.cell? ⟨w.heap.size, 1, none⟩ = some (.slice A gs.length c) := hBX.cell 1
 have hA2 := (hA.fresh (zf _) hFW).more hFW.size
 have HA := zh hA2
 have HP := zh ((hP.fresh (zf _) hFW).more hFW.size)
 have HRI := zh (rightL_any W rows A c gs hA2 hs)
 have HCO : Hid (∀ w', Fresh W w' → Calls Tryz.prog 115 #[.agg #[.int .i64 rows, .slice A gs.length c]] w' fun e w'' => e = .returned (.int .i64 (qJ rows gs)) ∧ Fresh w' w'') := zh fun w' F => countL_any w' rows A c gs ((hA2.fresh (zf _) F).more F.size) hs
 have HNO : Hid ((num < 1 ∨ 9999 < num ∨ jU rows gs = false ∨ parts.length < 1 ∨ 8 < parts.length) → ∀ w', Fresh w w' → NewPost w (newA num rows gs parts) (.returned (.tuple #[.pointer none, .int .i64 1])) w') := zh fun h w' F => newPost_no h F
 obtain ⟨gn, hgn⟩ : ∃ x, x = gs.length := ⟨_, rfl⟩
 have HGN := zh hgn
 have hs16 := hs.1
 rw [← hgn] at y1 HRI HCO BX hW hs16 ⊢
 obtain ⟨pn, hpn⟩ : ∃ x, x = parts.length := ⟨_, rfl⟩
 have HPN := zh hpn
 rw [← hpn] at hle HNO ⊢
 obtain ⟨rb, hrb⟩ : ∃ b, b = jU rows gs := ⟨_, rfl⟩
 rw [← hrb] at HRI HNO
 have HRB := zh hrb
 have HS := zh hs
 clear hFW hBX hA hA2 hs hP hgn hpn hrb
 go_in
 go_wp2_with fail
 try rw [hW]
 clear hW
 refine HRI.out.mono ?_
 rintro e x1 ⟨rfl, f1⟩
 have HF1 := zh f1
 have HE1 := zh (HF.out.trans f1)
 have k0 : x1.cell? ⟨w.heap.size, 0, none⟩ = some (.int .i64 rows) := (BX.out.frm f1 (fun f => f)).cell 0
 have k1 : x1.cell? ⟨w.heap.size, 1, none⟩ = some (.slice A gn c) := (BX.out.frm f1 (fun f => f)).cell 1
 have HCT := zh (HCO.out x1 f1)
 clear f1 y0 y1
 by_cases c0 : num < 1
 ·have d0 : decide (num < 1) = true := zc c0
  go_wp2_with fail
  exact zi (v := .tuple #[.pointer none, .int .i64 1]) (by simp [results, Tryz.results104, go_sem]) rfl (HNO.out (.inl c0) _ HE1.out)
 ·have d0 : decide (num < 1) = false := zb c0
  by_cases c1 : 9999 < num
  ·have d1 : decide (9999 < num) = true := zc c1
   go_wp2_with fail
   exact zi (v := .tuple #[.pointer none, .int .i64 1]) (by simp [results, Tryz.results104, go_sem]) rfl (HNO.out (.inr (.inl c1)) _ HE1.out)
  ·have d1 : decide (9999 < num) = false := zb c1
   cases rb with
   | false =>
    go_wp2_with fail
    exact zi (v := .tuple #[.pointer none, .int .i64 1]) (by simp [results, Tryz.results104, go_sem]) rfl (HNO.out (.inr (.inr (.inl (by first | rfl | trivial)))) _ HE1.out)
   | true =>
    have HCT2 : Hid (∃ ct : Nat, qJ rows gs = (ct : Int) ∧ ct ≤ 600) := zh (by
     obtain ⟨⟨q1, q2⟩, _, _, q3⟩ := rightL_of HRB.out.symm
     have q4 := (sum_small gs HS.out.2).1
     have h1 : rows * gs.sum ≤ 60 * 10 := Int.mul_le_mul q2 q3 q4 (by omega)
     have h2 : 0 ≤ rows * gs.sum := Int.mul_nonneg (by omega) q4
     have h3 : qJ rows gs = rows * gs.sum := by unfold qJ; rw [← HRB.out]; rfl
     exact ⟨(rows * gs.sum).toNat, by rw [h3]; omega, by omega⟩)
    obtain ⟨ct, hct, hct6⟩ := HCT2.out
    have HCE := zh hct
    rw [hct] at HCT
    clear HCT2 hct HCO
    by_cases c2 : pn < 1 ∨ 8 < pn
    ·have HLI : Hid (∀ w', Calls Tryz.prog 119 #[.int .i64 (ct : Int), .slice PA pn pc] w' fun e w'' => e = .returned (.tuple #[.slice none 0 0, .int .i64 1]) ∧ w'' = w') := zh fun w' => refLimits_no (ct : Int) PA pc pn w' (.inr c2)
     go_wp2_with fail
     refine HCT.out.mono ?_
     rintro e x2 ⟨rfl, f2⟩
     have HE2 := zh (HE1.out.trans f2)
     clear f2 k0 k1
     go_wp2_with fail
     refine (HLI.out x2).mono ?_
     rintro e x3 ⟨rfl, hx3⟩
     rw [hx3]
     clear hx3 x3
     go_wp2_with fail
     exact zi (v := .tuple #[.pointer none, .int .i64 1]) (by simp [results, Tryz.results104, go_sem]) rfl (HNO.out (.inr (.inr (.inr c2))) _ HE2.out)
    ·have HLI : Hid (∀ w', Fresh W w' → Calls Tryz.prog 119 #[.int .i64 (ct : Int), .slice PA pn pc] w' fun e w'' => LimPost2 w' parts ct e w'') := zh fun w' F => by
      rw [HPN.out]
      exact refLimits_yes ct (by omega) PA pc parts (getD_wf hwf) (by rw [← HPN.out]; omega) (by rw [← HPN.out]; omega) w' ((HP.out.fresh (zf _) F).more F.size) (by rw [← HPN.out]; exact hle) hm
     go_wp2_with fail
     refine HCT.out.mono ?_
     rintro e x2 ⟨rfl, f2⟩
     have HF2 := zh (HF1.out.trans f2)
     clear f2 k0 k1
     go_wp2_with fail
     refine (HLI.out x2 HF2.out).mono ?_
     rintro e x3 ⟨vl, rfl, sl3, f3⟩
     have HF3 := zh (HF2.out.trans f3)
     obtain ⟨AL, cL, rfl, _⟩ := sl3.shape
     have HSL := zh sl3
     have HVN : Hid (newA num rows gs parts = (0, ⟨num, rows, gs, lims parts ct parts.length, []⟩)) := zh (by
      unfold newA
      rw [zk (by rw [← HRB.out, ← HPN.out]; rintro (h | h | h | h | h) <;> first | omega | cases h), HCE.out]
      rfl)
     have k1 : (x3.alloc (.cells #[] 3)).cell? ⟨w.heap.size, 1, none⟩ = some (.slice A gn c) := (BX.out.frm (HF3.out.alloc _) (fun f => f)).cell 1
     have S0 := zh (nil_sl x3 3 1)
     have F0 := zh (jC x3 (.cells #[] 3))
     have HAR : Hid (Rd (x3.alloc (.cells #[] 3)) (x3.alloc (.cells #[] 3)).heap.size A (ivs gs)) := zh ((HA.out.fresh (zf _) (HF3.out.alloc _)).more (HF3.out.alloc _).size)
     have HGL : Hid ((ivs gs).length = gn * 1) := zh (by unfold ivs; rw [zB, HGN.out, Nat.mul_one])
     clear sl3 f3
     go_wp2_with (at_builtin; refine jK (by rfl) (.tmp 32) (.tmp 34) _ rfl x3 3 i0 _ 1 8 Tryz.underlying26 hi hz0 hz1 hz2 rfl Nat.one_pos _ 0 [] rfl S0.out _ _ gn _ _ rfl HGL.out HAR.out (ivs_one _) (by omega) (by omega) F0.out ?_; intro v7 x7 hs7 hf7; rw [Nat.zero_add, List.nil_append] at hs7; obtain ⟨A7, c7, rfl, _⟩ := hs7.shape; have HS7 := zh hs7; have HF7 := zh hf7; have z1 : x7.cell? ⟨w.heap.size, 1, none⟩ = some (.slice A gn c) := (BX.out.frm (HF3.out.trans hf7) (fun f => f)).cell 1; have z2 := (BX.out.frm (HF3.out.trans hf7) (fun f => f)).frozen 1; have hXB : Blk (x7.setCell ⟨w.heap.size, 1, none⟩ (.slice A7 gn c7)) w.heap.size 92 #[.int .i64 rows, .slice A7 gn c7] := (BX.out.frm (HF3.out.trans hf7) (fun f => f)).set 1 _; have j0 := hXB.cell 0; have j1 := hXB.cell 1; have hXF : Frm (fun k => k = w.heap.size) x7 (x7.setCell ⟨w.heap.size, 1, none⟩ (.slice A7 gn c7)) := (za (fun k => k = w.heap.size) x7).setCell (p := ⟨w.heap.size, 1, none⟩) (fun _ => rfl) _; have HXF := zh hXF; have HXB := zh hXB; simp only [List.getElem?_toArray, List.getElem?_cons_zero, List.getElem?_cons_succ] at j0 j1; clear hs7 hf7 hXF hXB)
     have HLN : Hid ((lims parts ct parts.length).length = parts.length) := zh (lims_len _ _ _)
     refine zi (v := .tuple #[.pointer (some ⟨x7.heap.size, 0, none⟩), .int .i64 0]) (by simp [results, Tryz.results104, go_sem]) rfl ?_
     rw [HVN.out]
     obtain ⟨M, hM⟩ : ∃ M : FlM, M = ⟨num, rows, A7, c7, gs, AL, cL, lims parts ct parts.length, none, 0, []⟩ := ⟨_, rfl⟩
     have hbl := BX.out.lt
     have hsz3 := HF3.out.size
     have hsz7 := HF7.out.size
     have hsz : (x7.setCell ⟨w.heap.size, 1, none⟩ (.slice A7 gn c7)).heap.size = x7.heap.size := by simp
     have F7 : Fresh w x7 := HF.out.trans (HF3.out.trans HF7.out)
     have FX : Fresh w (x7.setCell ⟨w.heap.size, 1, none⟩ (.slice A7 gn c7)) := F7.trans' HXF.out (fun k hk e => by omega)
     have HB7 := Blk.new (x7.setCell ⟨w.heap.size, 1, none⟩ (.slice A7 gn c7)) 152 (fcel M)
     rw [hsz] at HB7
     have hcs : fcel M = #[.int .i64 num, .int .i64 rows, .slice A7 gn c7, .slice AL parts.length cL, .slice none 0 0] := by rw [hM]; unfold fcel; dsimp only; rw [HLN.out, HGN.out]; rfl
     have HSG : Sl ((x7.setCell ⟨w.heap.size, 1, none⟩ (.slice A7 gn c7)).alloc (.cells (fcel M) 152)) w.heap.size 3 1 (.slice A7 gn c7) gn (ivs gs) := ((HS7.out.less (by omega : w.heap.size ≤ x3.heap.size)).frm HXF.out (fun k hk e => by have := (HS7.out.lt k hk).1; omega)).alloc _
     have HSLL : Sl ((x7.setCell ⟨w.heap.size, 1, none⟩ (.slice A7 gn c7)).alloc (.cells (fcel M) 152)) w.heap.size 3 1 (.slice AL parts.length cL) parts.length ((lims parts ct parts.length).map iv) := by
      have hx2 : W.heap.size ≤ x2.heap.size := HF2.out.size
      have := (HSL.out.less (show w.heap.size ≤ x2.heap.size by omega)).fresh HF7.out
      exact (this.frm HXF.out (fun k hk e => by have := (HSL.out.lt k hk).1; omega)).alloc _
     rw [hcs] at HB7 HSG HSLL
     refine ⟨FX.alloc _, .inr ⟨rfl, x7.heap.size, M, rfl, by rw [hM]; rfl, ⟨?_, ?_, ?_, ?_, ?_⟩, by omega, by rw [hM]; rfl⟩⟩
     ·rw [hcs]; exact HB7
     ·rw [hM]; dsimp only; rw [← HGN.out]; exact HSG
     ·rw [hM]; dsimp only; rw [HLN.out]; exact HSLL
     ·rw [hM]; exact Sl.nil _ _ _ _
     ·rw [hM]; intro x hx; cases hx
def Hd.put (h : Hd) (A : Option Addr) (c : Nat) (st : List Int) : Hd := ⟨h.ow, h.cl, h.mn, A, c, st⟩
def Ha.put (h : Ha) (st : List Int) : Ha := ⟨h.ow, h.cl, h.mn, st⟩
theorem flat_set (A : Option Addr) (c : Nat) (st : List Int) : ∀ (l : List Hd) (p : Nat) (h : p < l.length), (l.flatMap hcel).set (p * 4 + 3) (.slice A st.length c) = (l.set p (l[p].put A c st)).flatMap hcel
 | x :: r, 0, _ => by
  simp [hcel, Hd.put]
 | x :: r, p + 1, h => by
  rw [zq, List.set_append_right _ _ (by show 4 ≤ _; omega), show (p + 1) * 4 + 3 - (hcel x).length = p * 4 + 3 by show (p + 1) * 4 + 3 - 4 = _; omega, flat_set A c st r p (by simpa using h), List.set_cons_succ, zq]
  rfl
theorem FlAt.setS {w w1 : World} {B f : Nat} {m : FlM} {A : Option Addr} {c : Nat} {st : List Int} (h : FlAt w1 B f m) (F : Fresh w w1) {p : Nat} (hp : p < m.hs.length) {b o : Nat} (hA : m.HA = some ⟨b, o, none⟩)
 (hs : Sl w1 B 3 1 (.slice A st.length c) st.length (ivs st)) :
 StepF w B f m { m.abs with hs := m.abs.hs.set p ((m.hs[p]).abs.put st) } (w1.setCell ⟨b, o + p * 4 + 3, none⟩ (.slice A st.length c)) := by
 have FS : Frm (fun k => k = b) w1 (w1.setCell ⟨b, o + p * 4 + 3, none⟩ (.slice A st.length c)) := (za (fun k => k = b) w1).setCell (p := ⟨b, o + p * 4 + 3, none⟩) (fun _ => rfl) _
 have hh := h.hsl
 rw [hA] at hh
 have hb : ∃ cs, Blk w1 b 167 cs := by
  rcases hh.2 with ⟨hv, _⟩ | ⟨g, o', cap, cur, hv, _, hb, _⟩
  ·cases hv
  ·injection hv with h1
   injection h1 with h1
   injection h1 with h1
   subst h1
   exact ⟨_, hb⟩
 obtain ⟨cs, hb⟩ := hb
 have hst := hh.store (j := p * 4 + 3) (by rw [hcel_len]; omega) (.slice A st.length c)
 rw [flat_set A c st m.hs p hp, show o + (p * 4 + 3) = o + p * 4 + 3 by omega] at hst
 have hbo : m.hb = some b := by unfold FlM.hb; rw [hA]; rfl
 refine ⟨{ m with hs := m.hs.set p (m.hs[p].put A c st) }, ?_, ⟨?_, ?_, ?_, ?_, ?_⟩, (F.frm.trans FS).mono (fun k _ e => .inr (by rw [hbo, e])), .inl ?_⟩
 ·unfold FlM.abs
  dsimp only
  rw [List.map_set]
  rfl
 ·have := h.blk.frm FS (h.blk.apart hb (by decide))
  unfold fcel at this ⊢
  dsimp only
  rw [zz]
  exact this
 ·exact h.gsl.frm FS (fun k hk e => (h.gsl.apart hb (by decide)) (by rw [hk, e]))
 ·exact h.lsl.frm FS (fun k hk e => (h.lsl.apart hb (by decide)) (by rw [hk, e]))
 ·dsimp only
  rw [zz, hA]
  exact hst
 ·intro x hx
  dsimp only at hx
  rcases List.mem_or_eq_of_mem_set hx with hx | rfl
  ·exact (h.ssl x hx).frm FS (fun k hk e => ((h.ssl x hx).apart hb (by decide)) (by rw [hk, e]))
  ·exact hs.frm FS (fun k hk e => (hs.apart hb (by decide)) (by rw [hk, e]))
 ·unfold FlM.hb
  dsimp only
  rw [zz]
def seatA (m : Fl) (ow : Int) (b : List UInt8) : Int × Fl :=
 if placeA ow m.hs 0 < 0 ∨ (findF m.gs.sum.toNat b (qJ m.rows m.gs).toNat 0).2 ≠ 0 then (2, m)
 else if (m.hs.getD (placeA ow m.hs 0).toNat ⟨0, 0, 0, []⟩).mn ≤ ((m.hs.getD (placeA ow m.hs 0).toNat ⟨0, 0, 0, []⟩).st.length : Int) then (7, m)
 else if (findF m.gs.sum.toNat b (qJ m.rows m.gs).toNat 0).1 ∈ qI m.hs then (3, m)
 else (0, { m with hs := m.hs.set (placeA ow m.hs 0).toNat ((m.hs.getD (placeA ow m.hs 0).toNat ⟨0, 0, 0, []⟩).put (putG (findF m.gs.sum.toNat b (qJ m.rows m.gs).toNat 0).1 (m.hs.getD (placeA ow m.hs 0).toNat ⟨0, 0, 0, []⟩).st false)) })
theorem seat15_any (w : World) (B f : Nat) (m : FlM) (ow : Int) (lb : List UInt8) (h : FlAt w B f m) (hB : B ≤ w.heap.size) (hk : FlOk m.abs) (hl : m.hs.length ≤ 100) :
 Calls Tryz.prog 112 #[.pointer (some ⟨f, 0, none⟩), .int .i64 ow, .string (str lb)] w fun e w' => TakePost w B f m (seatA m.abs ow lb) e w' := by
 have HPL : Hid (Calls Tryz.prog 100 #[.pointer (some ⟨f, 0, none⟩), .int .i64 ow] w fun e w' => e = .returned (.int .i64 (placeA ow m.abs.hs 0)) ∧ w' = w) := zh (by have e1 : placeF ow m.hs 0 = placeA ow m.abs.hs 0 := placeA_eq ow m.hs 0; rw [← e1]; exact place15_any w B f m ow h (by omega))
 have hpc : placeA ow m.abs.hs 0 = -1 ∨ ∃ k : Nat, k < m.hs.length ∧ placeA ow m.abs.hs 0 = (k : Int) := by
  rcases placeA_cases ow m.abs.hs 0 with h | ⟨k, h1, h2⟩
  ·exact .inl h
  ·exact .inr ⟨k, by simpa [FlM.abs] using h1, by simpa using h2⟩
 obtain ⟨a, ct, ha, hct, hct6, ha10⟩ := hk.count
 have hea : m.abs.gs.sum.toNat = a := by show m.gs.sum.toNat = a; rw [ha]; rfl
 have hec : (qJ m.abs.rows m.abs.gs).toNat = ct := by show (qJ m.rows m.gs).toNat = ct; rw [hct]; rfl
 have HFI : Hid (∀ w', Fresh w w' → Calls Tryz.prog 125 #[.agg #[.int .i64 m.rows, .slice m.GA m.gs.length m.gc], .string (str lb)] w' fun e w'' => FindPost w' (findF a lb ct 0) e w'') := zh fun w' F => find_any w' m.rows m.GA m.gc m.gs (h.fresh F).gsl.rd hk.right a ct ha hct lb
 have HV1 : Hid (seatA m.abs ow lb = if placeA ow m.abs.hs 0 < 0 ∨ (findF a lb ct 0).2 ≠ 0 then (2, m.abs)
  else if (m.abs.hs.getD (placeA ow m.abs.hs 0).toNat ⟨0, 0, 0, []⟩).mn ≤ ((m.abs.hs.getD (placeA ow m.abs.hs 0).toNat ⟨0, 0, 0, []⟩).st.length : Int) then (7, m.abs)
  else if (findF a lb ct 0).1 ∈ qI m.abs.hs then (3, m.abs)
  else (0, { m.abs with hs := m.abs.hs.set (placeA ow m.abs.hs 0).toNat ((m.abs.hs.getD (placeA ow m.abs.hs 0).toNat ⟨0, 0, 0, []⟩).put (putG (findF a lb ct 0).1 (m.abs.hs.getD (placeA ow m.abs.hs 0).toNat ⟨0, 0, 0, []⟩).st false)) })) := zh (by
  unfold seatA
  rw [hea, hec])
 have htl : (qI m.abs.hs).length ≤ 100000 := by
  have h1 : ∀ l : List Ha, (∀ x ∈ l, x.st.length ≤ 600) → (qI l).length ≤ l.length * 600 := by
   intro l
   induction l with
   | nil => intro _; simp [qI]
   | cons x r ih =>
    intro hx
    have := ih (fun y hy => hx y (List.mem_cons_of_mem _ hy))
    have h2 := hx x (by simp)
    unfold qI at this ⊢
    rw [zq, zg, zG]
    omega
  have h3 := h1 m.abs.hs (fun x hx => by have := hk.hold x hx; omega)
  have h4 : m.abs.hs.length = m.hs.length := by unfold FlM.abs; simp
  omega
 have HTA : Hid (∀ w', Fresh w w' → Calls Tryz.prog 127 #[.pointer (some ⟨f, 0, none⟩)] w' fun e w'' => OwnL w' (qI m.abs.hs) e w'') := zh fun w' F => by
  have e1 : takenF m.hs = qI m.abs.hs := takenA_eq m.hs
  rw [← e1] at htl ⊢
  exact taken_any w' B f m (h.fresh F) (by omega) htl
 have HST : Hid (∀ w', Fresh w w' → StepF w B f m m.abs w') := zh fun w' F => StepF.still h F
 have y1 : w.cell? ⟨f, 1, none⟩ = some (.int .i64 m.rows) := h.blk.cell 1
 have y2 : w.cell? ⟨f, 2, none⟩ = some (.slice m.GA m.gs.length m.gc) := h.blk.cell 2
 have HHA : Hid (∀ w' A c, Rd w' w'.heap.size A (ivs (qI m.abs.hs)) → Calls Tryz.prog 126 #[.slice A (qI m.abs.hs).length c, .int .i64 (findF a lb ct 0).1] w' fun e w'' => e = .returned (.bool (decide ((findF a lb ct 0).1 ∈ qI m.abs.hs))) ∧ w'' = w') := zh fun w' A c hr => refHas_any w' A c _ _ hr htl
 have hfz : (findF a lb ct 0).2 = 0 → 0 ≤ (findF a lb ct 0).1 := fun _ => by
  have h1 : ∀ k i, 0 ≤ (findF a lb k i).1 := by
   intro k
   induction k with
   | zero => intro i; simp [findF]
   | succ k ih => intro i; rw [findF]; split; exact Int.natCast_nonneg i; exact ih _
  exact h1 ct 0
 generalize qI m.abs.hs = tk at HV1 HTA HHA htl
 generalize findF a lb ct 0 = fd at HFI HV1 HHA hfz
 obtain ⟨fi, fe⟩ := fd
 dsimp only at HV1 HHA hfz
 rcases hpc with hp | ⟨p, hp, hpe⟩
 ·rw [hp] at HPL HV1
  rw [zl (.inl (by omega))] at HV1
  rw [HV1.out]
  generalize m.rows = rows at y1 HFI
  generalize m.GA = GA at y2 HFI
  generalize m.gs.length = gn at y2 HFI
  generalize m.gc = gc at y2 HFI
  clear HV1 hp hk h htl hfz hea hec ha hct HHA HTA
  go_in
  go_wp2_with fail
  refine HPL.out.mono ?_
  rintro e w1 ⟨rfl, hw1⟩
  rw [hw1]
  clear hw1 w1
  go_wp2_with fail
  refine (HFI.out w (za _ _)).mono ?_
  rintro e w2 ⟨rfl, f2⟩
  have HF2 := zh f2
  clear f2
  go_wp2_with fail
  go_ret
  exact ⟨rfl, HST.out _ HF2.out⟩
 ·rw [hpe] at HPL HV1
  rw [zx] at HV1
  have hgd : m.abs.hs.getD p ⟨0, 0, 0, []⟩ = m.hs[p].abs := by
   unfold FlM.abs
   dsimp only
   rw [List.getD_eq_getElem?_getD, List.getElem?_map, zH hp]
   rfl
  rw [hgd] at HV1
  obtain ⟨b, o, hAe, _, hh0, hh1, hh2, hh3⟩ := hold_at h.hsl.rd hp
  have hbb : b < w.heap.size := World.block_lt_of_cell? _ _ hh3
  have HY4 : Hid (∀ w', Fresh w w' → w'.cell? ⟨f, 4, none⟩ = some (.slice (some ⟨b, o, none⟩) m.hs.length m.hc)) := zh fun w' F => by rw [← hAe]; exact (h.fresh F).blk.cell 4
  have HY5 : Hid (∀ w', Fresh w w' → w'.cell? ⟨b, o + p * 4 + 3, none⟩ = some (.slice m.hs[p].A m.hs[p].st.length m.hs[p].c)) := zh fun w' F => (F.cell (p := ⟨b, o + p * 4 + 3, none⟩) hbb (fun f => f)).trans hh3
  have HY6 : Hid (∀ w', Fresh w w' → w'.cell? ⟨b, o + p * 4 + 2, none⟩ = some (.int .i64 m.hs[p].mn)) := zh fun w' F => (F.cell (p := ⟨b, o + p * 4 + 2, none⟩) hbb (fun f => f)).trans hh2
  have HZ5 : Hid (∀ w', Fresh w w' → w'.frozen? ⟨b, o + p * 4 + 3, none⟩ = false) := zh fun w' F => by
   have := (h.fresh F).hsl
   rw [hAe] at this
   exact this.frozen _
  have HRS : Hid (∀ w', Fresh w w' → Rd w' w'.heap.size m.hs[p].A (ivs m.hs[p].st)) := zh fun w' F => ((h.fresh F).ssl _ (ze hp)).rd
  have hsl6 : m.hs[p].st.length ≤ 600 := by have := hk.at_ _ (ze hp); omega
  have HSET : Hid (∀ (w1 : World) A c st, Fresh w w1 → Sl w1 w.heap.size 3 1 (.slice A st.length c) st.length (ivs st) → StepF w B f m { m.abs with hs := m.abs.hs.set p ((m.hs[p]).abs.put st) } (w1.setCell ⟨b, o + p * 4 + 3, none⟩ (.slice A st.length c))) := zh fun w1 A c st F hs => FlAt.setS (h.fresh F) F hp hAe (hs.less hB)
  have hmn : m.hs[p].abs.mn = m.hs[p].mn := rfl
  have hst : m.hs[p].abs.st = m.hs[p].st := rfl
  rw [hmn, hst] at HV1
  clear hmn hst hgd hh0 hh1 hh2 hh3 hpe hk ha hct hea hec hct6 ha10
  generalize m.abs = ma at HV1 HST HSET ⊢
  generalize m.hs[p].abs = hab at HV1 HSET
  generalize m.hs[p].st = st at HY5 HRS hsl6 HV1
  generalize m.hs[p].A = SA at HY5 HRS
  generalize m.hs[p].c = sc at HY5
  generalize m.hs[p].mn = mn at HY6 HV1
  generalize m.rows = rows at y1 HFI
  generalize m.GA = GA at y2 HFI
  generalize m.gs.length = gn at y2 HFI
  generalize m.gc = gc at y2 HFI
  generalize m.hc = hcap at HY4
  have hn1 := hl
  generalize m.hs.length = hn at HY4 hp hn1
  have p0 : (0 : Int) ≤ (p : Int) := by omega
  have p1 : (p : Int) < (hn : Int) := by omega
  have p2 : ¬ (p : Int) < 0 := by omega
  have p3 : decide ((p : Int) < 0) = false := zb p2
  clear h
  by_cases c0 : fe = 0
  ·subst c0
   rw [zk (by simp)] at HV1
   by_cases c1 : mn ≤ (st.length : Int)
   ·have d1 : decide (mn ≤ (st.length : Int)) = true := zc c1
    rw [zl c1] at HV1
    rw [HV1.out]
    go_in
    go_wp2_with fail
    refine HPL.out.mono ?_
    rintro e w1 ⟨rfl, hw1⟩
    rw [hw1]
    clear hw1 w1
    go_wp2_with fail
    refine (HFI.out w (za _ _)).mono ?_
    rintro e w2 ⟨rfl, f2⟩
    have HF2 := zh f2
    have k4 := HY4.out w2 f2
    have k5 := HY5.out w2 f2
    have k6 := HY6.out w2 f2
    clear f2
    go_wp2_with fail
    go_quiet (fail)
    rename_i nq
    go_wp2_with fail
    go_ret
    exact ⟨rfl, HST.out _ (HF2.out.drewN nq)⟩
   ·have d1 : decide (mn ≤ (st.length : Int)) = false := zb c1
    rw [zk c1] at HV1
    go_in
    go_wp2_with fail
    refine HPL.out.mono ?_
    rintro e w1 ⟨rfl, hw1⟩
    rw [hw1]
    clear hw1 w1
    go_wp2_with fail
    refine (HFI.out w (za _ _)).mono ?_
    rintro e w2 ⟨rfl, f2⟩
    have HF2 := zh f2
    have k4 := HY4.out w2 f2
    have k5 := HY5.out w2 f2
    have k6 := HY6.out w2 f2
    clear f2
    go_wp2_with fail
    go_quiet (fail)
    rename_i nq
    obtain ⟨W3, hW3⟩ : ∃ W3, w2.drewN nq = W3 := ⟨_, rfl⟩
    have HF3 : Hid (Fresh w W3) := zh (by rw [← hW3]; exact HF2.out.drewN nq)
    have HT3 := zh (HTA.out W3 HF3.out)
    rw [hW3]
    clear hW3 k4 k5 k6
    go_wp2_with fail
    refine HT3.out.mono ?_
    rintro e w4 ⟨v4, rfl, s4, f4⟩
    obtain ⟨A4, c4, rfl, _⟩ := s4.shape
    have HF4 := zh (HF3.out.trans f4)
    have HH4 := zh (HHA.out w4 A4 c4 s4.rd)
    clear s4 f4
    go_wp2_with fail
    refine HH4.out.mono ?_
    rintro e w5 ⟨rfl, hw5⟩
    rw [hw5]
    clear hw5 w5
    by_cases c2 : fi ∈ tk
    ·rw [zl c2] at HV1
     rw [zc c2]
     go_wp2_with fail
     go_ret
     exact ⟨by rw [HV1.out]; rfl, by rw [HV1.out]; exact HST.out _ HF4.out⟩
    ·rw [zk c2] at HV1
     rw [zb c2]
     have HPU : Hid (Calls Tryz.prog 128 #[.slice SA st.length sc, .int .i64 fi] w4.drew fun e w' => OwnL w4.drew (putG fi st false) e w') := zh (put_any w4.drew SA sc st fi (HRS.out w4.drew HF4.out.drew) (by omega))
     have HCC : Hid (∀ w', Fresh w4 w' → w'.cell? ⟨f, 4, none⟩ = some (.slice (some ⟨b, o, none⟩) hn hcap) ∧ w'.cell? ⟨b, o + p * 4 + 3, none⟩ = some (.slice SA st.length sc) ∧ w'.frozen? ⟨b, o + p * 4 + 3, none⟩ = false) := zh fun w' F => ⟨HY4.out w' (HF4.out.trans F), HY5.out w' (HF4.out.trans F), HZ5.out w' (HF4.out.trans F)⟩
     generalize putG fi st false = nst at HPU HV1
     go_wp2_with fail
     obtain ⟨j4, j5, _⟩ := HCC.out w4.drew (za _ _).drew
     go_region_with (go_at_call 128; refine HPU.out.mono ?_; rintro e w6 ⟨v6, rfl, s6, f6⟩; obtain ⟨A6, c6, rfl, _⟩ := s6.shape; have HS6 := zh s6; have HF6 := zh f6; obtain ⟨m4, m5, m6⟩ := HCC.out w6 ((za _ _).drew.trans f6); clear f6 s6)
     all_goals (
      have HF7 := zh (HF4.out.drew.trans HF6.out)
      have HS7 : Hid (Sl w6 w.heap.size 3 1 (.slice A6 nst.length c6) nst.length (ivs nst)) := zh (HS6.out.less HF4.out.size)
      go_wp2_with fail
      go_ret
      exact ⟨by rw [HV1.out]; rfl, by rw [HV1.out]; exact HSET.out w6 A6 c6 nst HF7.out HS7.out⟩)
  ·have d0 : (fe != 0) = true := by simpa using c0
   rw [zl (.inr c0)] at HV1
   rw [HV1.out]
   go_in
   go_wp2_with fail
   refine HPL.out.mono ?_
   rintro e w1 ⟨rfl, hw1⟩
   rw [hw1]
   clear hw1 w1
   go_wp2_with fail
   refine (HFI.out w (za _ _)).mono ?_
   rintro e w2 ⟨rfl, f2⟩
   have HF2 := zh f2
   clear f2
   go_wp2_with fail
   go_ret
   exact ⟨rfl, HST.out _ HF2.out⟩
end
end Go.Proofs.YtnmokpbomeamfaaGreat

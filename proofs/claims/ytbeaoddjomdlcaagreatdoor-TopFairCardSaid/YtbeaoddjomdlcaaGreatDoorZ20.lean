/- Proved here, for the statement TopFairCardSaid: laws that its walk leans on. It holds with no condition. (Put together and shortened by a program out of many texts: Level, NestLim, NestLim2, To22, To23, To24.) -/
import Derived.Test.YtbeaoddjomdlcaaGreatDoorZ19
import Derived.Test.YtbeaoddjomdlcaaGreatDoorZ18
set_option linter.unusedVariables false
set_option linter.unusedSimpArgs false
set_option maxRecDepth 100000
set_option maxHeartbeats 64000000
namespace Go.Proofs.YtbeaoddjomdlcaaGreatDoor
section
open Go.RowKit
theorem lv_f64_format : FloatKind.f64.format = Ieee.double := rfl
theorem lv_gt_eq {u v : Nat} (hu : FareM.nan u = false) (hv : FareM.nan v = false) : (FloatKind.f64.format.order u v == some Ordering.gt) = decide (FareM.worth v < FareM.worth u) := by
  rw [lv_f64_format, FareM.order_eq hu hv]
  rcases Int.lt_trichotomy (FareM.worth u) (FareM.worth v) with h | h | h
  · rw [FareM.cmp_lt h]; simp; omega
  · rw [FareM.cmp_eq h, h]; simp
  · rw [FareM.cmp_gt h]; simp [h]
theorem lv_eq_eq {u v : Nat} (hu : FareM.nan u = false) (hv : FareM.nan v = false) : (FloatKind.f64.format.order u v == some Ordering.eq) = decide (FareM.worth u = FareM.worth v) := by
  rw [lv_f64_format, FareM.order_eq hu hv]
  rcases Int.lt_trichotomy (FareM.worth u) (FareM.worth v) with h | h | h
  · rw [FareM.cmp_lt h]; simp; omega
  · rw [FareM.cmp_eq h, h]; simp
  · rw [FareM.cmp_gt h]; simp; omega
theorem lv_any_nan_left {u : Nat} (v : Nat) (o : Ordering) (hu : FareM.nan u = true) : (FloatKind.f64.format.order u v == some o) = false := by
  rw [lv_f64_format, FareM.order_nan_left v hu]; rfl
theorem nan_one : FareM.nan 4607182418800017408 = false := by decide +kernel
theorem run_archFloor (w : World) (u : Nat) (h : u < 9218868437227405312) : (callFunc 158 #[.float .f64 u]).run Tryz.prog w = .ok (.value (.float .f64 (Ieee.double.write ((Ieee.double.read u).integral .down)))) w := by
  obtain ⟨r1, n1⟩ := FareM.low_rung h
  obtain ⟨m, e, h1, h2⟩ := FareM.read_number (u := u) (by rw [r1]; exact h)
  have hd : FloatKind.f64.decode u = .number (FareM.neg u) m (-1074 + (e : Int)) := h1
  have e1 : (callFunc 158 #[.float .f64 u]).run Tryz.prog w = ((Extern.MathFloor.toIntegral "math.archFloor" .down #[.float .f64 u]).bind fun v => pure (.value v)).run Tryz.prog w := by kernel_rfl
  obtain ⟨g, e2⟩ : ∃ g : Bool → Nat → Sem Value, Extern.MathFloor.toIntegral "math.archFloor" .down #[.float .f64 u] = (match FloatKind.f64.decode u with | .nan s t => g s t | d => pure (.float .f64 (FloatKind.f64.encode (d.integral .down)))) := ⟨_, rfl⟩
  rw [e1, e2, hd, h1]
  rfl
theorem one_nan : FareM.nan 4607182418800017408 = false := nan_one
theorem zero_nan : FareM.nan 0 = false := by decide +kernel
theorem gt0 (u : Nat) : (FloatKind.f64.format.order u 0 == some Ordering.gt) = (!FareM.nan u && decide (0 < FareM.worth u)) := by
  rcases Bool.eq_false_or_eq_true (FareM.nan u) with h | h
  · rw [lv_any_nan_left 0 _ h, h]; rfl
  · rw [lv_gt_eq h zero_nan, FareM.zero_worth, h]; rfl
theorem ge1 {u : Nat} (h : FareM.nan u = false) : ((FloatKind.f64.format.order u 4607182418800017408 == some Ordering.gt) = decide (FareM.worth 4607182418800017408 < FareM.worth u)) ∧ (FloatKind.f64.format.order u 4607182418800017408 == some Ordering.eq) = decide (FareM.worth u = FareM.worth 4607182418800017408) := ⟨lv_gt_eq h one_nan, lv_eq_eq h one_nan⟩
theorem floor_any (u : Nat) (w : World) (h : u < 9218868437227405312) (hk : FareM.mag u / 2 ^ FareM.E1 < 4503599627370496) : Calls Tryz.prog 134 #[.float .f64 u] w fun e w' => e = .returned (.float .f64 (FareM.fl (FareM.mag u / 2 ^ FareM.E1))) ∧ w' = w := by
  have e1 := fun w => run_archFloor w u h
  rw [FareM.floor_eq h, FareM.write_fl hk] at e1
  have E1 := zh h
  have E2 := zh hk
  generalize FareM.fl (FareM.mag u / 2 ^ FareM.E1) = v at e1 ⊢
  clear h hk
  go_in
  go_wp2
  go_ret
  exact ⟨rfl, rfl⟩
theorem ret_lvl {a b : Int} (h : a = b) : Ending.returned (.tuple #[.int .i64 a, .int .i64 0]) = .returned (.tuple #[.int .i64 b, .int .i64 0]) := by rw [h]
theorem level_low (u k lv pr fk fv : Nat) (w : World) (k0 : ¬ (k : Int) < 0) (k1 : ¬ (10000 : Int) < (k : Int))
    (hg : (FloatKind.f64.format.order u 0 == some Ordering.gt) = true) (g1 : (FloatKind.f64.format.order u 4607182418800017408 == some Ordering.gt) = false) (g2 : (FloatKind.f64.format.order u 4607182418800017408 == some Ordering.eq) = false)
    (hnear : floatOfInt .f64 (k : Int) = fk) (hrun : ∀ (w : World) (t : TypeId), (binOp .mul t (.float .f64 u) (.float .f64 fk)).run Tryz.prog w = .ok (.float .f64 pr) w)
    (hfl : ∀ w, Calls Tryz.prog 134 #[.float .f64 pr] w fun e w' => e = .returned (.float .f64 fv) ∧ w' = w)
    (hcv : ∀ w, (convert 31 3 (.float .f64 fv)).run Tryz.prog w = .ok (.int .i64 (lv : Int)) w) :
    Calls Tryz.prog 93 #[.float .f64 u, .int .i64 (k : Int)] w fun e w' => e = .returned (.tuple #[.int .i64 (lv : Int), .int .i64 0]) ∧ w' = w := by
  have HFL := zh hfl
  clear hfl
  go_in
  go_wp2_with fail
  refine (HFL.out _).mono ?_
  rintro e w' ⟨rfl, rfl⟩
  go_wp2_with fail
  go_ret2
  exact ⟨rfl, rfl⟩
theorem decode_eq (u : Nat) : FloatKind.f64.decode u = Ieee.double.read u := rfl
theorem conv_f (u lv : Nat) (hu : (Ieee.double.read u).toInt .zero = some (lv : Int)) (h : lv ≤ 10000) (w : World) : (convert 31 3 (.float .f64 u)).run Tryz.prog w = .ok (.int .i64 (lv : Int)) w :=
  run_convert_float_int w _ _ .f64 .i64 _ _ (by rw [Tryz.underlying31]; rfl) Tryz.underlying3 (by
    unfold floatToIntVal
    rw [decode_eq, hu]
    dsimp only
    rw [if_pos ⟨by rw [show IntKind.i64.min = -9223372036854775808 from rfl]; omega, by rw [show IntKind.i64.max = 9223372036854775807 from rfl]; omega⟩])
theorem conv_fl (lv : Nat) (h : lv ≤ 10000) (w : World) : (convert 31 3 (.float .f64 (FareM.fl lv))).run Tryz.prog w = .ok (.int .i64 (lv : Int)) w := conv_f (FareM.fl lv) lv (FareM.toInt_fl (by omega)) h w
theorem level_any (u k : Nat) (w : World) (hu : u < 18446744073709551616) (h0 : k ≤ 10000) : Calls Tryz.prog 93 #[.float .f64 u, .int .i64 (k : Int)] w fun e w' => e = .returned (.tuple #[.int .i64 (FareM.levelOf u k : Int), .int .i64 0]) ∧ w' = w := by
  have k0 : ¬ (k : Int) < 0 := by omega
  have k1 : ¬ (10000 : Int) < (k : Int) := by omega
  by_cases hz : FareM.nan u = true ∨ FareM.worth u ≤ 0
  · have HL := zh (show (FareM.levelOf u k : Int) = 0 by unfold FareM.levelOf; rw [if_pos hz]; rfl)
    have hg : (FloatKind.f64.format.order u 0 == some Ordering.gt) = false := by
      rw [gt0]
      rcases hz with hz | hz
      · rw [hz]; rfl
      · rw [show decide (0 < FareM.worth u) = false by simp; omega]; simp
    clear hu hz
    go_in
    go_wp2_with fail
    go_ret2
    exact ⟨ret_lvl HL.out.symm, rfl⟩
  · have hn : FareM.nan u = false := by
      rcases Bool.eq_false_or_eq_true (FareM.nan u) with h | h
      · exact absurd (.inl h) hz
      · exact h
    have hp : 0 < FareM.worth u := by
      rcases Int.lt_or_le 0 (FareM.worth u) with h | h
      · exact h
      · exact absurd (.inr h) hz
    have hg : (FloatKind.f64.format.order u 0 == some Ordering.gt) = true := by rw [gt0, hn]; simpa using hp
    obtain ⟨g1, g2⟩ := ge1 hn
    by_cases h1 : FareM.worth 4607182418800017408 ≤ FareM.worth u
    · have HL := zh (show (FareM.levelOf u k : Int) = k by unfold FareM.levelOf; rw [if_neg hz, if_pos h1])
      rcases Int.lt_or_eq_of_le h1 with h2 | h2
      · have g1' : (FloatKind.f64.format.order u 4607182418800017408 == some Ordering.gt) = true := by rw [g1]; simpa using h2
        clear hu hz hn hp h1 h2 g1 g2
        go_in
        go_wp2_with fail
        go_ret2
        exact ⟨ret_lvl HL.out.symm, rfl⟩
      · have g1' : (FloatKind.f64.format.order u 4607182418800017408 == some Ordering.gt) = false := by rw [g1]; simp; omega
        have g2' : (FloatKind.f64.format.order u 4607182418800017408 == some Ordering.eq) = true := by rw [g2]; simpa using h2.symm
        clear hu hz hn hp h1 h2 g1 g2
        go_in
        go_wp2_with fail
        go_ret2
        exact ⟨ret_lvl HL.out.symm, rfl⟩
    · obtain ⟨l1, l2, l3⟩ := FareM.part_low hu hp (by omega)
      have HL := zh (show FareM.levelOf u k = FareM.level u k by unfold FareM.levelOf; rw [if_neg hz, if_neg h1])
      have g1' : (FloatKind.f64.format.order u 4607182418800017408 == some Ordering.gt) = false := by rw [g1]; simp; omega
      have g2' : (FloatKind.f64.format.order u 4607182418800017408 == some Ordering.eq) = false := by rw [g2]; simp; omega
      have hll := FareM.level_le (k := k) l2 (by omega)
      have hpl : FareM.prod u k < 9218868437227405312 := Nat.lt_of_le_of_lt (FareM.prod_le l2) (FareM.fl_lt (by omega))
      rw [HL.out]
      exact level_low u k (FareM.level u k) (FareM.prod u k) (FareM.fl k) (FareM.fl (FareM.level u k)) w k0 k1 hg g1' g2' (FareM.nearest_fl (by omega))
        (fun w t => run_float_arith w .mul t .f64 u _ _ (FareM.mul_prod l1 l2 (k := k) (by omega)))
        (fun w => floor_any (FareM.prod u k) w hpl (show FareM.level u k < 4503599627370496 by omega))
        (fun w => conv_fl _ (by omega) w)
end
section
open Go.RowKit NestM
def lim (us : List Nat) (k : Nat) : Nat → Int
  | 0 => (k : Int)
  | i + 1 => min (FareM.levelOf (us.getD (i + 1) 0) k : Int) (lim us k i)
def lims (us : List Nat) (k n : Nat) : List Int := (List.range n).map (lim us k)
theorem lims_succ (us : List Nat) (k n : Nat) : lims us k (n + 1) = lims us k n ++ [lim us k n] := by simp [lims, List.range_succ]
theorem lims_len (us : List Nat) (k n : Nat) : (lims us k n).length = n := by simp [lims]
theorem lims_at (us : List Nat) (k n i : Nat) (h : i < (lims us k n).length) : (lims us k n)[i] = lim us k i := by simp [lims]
theorem lim_le (us : List Nat) (k : Nat) : ∀ i, 0 ≤ lim us k i ∧ lim us k i ≤ (k : Int)
  | 0 => by simp [lim]
  | i + 1 => by
    have := lim_le us k i
    unfold lim
    omega
def fv (u : Nat) : Value := .float .f64 u
theorem limits_no (k : Int) (A : Option Addr) (cap n : Nat) (w : World) (h : ¬ (0 ≤ k ∧ k ≤ 10000) ∨ n < 1 ∨ 8 < n) :
    Calls Tryz.prog 50 #[.int .i64 k, .slice A n cap] w fun e w' => e = .returned (.tuple #[.slice none 0 0, .int .i64 1]) ∧ w' = w := by
  rcases Bool.eq_false_or_eq_true (wi k) with b | b
  · by_cases h1 : n < 1
    · have h1i : (n : Int) < 1 := by omega
      clear h
      go_in
      go_wp2_with fail
      refine (nest_within_any k w).mono ?_
      rw [b]
      rintro e w' ⟨rfl, rfl⟩
      go_wp2_with fail
      go_ret2
      exact ⟨rfl, rfl⟩
    · have h2 : 8 < n := by
        have := wi_true b
        omega
      have h1i : ¬ (n : Int) < 1 := by omega
      have h2i : (8 : Int) < (n : Int) := by omega
      clear h
      go_in
      go_wp2_with fail
      refine (nest_within_any k w).mono ?_
      rw [b]
      rintro e w' ⟨rfl, rfl⟩
      go_wp2_with fail
      go_ret2
      exact ⟨rfl, rfl⟩
  · clear h
    go_in
    go_wp2_with fail
    refine (nest_within_any k w).mono ?_
    rw [b]
    rintro e w' ⟨rfl, rfl⟩
    go_wp2_with fail
    go_ret2
    exact ⟨rfl, rfl⟩
theorem rd_at {w : World} {B : Nat} {A : Option Addr} {us : List Nat} (h : Rd w B A (us.map fv)) {k : Nat} (hk : k < us.length) : ∃ b o, A = some ⟨b, o, none⟩ ∧ b < B ∧ w.cell? ⟨b, o + k, none⟩ = some (.float .f64 (us.getD k 0)) := by
  obtain ⟨b, o, h1, h2, h3⟩ := h.at_ (k := k) (by simpa using hk)
  refine ⟨b, o, h1, h2, ?_⟩
  rw [h3]
  simp [fv, List.getD, hk]
theorem sl_at {w : World} {B : Nat} {v : Value} {n : Nat} {xs : List Int} (h : Sl w B 3 1 v n (xs.map iv)) (hn : 0 < n) {k : Nat} (hk : k < n) :
    ∃ g o cap, v = .slice (some ⟨g, o, none⟩) n cap ∧ n ≤ cap ∧ cap ≤ maxLen ∧ w.cell? ⟨g, o + k, none⟩ = some (.int .i64 (at_ xs k)) := by
  have hl := h.1
  rw [List.length_map] at hl
  obtain ⟨g, o, cap, rfl, _, _, h1, h2⟩ := h.head hn
  refine ⟨g, o, cap, rfl, h1, h2, ?_⟩
  rw [h.cell (j := k) (by rw [List.length_map]; omega), at_get (by omega)]
  simp [iv]
def LimPost2 (w : World) (us : List Nat) (k : Nat) (e : Ending) (w' : World) : Prop := ∃ v, e = .returned (.tuple #[v, .int .i64 0]) ∧ Sl w' w.heap.size 3 1 v us.length ((lims us k us.length).map iv) ∧ Fresh w w'
theorem limits_yes (k : Nat) (hk : k ≤ 10000) (A : Option Addr) (cap : Nat) (us : List Nat) (hu : ∀ i, us.getD i 0 < 18446744073709551616) (h1 : 1 ≤ us.length) (h8 : us.length ≤ 8) (w : World) (hA : Rd w w.heap.size A (us.map fv)) (hle : us.length ≤ cap) (hm : cap ≤ maxLen) :
    Calls Tryz.prog 50 #[.int .i64 (k : Int), .slice A us.length cap] w fun e w' => LimPost2 w us k e w' := by
  unfold maxLen at hm
  obtain ⟨i0, hi, hz0, hz1, hz2⟩ := info_parts info_int
  have b : wi (k : Int) = true := wi_mk (by omega)
  have HA := zh hA
  have HU := zh hu
  have HLIM := zh (lim_le us k)
  obtain ⟨bA, oA, rfl, _, _⟩ := rd_at hA (k := 0) (by omega)
  clear hA hu
  have q1 : ¬ (us.length : Int) < 1 := by omega
  have q2 : ¬ (8 : Int) < (us.length : Int) := by omega
  have q3 : (1 : Int) ≤ (us.length : Int) := by omega
  have q4 : (us.length : Int) ≤ (cap : Int) := by omega
  have S0 : Hid (Sl (w.alloc (.cells #[.int .i64 (k : Int)] 3)) w.heap.size 3 1 (.slice (some ⟨w.heap.size, 0, none⟩) 1 1) 1 ((lims us k 1).map iv)) := zh (sl_new w _ [.int .i64 (k : Int)] _ (Nat.le_refl _) (by simp [maxLen]))
  by_cases hc1 : cap = 1
  · have HL1 := zh (show us.length = 1 by omega)
    have q5 : ¬ (0 : Int) < (us.length : Int) - 1 := by omega
    go_in
    go_wp2_with fail
    refine (nest_within_any k w).mono ?_
    rw [b]
    rintro e w' ⟨rfl, hw'⟩
    rw [hw']
    clear hw' w'
    go_wp2_with fail
    go_loopw [6, 29] (fun v6 v29 wr => v29 = .int .i64 0 ∧ v6 = .slice (some ⟨w.heap.size, 0, none⟩) 1 1 ∧ wr = w.alloc (.cells #[.int .i64 (k : Int)] 3)) (fun _ _ _ => 0)
    case atStart => exact ⟨rfl, rfl, rfl⟩
    case round =>
      obtain ⟨rfl, rfl, rfl⟩ := hrel
      go_wp2_with fail
      go_ret2
      exact ⟨_, rfl, by rw [HL1.out]; exact S0.out, (Frm.refl _ w).alloc _⟩
  · go_in
    go_wp2_with fail
    refine (nest_within_any k w).mono ?_
    rw [b]
    rintro e w' ⟨rfl, hw'⟩
    rw [hw']
    clear hw' w'
    go_wp2_with fail
    go_loopw [6, 29] (fun v6 v29 wr => ∃ (i : Nat) (v : Value), v = v6 ∧ i + 1 ≤ us.length ∧ v29 = .int .i64 (i : Int) ∧ Sl wr w.heap.size 3 1 v (i + 1) ((lims us k (i + 1)).map iv) ∧ Fresh w wr) (fun _ v29 _ => us.length - (RowKit.intOf v29).toNat)
    case atStart => exact ⟨0, _, rfl, by omega, rfl, S0.out, (Frm.refl _ w).alloc _⟩
    case round =>
      obtain ⟨i, v, rfl, hin, rfl, hs, hf⟩ := hrel
      obtain ⟨g, o, c, rfl, hg1, hg2, hcell⟩ := sl_at hs (by omega) (k := i) (by omega)
      rw [show at_ (lims us k (i + 1)) i = lim us k i from by rw [at_get (by rw [lims_len]; omega), lims_at]] at hcell
      have HS := zh hs
      have HF := zh hf
      have hsz := hf.size
      clear hs hf
      unfold maxLen at hg2
      have hi0 : (0 : Int) ≤ (i : Int) := by omega
      by_cases hlt : i + 1 < us.length
      · obtain ⟨b', o', e1, _, hc⟩ := rd_at ((HA.out.fresh (Nat.le_refl _) HF.out).more HF.out.size) (k := i + 1) hlt
        injection e1 with e1
        injection e1 with e1 e2 _
        subst e1 e2
        have hc' : wr.cell? ⟨bA, oA + 1 + i, none⟩ = some (.float .f64 (us.getD (i + 1) 0)) := by rw [← hc]; congr 2; omega
        have hlv := level_any (us.getD (i + 1) 0) k wr (HU.out _) hk
        have hll := (HLIM.out i)
        generalize hx : us.getD (i + 1) 0 = u at hc' hlv
        generalize hy : FareM.levelOf u k = y at hlv
        have HLV := zh hlv
        have HX : Hid (lim us k (i + 1) = min (y : Int) (lim us k i)) := zh (by rw [lim, hx, hy])
        have hlti : (i : Int) < (us.length : Int) - 1 := by omega
        have hlt2 : (i : Int) + 1 < (us.length : Int) := by omega
        clear hc hlv hx hy
        generalize hz : lim us k i = z at hcell HX hll
        clear hz
        have FIN : ∀ (x : Int) (v1 : Value) (w1 : World), lim us k (i + 1) = x → Sl w1 w.heap.size 3 1 v1 (i + 1 + 1) ((lims us k (i + 1)).map iv ++ [.int .i64 x]) → Sl w1 w.heap.size 3 1 v1 (i + 1 + 1) ((lims us k (i + 1 + 1)).map iv) := by
          intro x v1 w1 e h
          rw [lims_succ us k (i + 1), List.map_append, e]
          exact h
        have HFIN := zh FIN
        clear FIN
        by_cases hmin : (y : Int) ≤ z
        · have HM := zh (show lim us k (i + 1) = (y : Int) by rw [HX.out]; omega)
          have R := zh (rd_one wr (.int .i64 (y : Int)) 3)
          have hmm : min (y : Int) z = (y : Int) := by omega
          have HSA := zh (HS.out.alloc (.cells #[.int .i64 (y : Int)] 3))
          go_wp2_with fail
          refine HLV.out.mono ?_
          rintro e w1 ⟨rfl, rfl⟩
          go_wp2_with (at_builtin; refine wpList_append_sl _ rfl (.tmp 40) (.tmp 47) _ rfl w.heap.size 3 i0 _ 1 8 Tryz.underlying26 hi hz0 hz1 hz2 rfl (by omega) _ _ _ rfl HSA.out _ _ 1 _ _ rfl (by rfl) R.out (fun u hu => by simp at hu; subst hu; rfl) (by unfold maxLen; omega) (by omega) (by simp; omega) ?_; intro v1 w1 hs1 hf1 ha1)
          have HS1 := zh (HFIN.out _ _ _ HM.out hs1)
          have HF1 : Hid (Fresh w w1) := zh ((HF.out.alloc _).trans' hf1 (fun i hi hk => by have := (HSA.out.lt _ hk).1; omega))
          clear hs1 hf1 ha1
          go_wp2_with fail
          go_roundw
          case rel => exact ⟨i + 1, _, rfl, by omega, by go_num, HS1.out, HF1.out⟩
          case measure => simp [RowKit.intOf]; omega
        · have HM := zh (show lim us k (i + 1) = z by rw [HX.out]; omega)
          have R := zh (rd_one wr (.int .i64 z) 3)
          have hmm : min (y : Int) z = z := by omega
          have HSA := zh (HS.out.alloc (.cells #[.int .i64 z] 3))
          have hmin2 : z < (y : Int) := by omega
          go_wp2_with fail
          refine HLV.out.mono ?_
          rintro e w1 ⟨rfl, rfl⟩
          go_wp2_with (at_builtin; refine wpList_append_sl _ rfl (.tmp 40) (.tmp 47) _ rfl w.heap.size 3 i0 _ 1 8 Tryz.underlying26 hi hz0 hz1 hz2 rfl (by omega) _ _ _ rfl HSA.out _ _ 1 _ _ rfl (by rfl) R.out (fun u hu => by simp at hu; subst hu; rfl) (by unfold maxLen; omega) (by omega) (by simp; omega) ?_; intro v1 w1 hs1 hf1 ha1)
          have HS1 := zh (HFIN.out _ _ _ HM.out hs1)
          have HF1 : Hid (Fresh w w1) := zh ((HF.out.alloc _).trans' hf1 (fun i hi hk => by have := (HSA.out.lt _ hk).1; omega))
          clear hs1 hf1 ha1
          go_wp2_with fail
          go_roundw
          case rel => exact ⟨i + 1, _, rfl, by omega, by go_num, HS1.out, HF1.out⟩
          case measure => simp [RowKit.intOf]; omega
      · have HN := zh (show us.length = i + 1 by omega)
        have hlti : ¬ (i : Int) < (us.length : Int) - 1 := by omega
        go_wp2_with fail
        go_ret2
        exact ⟨_, rfl, by rw [HN.out]; exact HS.out, HF.out⟩
def LimsPost (w : World) (us : List Nat) (k : Int) (e : Ending) (w' : World) : Prop :=
  Fresh w w' ∧ ((∃ n : Nat, k = (n : Int) ∧ n ≤ 10000 ∧ 1 ≤ us.length ∧ us.length ≤ 8 ∧ ∃ v, e = .returned (.tuple #[v, .int .i64 0]) ∧ Sl w' w.heap.size 3 1 v us.length ((lims us n us.length).map iv)) ∨
    ((¬ (0 ≤ k ∧ k ≤ 10000) ∨ us.length < 1 ∨ 8 < us.length) ∧ e = .returned (.tuple #[.slice none 0 0, .int .i64 1])))
theorem lims_of {f : Nat} (k : Int) (A : Option Addr) (cap : Nat) (us : List Nat) (w : World)
    (no : (¬ (0 ≤ k ∧ k ≤ 10000) ∨ us.length < 1 ∨ 8 < us.length) → Calls Tryz.prog f #[.int .i64 k, .slice A us.length cap] w fun e w' => e = .returned (.tuple #[.slice none 0 0, .int .i64 1]) ∧ w' = w)
    (yes : ∀ n : Nat, n ≤ 10000 → 1 ≤ us.length → us.length ≤ 8 → Calls Tryz.prog f #[.int .i64 (n : Int), .slice A us.length cap] w fun e w' => LimPost2 w us n e w') :
    Calls Tryz.prog f #[.int .i64 k, .slice A us.length cap] w fun e w' => LimsPost w us k e w' := by
  by_cases h : ¬ (0 ≤ k ∧ k ≤ 10000) ∨ us.length < 1 ∨ 8 < us.length
  · refine (no h).mono ?_
    rintro e w' ⟨rfl, rfl⟩
    exact ⟨Frm.refl _ _, .inr ⟨h, rfl⟩⟩
  · obtain ⟨n, rfl⟩ := Int.eq_ofNat_of_zero_le (show 0 ≤ k by omega)
    refine (yes n (by omega) (by omega) (by omega)).mono ?_
    rintro e w' ⟨v, rfl, hs, hf⟩
    exact ⟨hf, .inl ⟨n, rfl, by omega, by omega, by omega, v, rfl, hs⟩⟩
end
section
open Go.RowKit
def NewPost (w : World) (B : Nat) (num : Int) (e : Ending) (w' : World) : Prop :=
  Fresh w w' ∧ ((∃ M : FM, e = .returned (.tuple #[.pointer (some ⟨M.f, 0, none⟩), .int .i64 0]) ∧ FlP w' B M ∧ (∀ k, M.own k → w.heap.size ≤ k) ∧ M.num = num ∧ 1 ≤ num ∧ num ≤ 9999) ∨ e = .returned (.tuple #[.pointer none, .int .i64 1]))
theorem lims_wf (us : List Nat) (k n : Nat) (hk : k ≤ 10000) : ∀ z ∈ lims us k n, wf64 z := fun z hz => by
  unfold lims at hz
  obtain ⟨i, _, rfl⟩ := List.mem_map.1 hz
  have := lim_le us k i
  exact ⟨by omega, by omega⟩
theorem new_flight_any (w : World) (B : Nat) (hB : B ≤ w.heap.size) (num rows : Int) (wr : wf64 rows) (A : Option Addr) (c : Nat) (gs : List Int) (hA : Rd w w.heap.size A (ivs gs)) (hs : small gs) (hc : gs.length ≤ c) (hcm : c ≤ maxLen)
    (P : Option Addr) (pc : Nat) (us : List Nat) (hu : ∀ i, us.getD i 0 < 18446744073709551616) (hP : Rd w w.heap.size P (us.map fv)) (hp : us.length ≤ pc) (hpm : pc ≤ maxLen) :
    Calls Tryz.prog 21 #[.int .i64 num, .agg #[.int .i64 rows, .slice A gs.length c], .slice P us.length pc] w fun e w' => NewPost w B num e w' := by
  obtain ⟨W, hW⟩ : ∃ W, w.alloc (.cells #[.int .i64 rows, .slice A gs.length c] 33) = W := ⟨_, rfl⟩
  have HFW : Hid (Fresh w W) := zh (by rw [← hW]; exact (Frm.refl _ w).alloc _)
  have hBX : Blk W w.heap.size 33 #[.int .i64 rows, .slice A gs.length c] := by rw [← hW]; exact Blk.new w _ _
  have HY : Hid (∀ w', Fresh W w' → w'.cell? ⟨w.heap.size, 0, none⟩ = some (.int .i64 rows) ∧ w'.cell? ⟨w.heap.size, 1, none⟩ = some (.slice A gs.length c)) := zh fun w' F => ⟨(hBX.frm F (fun f => f)).cell 0, (hBX.frm F (fun f => f)).cell 1⟩
  obtain ⟨y0, y1⟩ := HY.out W (Frm.refl _ _)
  have HA : Hid (∀ w', Fresh W w' → Rd w' w'.heap.size A (ivs gs)) := zh fun w' F => (hA.fresh (Nat.le_refl _) (HFW.out.trans F)).more (HFW.out.trans F).size
  have HP : Hid (∀ w', Fresh W w' → Rd w' w'.heap.size P (us.map fv)) := zh fun w' F => (hP.fresh (Nat.le_refl _) (HFW.out.trans F)).more (HFW.out.trans F).size
  have HBX := zh hBX
  have HC : Hid (Calls Tryz.prog 51 #[.agg #[.int .i64 rows, .slice A gs.length c]] W fun e w' => e = .returned (.int .i64 (countL rows gs)) ∧ Fresh W w') := zh (pCount_any W rows A c gs (HA.out W (Frm.refl _ _)) hs)
  have hcb := countL_bd rows gs
  have HWS : Hid (w.heap.size < W.heap.size) := zh hBX.lt
  clear hBX hA hP
  go_in
  go_wp2_with fail
  try rw [hW]
  clear hW
  refine HC.out.mono ?_
  rintro e w1 ⟨rfl, f1⟩
  generalize countL rows gs = k at hcb
  have HF1 := zh f1
  obtain ⟨z0, z1⟩ := HY.out w1 f1
  have HL : Hid (Calls Tryz.prog 50 #[.int .i64 k, .slice P us.length pc] w1 fun e w' => LimsPost w1 us k e w') := zh (lims_of k P pc us w1 (fun h => limits_no k P pc us.length w1 h) (fun n h0 h1 h8 => limits_yes n h0 P pc us hu h1 h8 w1 (HP.out w1 f1) hp hpm))
  clear f1
  go_wp2_with fail
  refine HL.out.mono ?_
  rintro e w2 ⟨f2, h2⟩
  have HF2 : Hid (Fresh W w2) := zh (HF1.out.trans f2)
  obtain ⟨x0, x1⟩ := HY.out w2 HF2.out
  have HR : Hid (Calls Tryz.prog 52 #[.agg #[.int .i64 rows, .slice A gs.length c]] w2 fun e w' => e = .returned (.bool (rightL rows gs)) ∧ Fresh w2 w') := zh (pRight_any w2 rows A c gs (HA.out w2 HF2.out) hs)
  clear f2
  rcases h2 with ⟨n, rfl, h0, h1, h8, v, rfl, hv⟩ | ⟨_, rfl⟩
  · obtain ⟨A3, c3, rfl, hc3, hm3, _⟩ := hv.shape
    have HV := zh hv
    clear hv
    by_cases q1 : num < 1
    · go_wp2_with fail
      go_ret2
      exact ⟨HFW.out.trans HF2.out, .inr rfl⟩
    by_cases q2 : 9999 < num
    · go_wp2_with fail
      go_ret2
      exact ⟨HFW.out.trans HF2.out, .inr rfl⟩
    go_wp2_with fail
    refine HR.out.mono ?_
    rintro e w3 ⟨rfl, f3⟩
    have HF3 : Hid (Fresh W w3) := zh (HF2.out.trans f3)
    have HF23 := zh f3
    obtain ⟨u0, u1⟩ := HY.out w3 HF3.out
    clear f3
    cases hr : rightL rows gs with
    | false =>
      go_wp2_with fail
      go_ret2
      exact ⟨HFW.out.trans HF3.out, .inr rfl⟩
    | true =>
      have hgl := (rightL_of hr).2.1
      have HCL : Hid (Calls Tryz.prog 53 #[.slice A gs.length c] w3 fun e w' => ∃ v, e = .returned v ∧ Sl w' w3.heap.size 3 1 v gs.length (gs.map iv) ∧ Fresh w3 w') := zh (clone_any w3 A c gs (HA.out w3 HF3.out) (by omega) (by omega) hc hcm)
      go_wp2_with fail
      refine HCL.out.mono ?_
      rintro e w4 ⟨v4, rfl, hv4, f4⟩
      obtain ⟨A4, c4, rfl, _, _, _⟩ := hv4.shape
      have HF4 : Hid (Fresh W w4) := zh (HF3.out.trans f4)
      have HB4 : Hid (Blk w4 w.heap.size 33 #[.int .i64 rows, .slice A gs.length c]) := zh (HBX.out.frm HF4.out (fun f => f))
      have hfz := HB4.out.frozen 1
      have hcx := HB4.out.cell 1
      obtain ⟨w5, hw5⟩ : ∃ w5, w4.setCell ⟨w.heap.size, 1, none⟩ (.slice A4 gs.length c4) = w5 := ⟨_, rfl⟩
      have HFS : Hid (Frm (fun j => j = w.heap.size) w4 w5) := zh (by rw [← hw5]; exact (Frm.refl (fun j => j = w.heap.size) w4).setCell (p := ⟨w.heap.size, 1, none⟩) (fun _ => rfl) _)
      have HB5 : Hid (Blk w5 w.heap.size 33 #[.int .i64 rows, .slice A4 gs.length c4]) := zh (by rw [← hw5]; exact HB4.out.set 1 _)
      have v0 := HB5.out.cell 0
      have v1 := HB5.out.cell 1
      have HN5 : Hid (∀ k, w3.heap.size ≤ k ∨ w1.heap.size ≤ k → ¬ k = w.heap.size) := zh fun k hk e => by
        have a1 := HWS.out
        have a2 := HF3.out.size
        have a3 := HF1.out.size
        omega
      have HG5 : Hid (Sl w5 w3.heap.size 3 1 (.slice A4 gs.length c4) gs.length (ivs gs)) := zh (hv4.frm HFS.out (fun k hk => HN5.out k (.inl (hv4.lt k hk).1)))
      have HV3 : Hid (Sl w4 w1.heap.size 3 1 (.slice A3 us.length c3) us.length ((lims us n us.length).map iv)) := zh ((HV.out.fresh HF23.out).fresh f4)
      have HV5 : Hid (Sl w5 w1.heap.size 3 1 (.slice A3 us.length c3) us.length (ivs (lims us n us.length))) := zh (HV3.out.frm HFS.out (fun k hk => HN5.out k (.inr (HV3.out.lt k hk).1)))
      have HW5 : Hid (Fresh w w5) := zh ((HFW.out.trans HF4.out).trans' HFS.out (fun i hi e => by omega))
      have HSZ : Hid (w.heap.size ≤ w3.heap.size ∧ w.heap.size ≤ w1.heap.size) := zh ⟨(HFW.out.trans HF3.out).size, (HFW.out.trans HF1.out).size⟩
      have HE : Hid (Calls Tryz.prog 54 #[.int .i64 num, .agg #[.int .i64 rows, .slice A4 gs.length c4], .slice A3 us.length c3] w5 fun e w' => NewF w5 B (.slice A4 gs.length c4) (.slice A3 us.length c3) num rows e w') := zh (by
        have hll := lims_len us n us.length
        have := empty_any w5 B (Nat.le_trans hB HW5.out.size) num rows ⟨by omega, by omega⟩ wr A4 c4 gs (HG5.out.less (Nat.le_trans hB HSZ.out.1)) hs A3 c3 (lims us n us.length)
        rw [hll] at this
        exact this (HV5.out.less (Nat.le_trans hB HSZ.out.2)) h8 (lims_wf us n us.length h0))
      clear hv4 f4
      go_wp2_with fail
      refine HE.out.mono ?_
      rintro e w6 ⟨M, rfl, m1, m2, m3, m4⟩
      have HFIN : Hid (FlP w6 B M ∧ (∀ k, M.own k → w.heap.size ≤ k) ∧ M.num = num ∧ Fresh w w6) := zh ⟨m1, fun k hk => by
        rcases m2 k hk with h | h | h
        · exact Nat.le_trans HW5.out.size h
        · exact Nat.le_trans HSZ.out.1 (HG5.out.lt k h).1
        · exact Nat.le_trans HSZ.out.2 (HV5.out.lt k h).1, m4, HW5.out.trans m3⟩
      clear m1 m2 m3 m4
      go_wp2_with fail
      go_ret2
      exact ⟨HFIN.out.2.2.2, .inl ⟨M, rfl, HFIN.out.1, HFIN.out.2.1, HFIN.out.2.2.1, by omega, by omega⟩⟩
  · by_cases q1 : num < 1
    · go_wp2_with fail
      go_ret2
      exact ⟨HFW.out.trans HF2.out, .inr rfl⟩
    by_cases q2 : 9999 < num
    · go_wp2_with fail
      go_ret2
      exact ⟨HFW.out.trans HF2.out, .inr rfl⟩
    go_wp2_with fail
    refine HR.out.mono ?_
    rintro e w3 ⟨rfl, f3⟩
    have HF3 : Hid (Fresh W w3) := zh (HF2.out.trans f3)
    clear f3
    cases hr : rightL rows gs with
    | false =>
      go_wp2_with fail
      go_ret2
      exact ⟨HFW.out.trans HF3.out, .inr rfl⟩
    | true =>
      go_wp2_with fail
      go_ret2
      exact ⟨HFW.out.trans HF3.out, .inr rfl⟩
theorem clone_big (w : World) (B : Nat) (A : Option Addr) (c : Nat) (l : List Int) (h : Sl w B 3 1 (.slice A l.length c) l.length (ivs l)) (hl : l.length ≤ 100000) :
    Calls Tryz.prog 53 #[.slice A l.length c] w fun e w' => ∃ v, e = .returned v ∧ Sl w' w.heap.size 3 1 v l.length (ivs l) ∧ Fresh w w' := by
  obtain ⟨A1, c1, e1, h1, h2, h3⟩ := h.shape
  injection e1 with e1 e2 e3
  subst e1 e3
  cases A with
  | none =>
    obtain ⟨h4, rfl⟩ := h3 rfl
    refine (Tryz.slices_Clone_int_nil l.length 0 w).mono ?_
    rintro e w' ⟨rfl, rfl⟩
    have : l = [] := List.length_eq_zero_iff.1 h4
    subst this
    exact ⟨_, rfl, Sl.nil _ _ _ _, Frm.refl _ _⟩
  | some a =>
    have hr := h.rd
    rcases Nat.eq_zero_or_pos l.length with h0 | h0
    · have : l = [] := List.length_eq_zero_iff.1 h0
      subst this
      refine (Tryz.slices_Clone_int_zero a c w).mono ?_
      rintro e w' ⟨v, rfl, hv, _, hb⟩
      exact ⟨v, rfl, Sl.of_row hv, fresh_of_below hb⟩
    · obtain ⟨g, o, cap, e, _⟩ := h.head h0
      injection e with e _ _
      injection e with e
      subst e
      refine (Tryz.slices_Clone_int g o l.length c l w (Nat.le_refl _) (by omega) (fun j hj => ?_)).mono ?_
      · have := h.cell (j := j) (by unfold ivs; simpa using hj)
        rw [this, List.getD_eq_getElem?_getD, List.getElem?_eq_getElem hj]
        unfold ivs
        rw [List.getElem_map]
        rfl
      · rintro e w' ⟨v, rfl, hv, _, hb⟩
        rw [List.take_length] at hv
        exact ⟨v, rfl, Sl.of_row hv, fresh_of_below hb⟩
def HdP (w : World) (B : Nat) (x : Hd) : Prop := wf64 x.ow ∧ wf64 x.cl ∧ wf64 x.mn ∧ x.st.length ≤ 10000 ∧ seatB x.st ∧ Sl w B 3 1 (.slice x.A x.st.length x.c) x.st.length (ivs x.st)
theorem HdP.less {w : World} {B B' : Nat} {x : Hd} (h : HdP w B x) (hB : B' ≤ B) : HdP w B' x := ⟨h.1, h.2.1, h.2.2.1, h.2.2.2.1, h.2.2.2.2.1, h.2.2.2.2.2.less hB⟩
def HoldsPost (w : World) (e : Ending) (w' : World) : Prop :=
  ∃ (v : Value) (hs : List Hd), e = .returned v ∧ hs.length ≤ 30000001 ∧ Sl w' w.heap.size 139 4 v hs.length (hs.flatMap hcel) ∧ (∀ x ∈ hs, HdP w' w.heap.size x) ∧ Fresh w w'
theorem holds_any (w : World) (B : Nat) (M : FM) (h : FlP w B M) :
    Calls Tryz.prog 90 #[.pointer (some ⟨M.f, 0, none⟩)] w fun e w' => HoldsPost w e w' := by
  obtain ⟨i0, hi', hz0, hz1, hz2⟩ := info_parts info_h
  have HH := zh h
  have y5 : w.cell? ⟨M.f, 4, none⟩ = some M.sv := h.blk.cell 4
  have y6 : w.cell? ⟨M.f, 5, none⟩ = some (.map (some M.hb)) := h.blk.cell 5
  clear h
  go_in
  go_wp2_with fail
  refine (keysHo_any (some M.hb) w).mono ?_
  rintro e w1 ⟨rfl, hw1⟩
  have HF1 : Hid (Fresh w w1) := zh (by rw [hw1]; exact fresh_alloc _ _)
  have HS : Hid (Calls Tryz.prog 30 #[.func (.func 157) #[] #[.pointer (some ⟨w.heap.size, 0, none⟩)]] w1 fun e w' => KeysPost w1 M.hv e w') := zh (by rw [hw1]; exact sortedHo_any w M.hb M.hv HH.out.hm HH.out.hkb)
  clear hw1
  go_wp2_with fail
  refine HS.out.mono ?_
  rintro e w2 ⟨v2, ks, rfl, hp, hk, hkl, hsl, hf2⟩
  have HF2 : Hid (Fresh w w2) := zh (HF1.out.trans hf2)
  have HSL := zh hsl
  have HK := zh hk
  obtain ⟨A2, c2, rfl, _, _, _⟩ := hsl.shape
  clear hp hk hsl hf2
  go_wp2_with fail
  go_loopw [3, 14] (fun v3 v14 wr => ∃ (i : Nat) (hs : List Hd), i ≤ ks.length ∧ v14 = .int .i64 (i : Int) ∧ hs.length = i ∧ Sl wr w2.heap.size 139 4 v3 i (hs.flatMap hcel) ∧ (∀ x ∈ hs, HdP wr w2.heap.size x) ∧ Fresh w2 wr) (fun _ v14 _ => ks.length - (RowKit.intOf v14).toNat)
  case atStart => exact ⟨0, [], by omega, rfl, rfl, Sl.nil _ _ _ _, (fun x hx => by cases hx), Frm.refl _ _⟩
  case round =>
    obtain ⟨i, hs, hi, rfl, hlen, hs3, hall, hf2⟩ := hrel
    have hf : Fresh w wr := HF2.out.trans hf2
    have hi0 : (0 : Int) ≤ (i : Int) := by omega
    have HS3 := zh hs3
    have HALL := zh hall
    have HF := zh hf2
    have HLN := zh hlen
    have HM := zh (HH.out.fresh hf)
    obtain ⟨A5, c5, rfl, n5, m5, _⟩ := hs3.shape
    clear hs3 hall hlen
    by_cases hlt : i < ks.length
    · have hlti : (i : Int) < (ks.length : Int) := by omega
      obtain ⟨b, o, rfl, _, hc⟩ := (HSL.out.fresh hf2).rd.at_ (k := i) (by unfold ivs; simpa using hlt)
      unfold ivs at hc
      rw [List.getElem_map] at hc
      have hkk := (HK.out ks[i]).1 (List.getElem_mem hlt)
      generalize ks[i] = k at hc hkk
      obtain ⟨x, hx⟩ : ∃ x, M.h k = some x := by
        unfold FM.hv at hkk
        cases hx : M.h k with
        | none => rw [hx] at hkk; cases hkk
        | some x => exact ⟨x, rfl⟩
      obtain ⟨hkb, hxp⟩ := HM.out.hk k x hx
      have hlook := HM.out.hm.at' (t := 130) Tryz.underlying130 (z := .pointer none) (fun _ => by kernel_rfl) (k := k) ⟨by omega, by omega⟩
      rw [hv_some hx] at hlook
      dsimp only [Option.getD, HoldM.ptr] at hlook
      obtain ⟨A3, c3, hv3, n3, m3, _⟩ := hxp.sl.shape
      have z5 : wr.cell? ⟨M.f, 4, none⟩ = some M.sv := HM.out.blk.cell 4
      have z6 : wr.cell? ⟨M.f, 5, none⟩ = some (.map (some M.hb)) := HM.out.blk.cell 5
      have y0 : wr.cell? ⟨x.p, 0, none⟩ = some (.int .i64 x.ow) := hxp.blk.cell 0
      have y1 : wr.cell? ⟨x.p, 1, none⟩ = some (.int .i64 x.cl) := hxp.blk.cell 1
      have y2 : wr.cell? ⟨x.p, 2, none⟩ = some (.int .i64 x.mn) := hxp.blk.cell 2
      have y3 : wr.cell? ⟨x.p, 3, none⟩ = some (.slice A3 x.l.length c3) := by rw [← hv3]; exact hxp.blk.cell 3
      obtain ⟨W, hW⟩ : ∃ W, wr.alloc (.cells #[.int .i64 x.ow, .int .i64 x.cl, .int .i64 x.mn, .slice A3 x.l.length c3] 139) = W := ⟨_, rfl⟩
      have FW : Fresh wr W := by rw [← hW]; exact fresh_alloc _ _
      have HBW : Hid (Blk W wr.heap.size 139 #[.int .i64 x.ow, .int .i64 x.cl, .int .i64 x.mn, .slice A3 x.l.length c3]) := zh (by rw [← hW]; exact Blk.new _ _ _)
      have HXS : Hid (Sl W B 3 1 (.slice A3 x.l.length c3) x.l.length (ivs x.l)) := zh (by rw [← hv3]; exact hxp.sl.fresh FW)
      have hlb := hxp.lb
      have HCL := zh (clone_big W B A3 c3 x.l HXS.out (by omega))
      have HX := zh hxp
      have HFWW := zh FW
      have x3 : W.cell? ⟨wr.heap.size, 3, none⟩ = some (.slice A3 x.l.length c3) := HBW.out.cell 3
      clear FW hxp
      go_wp2_with fail
      refine HCL.out.mono ?_
      rintro e w4 ⟨v4, rfl, hv4, f4⟩
      obtain ⟨A4, c4, rfl, n4, m4, _⟩ := hv4.shape
      have HB4 : Hid (Blk w4 wr.heap.size 139 #[.int .i64 x.ow, .int .i64 x.cl, .int .i64 x.mn, .slice A3 x.l.length c3]) := zh (HBW.out.frm f4 (fun f => f))
      have hfz := HB4.out.frozen 3
      have hcx := HB4.out.cell 3
      obtain ⟨w5, hw5⟩ : ∃ w5, w4.setCell ⟨wr.heap.size, 3, none⟩ (.slice A4 x.l.length c4) = w5 := ⟨_, rfl⟩
      have HFS : Hid (Frm (fun j => j = wr.heap.size) w4 w5) := zh (by rw [← hw5]; exact (Frm.refl (fun j => j = wr.heap.size) w4).setCell (p := ⟨wr.heap.size, 3, none⟩) (fun _ => rfl) _)
      have HB5 : Hid (Blk w5 wr.heap.size 139 #[.int .i64 x.ow, .int .i64 x.cl, .int .i64 x.mn, .slice A4 x.l.length c4]) := zh (by rw [← hw5]; exact HB4.out.set 3 _)
      have v0 := HB5.out.cell 0
      have v1 := HB5.out.cell 1
      have v2 := HB5.out.cell 2
      have v3 := HB5.out.cell 3
      have HSZ : Hid (wr.heap.size < W.heap.size ∧ W.heap.size ≤ w5.heap.size) := zh ⟨HBW.out.lt, Nat.le_trans f4.size HFS.out.size⟩
      have HF5 : Hid (Fresh wr w5) := zh ((HFWW.out.trans f4).trans' HFS.out (fun i hi e => by omega))
      have HX5 : Hid (Sl w5 wr.heap.size 3 1 (.slice A4 x.l.length c4) x.l.length (ivs x.l)) := zh ((hv4.frm HFS.out (fun j hj e => by have := (hv4.lt j hj).1; have := HSZ.out.1; omega)).less (Nat.le_of_lt HSZ.out.1))
      obtain ⟨y, hy⟩ : ∃ y : Hd, y = ⟨x.ow, x.cl, x.mn, A4, c4, x.l⟩ := ⟨_, rfl⟩
      have HSA := zh ((HS3.out.fresh HF5.out).alloc (.cells #[.int .i64 x.ow, .int .i64 x.cl, .int .i64 x.mn, .slice A4 x.l.length c4] 139))
      have R1 : Hid (Rd (w5.alloc (.cells #[.int .i64 x.ow, .int .i64 x.cl, .int .i64 x.mn, .slice A4 x.l.length c4] 139)) (w5.heap.size + 1) (some ⟨w5.heap.size, 0, none⟩) (hcel y)) := zh (by rw [hy]; exact rd_new w5 _ _)
      have H1X : Hid (∀ u ∈ hcel y, u.oneCell' = true) := zh (by have := hcel_one [y]; simpa using this)
      have HWS : Hid (w2.heap.size ≤ (w5.alloc (.cells #[.int .i64 x.ow, .int .i64 x.cl, .int .i64 x.mn, .slice A4 x.l.length c4] 139)).heap.size) := zh (by have := HF.out.size; have := HSZ.out; simp; omega)
      have HFN : Hid (∀ v' w', Sl w' w2.heap.size 139 4 v' (i + 1) (hs.flatMap hcel ++ hcel y) → Frm (fun k => (Value.slice A5 i c5).ownBlock = some k) (w5.alloc (.cells #[.int .i64 x.ow, .int .i64 x.cl, .int .i64 x.mn, .slice A4 x.l.length c4] 139)) w' →
          Sl w' w2.heap.size 139 4 v' (i + 1) ((hs ++ [y]).flatMap hcel) ∧ (∀ x ∈ hs ++ [y], HdP w' w2.heap.size x) ∧ Fresh w2 w') := zh fun v' w' hs' hf' => by
        have e : (hs ++ [y]).flatMap hcel = hs.flatMap hcel ++ hcel y := by rw [List.flatMap_append]; simp
        have hst : ∀ {B : Nat} {z : Hd}, Sl w5 B 3 1 (.slice z.A z.st.length z.c) z.st.length (ivs z.st) → Sl w' B 3 1 (.slice z.A z.st.length z.c) z.st.length (ivs z.st) := fun {B z} hz => by
          have hz2 := hz.alloc (.cells #[.int .i64 x.ow, .int .i64 x.cl, .int .i64 x.mn, .slice A4 x.l.length c4] 139)
          refine hz2.frm hf' (fun g hg e => ?_)
          obtain ⟨_, cs, hcs⟩ := own_type HSA.out e
          exact hz2.apart hcs (by decide) hg
        rw [e]
        refine ⟨hs', fun z hz => ?_, (HF.out.trans (HF5.out.trans (fresh_alloc _ _))).trans' hf' (fun i hi e => by have := (HS3.out.lt i e).1; omega)⟩
        · rcases List.mem_append.1 hz with hz | hz
          · obtain ⟨a1, a2, a3, a4, a5, a6⟩ := HALL.out z hz
            exact ⟨a1, a2, a3, a4, a5, hst (a6.fresh HF5.out)⟩
          · simp only [List.mem_singleton] at hz
            subst hz hy
            exact ⟨HX.out.wo, HX.out.wc, HX.out.wm, HX.out.lb, HX.out.sb, hst (HX5.out.less HF.out.size)⟩
      have hy2 := hy
      clear hv4 f4 HCL
      go_wp2_with (at_builtin; refine wpList_append_sl _ rfl (.tmp 30) (.tmp 32) _ rfl w2.heap.size 139 i0 _ 4 48 Tryz.underlying165 hi' hz0 hz1 hz2 rfl (by omega) _ _ _ rfl HSA.out _ _ 1 _ _ rfl (by rw [hy2]; rfl) R1.out H1X.out (by unfold maxLen; omega) (by omega) HWS.out ?_; intro v' w' hs' hf' hw'; have HFX := zh (HFN.out v' w' hs' hf'); clear hs' hf' hw')
      go_roundw
      case rel => exact ⟨i + 1, hs ++ [y], by omega, by go_num, by simp [HLN.out], HFX.out⟩
      case measure => simp [RowKit.intOf]; omega
    · have hlti : ¬ (i : Int) < (ks.length : Int) := by omega
      go_wp2_with fail
      go_ret
      exact ⟨_, hs, rfl, by rw [HLN.out]; omega, by rw [HLN.out]; exact HS3.out.less HF2.out.size, fun x hx => (HALL.out x hx).less HF2.out.size, HF2.out.trans HF.out⟩
def TB (w : World) (k : Nat) : Prop := (∃ cs, Blk w k 56 cs) ∨ ∃ cs, Blk w k 5 cs
def OutF (B : Nat) (w w' : World) : Prop := Frm (fun k => TB w k ∧ B ≤ k) w w'
theorem OutF.refl (B : Nat) (w : World) : OutF B w w := Frm.refl _ _
theorem OutF.of {B : Nat} {w w' : World} (F : Fresh w w') : OutF B w w' := F.frm
theorem OutF.trans {B : Nat} {a b c : World} (h : OutF B a b) (k : OutF B b c) : OutF B a c := by
  refine ⟨Eq.trans (Frm.os k) (Frm.os h), Eq.trans (Frm.tape k) (Frm.tape h), Eq.trans (Frm.output k) (Frm.output h), Nat.le_trans (Frm.size h) (Frm.size k), fun i hi hn => ?_⟩
  have e := Frm.block h i hi hn
  refine (Frm.block k i (Nat.lt_of_lt_of_le hi (Frm.size h)) (fun t => hn ⟨?_, t.2⟩)).trans e
  rcases t.1 with ⟨cs, hc⟩ | ⟨cs, hc⟩
  · exact .inl ⟨cs, e.symm.trans hc⟩
  · exact .inr ⟨cs, e.symm.trans hc⟩
theorem OutF.sl {B D : Nat} {w w' : World} {e size : Nat} {v : Value} {n : Nat} {xs : List Value} (F : OutF B w w') (h : Sl w D e size v n xs) (h1 : e ≠ 56) (h2 : e ≠ 5) : Sl w' D e size v n xs :=
  h.frm F (fun k hk t => by
    obtain ⟨_, cs, hc⟩ := own_type h hk
    rcases t.1 with ⟨cs2, hd⟩ | ⟨cs2, hd⟩
    · exact hc.apart hd h1 rfl
    · exact hc.apart hd h2 rfl)
theorem OutF.blk {B : Nat} {w w' : World} {g : Nat} {t : TypeId} {cs : Array Value} (F : OutF B w w') (h : Blk w g t cs) (h1 : t ≠ 56) (h2 : t ≠ 5) : Blk w' g t cs :=
  h.frm F (fun t => by
    rcases t.1 with ⟨cs2, hd⟩ | ⟨cs2, hd⟩
    · exact h.apart hd h1 rfl
    · exact h.apart hd h2 rfl)
theorem OutF.fresh {B : Nat} {w w' : World} (F : OutF B w w') (h : w.heap.size ≤ B) : Fresh w w' := Frm.mono F (fun i hi t => by have := t.2; omega)
theorem OutF.flP {B D : Nat} {w w' : World} {M : FM} (F : OutF B w w') (h : FlP w D M) : FlP w' D M :=
  h.frm F (fun k hk t => by
    rcases h.own_kind hk with (rfl | rfl) | ⟨t', cs, hc, e⟩
    · rcases t.1 with ⟨cs2, hd⟩ | ⟨cs2, hd⟩
      · exact h.hm.not_cells hd rfl
      · exact h.hm.not_cells hd rfl
    · rcases t.1 with ⟨cs2, hd⟩ | ⟨cs2, hd⟩
      · exact h.om.not_cells hd rfl
      · exact h.om.not_cells hd rfl
    · rcases t.1 with ⟨cs2, hd⟩ | ⟨cs2, hd⟩ <;> rcases e with rfl | rfl | rfl <;> exact hc.apart hd (by decide) rfl)
def OutB (w : World) (B c : Nat) (v : Value) (bs : List UInt8) : Prop := Blk w c 56 #[v] ∧ B ≤ c ∧ Sl w B 5 1 v bs.length (bs.map bv)
theorem OutB.fresh {w w' : World} {B c : Nat} {v : Value} {bs : List UInt8} (h : OutB w B c v bs) (F : Fresh w w') : OutB w' B c v bs := ⟨h.1.frm F (fun f => f), h.2.1, h.2.2.fresh F⟩
theorem OutB.put {w w1 w2 : World} {B c : Nat} {v v2 : Value} {bs cs : List UInt8} (h : OutB w B c v bs) (F : Fresh w w1) (hs : Sl w2 B 5 1 v2 (bs.length + cs.length) (bs.map bv ++ cs.map bv)) (F2 : Frm (fun k => v.ownBlock = some k) w1 w2) :
    OutB (w2.setCell ⟨c, 0, none⟩ v2) B c v2 (bs ++ cs) ∧ OutF B w (w2.setCell ⟨c, 0, none⟩ v2) := by
  have hb1 := h.1.frm F (fun f => f)
  have hc : ¬ v.ownBlock = some c := (h.2.2.fresh F).apart hb1 (by decide)
  have hb2 := hb1.frm F2 hc
  have F3 : Frm (fun k => k = c) w2 (w2.setCell ⟨c, 0, none⟩ v2) := (Frm.refl (fun k => k = c) w2).setCell (p := ⟨c, 0, none⟩) (fun _ => rfl) _
  refine ⟨⟨hb2.set 0 v2, h.2.1, ?_⟩, ?_⟩
  · rw [List.length_append, List.map_append]
    exact hs.frm F3 (fun k hk e => by subst e; exact hs.apart hb2 (by decide) hk)
  · have T : OutF B w w1 := OutF.of F
    refine T.trans (OutF.trans (b := w2) (F2.mono (fun i hi e => ⟨.inr ?_, ?_⟩)) (F3.mono (fun i hi e => ?_)))
    · obtain ⟨_, cs, hcs⟩ := own_type (h.2.2.fresh F) e
      exact ⟨cs, hcs⟩
    · exact (h.2.2.lt i e).1
    · subst e
      exact ⟨.inl ⟨_, hb2⟩, h.2.1⟩
theorem conv64 (n : Int) (w : World) : (convert 3 105 (.int .i64 n)).run Tryz.prog w = .ok (.int .u64 ((n % 18446744073709551616).toNat : Int)) w := by
  rw [Int.toNat_of_nonneg (Int.emod_nonneg _ (by decide))]
  first | kernel_rfl | rfl | (go_simp; done)
end
end Go.Proofs.YtbeaoddjomdlcaaGreatDoor

/- What Limits computes, of any seats and parts. -/
import Derived.Test.YtgkkkibagbdlcaaNest7
import Derived.Test.YtgkkkibagbdlcaaLevel
namespace Go.Proofs.Ytgkkkibagbdlcaa
open Go.RowKit NestM

/-- the limits, one behind the other -/
def lim (us : List Nat) (k : Nat) : Nat → Int
  | 0 => (k : Int)
  | i + 1 => min (FareM.levelOf (us.getD (i + 1) 0) k : Int) (lim us k i)
def lims (us : List Nat) (k n : Nat) : List Int := (List.range n).map (lim us k)
theorem lims_succ (us : List Nat) (k n : Nat) : lims us k (n + 1) = lims us k n ++ [lim us k n] := by simp [lims, List.range_succ]
theorem lims_len (us : List Nat) (k n : Nat) : (lims us k n).length = n := by simp [lims]
theorem lims_at (us : List Nat) (k n i : Nat) (h : i < (lims us k n).length) : (lims us k n)[i] = lim us k i := by simp [lims]
theorem lim_le (us : List Nat) (k : Nat) : ∀ i, 0 ≤ lim us k i ∧ lim us k i ≤ (k : Int)
  | 0 => by simp [lim]
  | i + 1 => by
    have := lim_le us k i
    unfold lim
    omega
theorem lim_falls (us : List Nat) (k i : Nat) : lim us k (i + 1) ≤ lim us k i := by
  rw [lim]; omega
def fv (u : Nat) : Value := .float .f64 u

set_option maxHeartbeats 1000000 in
theorem limits_no (k : Int) (A : Option Addr) (cap n : Nat) (w : World) (h : ¬ (0 ≤ k ∧ k ≤ 10000) ∨ n < 1 ∨ 8 < n) :
    Calls Try.prog 20 #[.int .i64 k, .slice A n cap] w fun e w' => e = .returned (.tuple #[.slice none 0 0, .int .i64 1]) ∧ w' = w := by
  rcases Bool.eq_false_or_eq_true (wi k) with b | b
  · by_cases h1 : n < 1
    · have h1i : (n : Int) < 1 := by omega
      clear h
      go_enter Try.func20, Try.ntmps20
      go_wp2_with fail
      refine (within_any k w).mono ?_
      rw [b]
      rintro e w' ⟨rfl, rfl⟩
      go_wp2_with fail
      go_ret2
      exact ⟨rfl, rfl⟩
    · have h2 : 8 < n := by
        have := wi_true b
        omega
      have h1i : ¬ (n : Int) < 1 := by omega
      have h2i : (8 : Int) < (n : Int) := by omega
      clear h
      go_enter Try.func20, Try.ntmps20
      go_wp2_with fail
      refine (within_any k w).mono ?_
      rw [b]
      rintro e w' ⟨rfl, rfl⟩
      go_wp2_with fail
      go_ret2
      exact ⟨rfl, rfl⟩
  · clear h
    go_enter Try.func20, Try.ntmps20
    go_wp2_with fail
    refine (within_any k w).mono ?_
    rw [b]
    rintro e w' ⟨rfl, rfl⟩
    go_wp2_with fail
    go_ret2
    exact ⟨rfl, rfl⟩
theorem rd_at {w : World} {B : Nat} {A : Option Addr} {us : List Nat} (h : Rd w B A (us.map fv)) {k : Nat} (hk : k < us.length) : ∃ b o, A = some ⟨b, o, none⟩ ∧ b < B ∧ w.cell? ⟨b, o + k, none⟩ = some (.float .f64 (us.getD k 0)) := by
  obtain ⟨b, o, h1, h2, h3⟩ := h.at_ (k := k) (by simpa using hk)
  refine ⟨b, o, h1, h2, ?_⟩
  rw [h3]
  simp [fv, List.getD, hk]
/-- the cell of one that there is -/
theorem sl_at {w : World} {B : Nat} {v : Value} {n : Nat} {xs : List Int} (h : Sl w B 3 1 v n (xs.map iv)) (hn : 0 < n) {k : Nat} (hk : k < n) :
    ∃ g o cap, v = .slice (some ⟨g, o, none⟩) n cap ∧ n ≤ cap ∧ cap ≤ maxLen ∧ w.cell? ⟨g, o + k, none⟩ = some (.int .i64 (at_ xs k)) := by
  have hl := h.1
  rw [List.length_map] at hl
  obtain ⟨g, o, cap, rfl, _, _, h1, h2⟩ := h.head hn
  refine ⟨g, o, cap, rfl, h1, h2, ?_⟩
  rw [h.cell (j := k) (by rw [List.length_map]; omega), at_get (by omega)]
  simp [iv]
def LimPost2 (w : World) (us : List Nat) (k : Nat) (e : Ending) (w' : World) : Prop := ∃ v, e = .returned (.tuple #[v, .int .i64 0]) ∧ Sl w' w.heap.size 3 1 v us.length ((lims us k us.length).map iv) ∧ Fresh w w'
set_option maxHeartbeats 4000000 in
theorem limits_yes (k : Nat) (hk : k ≤ 10000) (A : Option Addr) (cap : Nat) (us : List Nat) (hu : ∀ i, us.getD i 0 < 18446744073709551616) (h1 : 1 ≤ us.length) (h8 : us.length ≤ 8) (w : World) (hA : Rd w w.heap.size A (us.map fv)) (hle : us.length ≤ cap) (hm : cap ≤ maxLen) :
    Calls Try.prog 20 #[.int .i64 (k : Int), .slice A us.length cap] w fun e w' => LimPost2 w us k e w' := by
  unfold maxLen at hm
  obtain ⟨i0, hi, hz0, hz1, hz2⟩ := info_parts info_int
  have b : wi (k : Int) = true := wi_mk (by omega)
  have HA := Lib.hid hA
  have HU := Lib.hid hu
  have HLIM := Lib.hid (lim_le us k)
  obtain ⟨bA, oA, rfl, _, _⟩ := rd_at hA (k := 0) (by omega)
  clear hA hu
  have q1 : ¬ (us.length : Int) < 1 := by omega
  have q2 : ¬ (8 : Int) < (us.length : Int) := by omega
  have q3 : (1 : Int) ≤ (us.length : Int) := by omega
  have q4 : (us.length : Int) ≤ (cap : Int) := by omega
  have S0 : Hid (Sl (w.alloc (.cells #[.int .i64 (k : Int)] 3)) w.heap.size 3 1 (.slice (some ⟨w.heap.size, 0, none⟩) 1 1) 1 ((lims us k 1).map iv)) := Lib.hid (sl_new w _ [.int .i64 (k : Int)] _ (Nat.le_refl _) (by simp [maxLen]))
  by_cases hc1 : cap = 1
  · have HL1 := Lib.hid (show us.length = 1 by omega)
    have q5 : ¬ (0 : Int) < (us.length : Int) - 1 := by omega
    go_enter Try.func20, Try.ntmps20
    go_wp2_with fail
    refine (within_any k w).mono ?_
    rw [b]
    rintro e w' ⟨rfl, hw'⟩
    rw [hw']
    clear hw' w'
    go_wp2_with fail
    go_loopw [6, 29] (fun v6 v29 wr => v29 = .int .i64 0 ∧ v6 = .slice (some ⟨w.heap.size, 0, none⟩) 1 1 ∧ wr = w.alloc (.cells #[.int .i64 (k : Int)] 3)) (fun _ _ _ => 0)
    case atStart => exact ⟨rfl, rfl, rfl⟩
    case round =>
      obtain ⟨rfl, rfl, rfl⟩ := hrel
      go_wp2_with fail
      go_ret2
      exact ⟨_, rfl, by rw [HL1.out]; exact S0.out, (Frm.refl _ w).alloc _⟩
  · go_enter Try.func20, Try.ntmps20
    go_wp2_with fail
    refine (within_any k w).mono ?_
    rw [b]
    rintro e w' ⟨rfl, hw'⟩
    rw [hw']
    clear hw' w'
    go_wp2_with fail
    go_loopw [6, 29] (fun v6 v29 wr => ∃ (i : Nat) (v : Value), v = v6 ∧ i + 1 ≤ us.length ∧ v29 = .int .i64 (i : Int) ∧ Sl wr w.heap.size 3 1 v (i + 1) ((lims us k (i + 1)).map iv) ∧ Fresh w wr) (fun _ v29 _ => us.length - (intOf v29).toNat)
    case atStart => exact ⟨0, _, rfl, by omega, rfl, S0.out, (Frm.refl _ w).alloc _⟩
    case round =>
      obtain ⟨i, v, rfl, hin, rfl, hs, hf⟩ := hrel
      obtain ⟨g, o, c, rfl, hg1, hg2, hcell⟩ := sl_at hs (by omega) (k := i) (by omega)
      rw [show at_ (lims us k (i + 1)) i = lim us k i from by rw [at_get (by rw [lims_len]; omega), lims_at]] at hcell
      have HS := Lib.hid hs
      have HF := Lib.hid hf
      have hsz := hf.size
      clear hs hf
      unfold maxLen at hg2
      have hi0 : (0 : Int) ≤ (i : Int) := by omega
      by_cases hlt : i + 1 < us.length
      · obtain ⟨b', o', e1, _, hc⟩ := rd_at ((HA.out.fresh (Nat.le_refl _) HF.out).more HF.out.size) (k := i + 1) hlt
        injection e1 with e1
        injection e1 with e1 e2 _
        subst e1 e2
        have hc' : wr.cell? ⟨bA, oA + 1 + i, none⟩ = some (.float .f64 (us.getD (i + 1) 0)) := by rw [← hc]; congr 2; omega
        have hlv := level_any (us.getD (i + 1) 0) k wr (HU.out _) hk
        have hll := (HLIM.out i)
        generalize hx : us.getD (i + 1) 0 = u at hc' hlv
        generalize hy : FareM.levelOf u k = y at hlv
        have HLV := Lib.hid hlv
        have HX : Hid (lim us k (i + 1) = min (y : Int) (lim us k i)) := Lib.hid (by rw [lim, hx, hy])
        have hlti : (i : Int) < (us.length : Int) - 1 := by omega
        have hlt2 : (i : Int) + 1 < (us.length : Int) := by omega
        clear hc hlv hx hy
        generalize hz : lim us k i = z at hcell HX hll
        clear hz
        have FIN : ∀ (x : Int) (v1 : Value) (w1 : World), lim us k (i + 1) = x → Sl w1 w.heap.size 3 1 v1 (i + 1 + 1) ((lims us k (i + 1)).map iv ++ [.int .i64 x]) → Sl w1 w.heap.size 3 1 v1 (i + 1 + 1) ((lims us k (i + 1 + 1)).map iv) := by
          intro x v1 w1 e h
          rw [lims_succ us k (i + 1), List.map_append, e]
          exact h
        have HFIN := Lib.hid FIN
        clear FIN
        by_cases hmin : (y : Int) ≤ z
        · have HM := Lib.hid (show lim us k (i + 1) = (y : Int) by rw [HX.out]; omega)
          have R := Lib.hid (rd_one wr (.int .i64 (y : Int)) 3)
          have HSA := Lib.hid (HS.out.alloc (.cells #[.int .i64 (y : Int)] 3))
          go_wp2_with fail
          refine HLV.out.mono ?_
          rintro e w1 ⟨rfl, rfl⟩
          go_wp2_with (at_builtin; refine wpList_append_sl _ rfl (.tmp 40) (.tmp 47) _ rfl w.heap.size 3 i0 _ 1 8 Try.underlying22 hi hz0 hz1 hz2 rfl (by omega) _ _ _ rfl HSA.out _ _ 1 _ _ rfl (by rfl) R.out (fun u hu => by simp at hu; subst hu; rfl) (by unfold maxLen; omega) (by omega) (by simp; omega) ?_; intro v1 w1 hs1 hf1 ha1)
          have HS1 := Lib.hid (HFIN.out _ _ _ HM.out hs1)
          have HF1 : Hid (Fresh w w1) := Lib.hid ((HF.out.alloc _).trans' hf1 (fun i hi hk => by have := (HSA.out.lt _ hk).1; omega))
          clear hs1 hf1 ha1
          go_wp2_with fail
          go_roundw
          case rel => exact ⟨i + 1, _, rfl, by omega, by go_num, HS1.out, HF1.out⟩
          case measure => simp [intOf]; omega
        · have HM := Lib.hid (show lim us k (i + 1) = z by rw [HX.out]; omega)
          have R := Lib.hid (rd_one wr (.int .i64 z) 3)
          have HSA := Lib.hid (HS.out.alloc (.cells #[.int .i64 z] 3))
          have hmin2 : z < (y : Int) := by omega
          go_wp2_with fail
          refine HLV.out.mono ?_
          rintro e w1 ⟨rfl, rfl⟩
          go_wp2_with (at_builtin; refine wpList_append_sl _ rfl (.tmp 40) (.tmp 47) _ rfl w.heap.size 3 i0 _ 1 8 Try.underlying22 hi hz0 hz1 hz2 rfl (by omega) _ _ _ rfl HSA.out _ _ 1 _ _ rfl (by rfl) R.out (fun u hu => by simp at hu; subst hu; rfl) (by unfold maxLen; omega) (by omega) (by simp; omega) ?_; intro v1 w1 hs1 hf1 ha1)
          have HS1 := Lib.hid (HFIN.out _ _ _ HM.out hs1)
          have HF1 : Hid (Fresh w w1) := Lib.hid ((HF.out.alloc _).trans' hf1 (fun i hi hk => by have := (HSA.out.lt _ hk).1; omega))
          clear hs1 hf1 ha1
          go_wp2_with fail
          go_roundw
          case rel => exact ⟨i + 1, _, rfl, by omega, by go_num, HS1.out, HF1.out⟩
          case measure => simp [intOf]; omega
      · have HN := Lib.hid (show us.length = i + 1 by omega)
        have hlti : ¬ (i : Int) < (us.length : Int) - 1 := by omega
        go_wp2_with fail
        go_ret2
        exact ⟨_, rfl, by rw [HN.out]; exact HS.out, HF.out⟩
end Go.Proofs.Ytgkkkibagbdlcaa

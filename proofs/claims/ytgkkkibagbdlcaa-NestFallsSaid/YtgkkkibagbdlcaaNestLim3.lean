/- The law NestFalls walked. -/
import Derived.Test.YtgkkkibagbdlcaaNestLim2
namespace Go.Proofs.Ytgkkkibagbdlcaa
open Go.RowKit NestM

def zarr (n : Nat) : Array Value := ((List.replicate n 0).map iv).toArray
theorem made_ints (n : Nat) : madeCells (Value.int .i64 0).cells (n * 1) = zarr n := by
  unfold zarr
  apply Array.ext_getElem?
  intro j
  rw [Nat.mul_one]
  by_cases h : j < n
  · simp [madeCells, h, iv, Value.cells, Nat.mod_one]
  · simp [madeCells, h]
theorem make_ints (n : Nat) (hn : n ≤ 1000) (w : World) : (Instr.makeSlice 22 (.int .i64 (n : Int)) (.int .i64 (n : Int))).run Try.prog w = .ok (.slice (some ⟨w.heap.size, 0, none⟩) n n) (w.alloc (.cells (zarr n) 3)) := by
  obtain ⟨i0, hi, hz0, hz1, hz2⟩ := info_parts info_int
  have hr := run_make (P := Try.prog) w 22 3 i0 _ Try.underlying22 hi hz0 .i64 .i64 n n (by omega) (Int.le_refl _) (by rw [hz2]; omega) (by omega)
  simp only [Int.toNat_natCast] at hr
  rw [hr, hz1, made_ints]
theorem at_lims (us : List Nat) (k n : Nat) {i : Nat} (h : i < n) : at_ (lims us k n) i = lim us k i := by
  rw [at_get (by rw [lims_len]; exact h), lims_at]
theorem at_zero (n i : Nat) : at_ (List.replicate n 0) i = 0 := by
  unfold at_
  by_cases h : i < n
  · simp [List.getD, h]
  · simp [List.getD, h]
theorem sfx_zero (n i : Nat) : sfx (List.replicate n 0) i = 0 := by
  unfold sfx
  rw [List.drop_replicate]
  simp
theorem right_lims (us : List Nat) (k n : Nat) (hk : k ≤ 10000) (h1 : 1 ≤ n) (h8 : n ≤ 8) : Right (lims us k n) (List.replicate n 0) := by
  refine ⟨⟨⟨by rw [lims_len]; exact h1, by rw [lims_len]; exact h8, by simp [lims_len]⟩, fun j _ hj => ?_⟩, ?_⟩
  · rw [lims_len] at hj
    have hl := lim_le us k j
    refine ⟨?_, by rw [at_zero]; exact wi_mk (by omega), fun h0 => ?_⟩
    · rw [at_lims us k n hj]; exact wi_mk (by omega)
    · rw [at_lims us k n hj, at_lims us k n (by omega)]
      obtain ⟨m, rfl⟩ : ∃ m, j = m + 1 := ⟨j - 1, by omega⟩
      exact lim_falls us k m
  · rw [fine_iff _ _ _ (Nat.zero_le _)]
    intro j _ hj
    rw [lims_len] at hj
    rw [sfx_zero, at_lims us k n hj]
    exact (lim_le us k j).1
set_option maxRecDepth 100000 in
set_option maxHeartbeats 4000000 in
theorem falls_walk (w : World) (k : Int) (_ : (Lit.int .i64 k).wf = true) (s : Option Addr × Nat × List Nat) (hs : IsL w 8 f64f f64q s) :
    Calls Try.prog 9 #[.int .i64 k, sv s] w fun e w' => e = .returned (.bool true) ∧ Below w.heap.size w w' := by
  obtain ⟨A, cap, us⟩ := s
  have hle : us.length ≤ cap := hs.le
  have hmo : cap ≤ maxLen := hs.most
  have hr : Rd w w.heap.size A (us.map fv) := by rw [← fl_map]; exact hs.rd
  have hu := getD_wf (us := us) (fun x hx => f_wf (hs.all x hx))
  have HR := Lib.hid hr
  have HU := Lib.hid hu
  have L1 : Hid (∀ w', Fresh w w' → Calls Try.prog 20 #[.int .i64 k, .slice A us.length cap] w' fun e w2 => LimsPost w' us k e w2) := Lib.hid fun w' F => lims_of k A cap us w' (fun h => limits_no k A cap us.length w' h) (fun n hn h1 h8 => limits_yes n hn A cap us HU.out h1 h8 w' ((HR.out.fresh (Nat.le_refl _) F).more F.size) hle hmo)
  clear hr hu hs
  unfold maxLen at hmo
  show Calls Try.prog 9 #[.int .i64 k, .slice A us.length cap] w _
  go_enter Try.func9, Try.ntmps9
  go_wp2_with fail
  refine (awake_any w).mono ?_
  rintro e w1 ⟨rfl, f1⟩
  have F1 := Lib.hid f1
  clear f1
  go_wp2_with fail
  refine (L1.out w1 F1.out).mono ?_
  rintro e w2 ⟨f2, ⟨n, rfl, hn, h1, h8, v, rfl, hs⟩ | ⟨hno, rfl⟩⟩
  · have F2 := Lib.hid (F1.out.trans f2)
    obtain ⟨g, o, c, rfl, hg1, hg2, hcell0⟩ := sl_at hs (by omega) (k := 0) (by omega)
    rw [at_lims _ _ _ (by omega), lim] at hcell0
    have HC : Hid (∀ i, i < us.length → w2.cell? ⟨g, o + i, none⟩ = some (.int .i64 (lim us n i))) := Lib.hid fun i hi => by
      have := hs.cell (j := i) (by rw [List.length_map, lims_len]; exact hi)
      rw [this, List.getElem_map, lims_at]; rfl
    have HRD := Lib.hid hs.rd
    have HLIM := Lib.hid (lim_le us n)
    have HFAL := Lib.hid (lim_falls us n)
    unfold maxLen at hg2
    clear f2 hs
    have hcz : ∀ q, (w2.drewN q).cell? ⟨g, o, none⟩ = some (.int .i64 (n : Int)) := fun _ => hcell0
    have HCZ := Lib.hid hcz
    clear hcz hcell0
    go_wp2_with fail
    go_loopw [8] (fun v8 wr => ∃ i : Nat, 1 ≤ i ∧ i ≤ us.length ∧ v8 = .int .i64 (i : Int) ∧ ∃ q, wr = w2.drewN q) (fun v8 _ => us.length - (intOf v8).toNat)
    case atStart => exact ⟨1, by omega, by omega, rfl, 0, rfl⟩
    case round =>
      obtain ⟨i, hi1, hi2, rfl, q, hq⟩ := hrel
      have HQ := Lib.hid hq
      have hi0 : (0 : Int) ≤ (i : Int) := by omega
      have hi01 : (1 : Int) ≤ (i : Int) := by omega
      by_cases hlt : i < us.length
      · have c1 : ∀ q', (wr.drewN q').cell? ⟨g, o + i, none⟩ = some (.int .i64 (lim us n i)) := fun q' => by rw [hq]; exact HC.out i hlt
        have c2 : ∀ q', (wr.drewN q').cell? ⟨g, o + (i - 1), none⟩ = some (.int .i64 (lim us n (i - 1))) := fun q' => by rw [hq]; exact HC.out (i - 1) (by omega)
        have d1 : decide (lim us n (i - 1) < lim us n i) = false := by
          have := HFAL.out (i - 1)
          rw [show i - 1 + 1 = i by omega] at this
          simp; exact this
        have d2 : decide (lim us n i < 0) = false := by
          have := (HLIM.out i).1
          simp; exact this
        generalize lim us n i = z at c1 d1 d2
        generalize lim us n (i - 1) = z' at c2 d1
        have hw1 : IntKind.i64.wrap ((i : Int) - 1) = (i : Int) - 1 := IntWalk.i64_in _ (by omega)
        have hw2 : ((i : Int) - 1).toNat = i - 1 := by omega
        have hw3 : (0 : Int) ≤ (i : Int) - 1 := by omega
        have hw4 : (i : Int) - 1 < (us.length : Int) := by omega
        have hlti : (i : Int) < (us.length : Int) := by omega
        clear hq
        go_wp2_with fail
        go_quiet (fail)
        clear hw1 hw2
        go_wp2_with fail
        go_roundw
        case rel => exact ⟨i + 1, by omega, by omega, by go_num, by rw [HQ.out]; exact ⟨_, drewN_add _ _ _⟩⟩
        case measure => simp [intOf]; omega
      · have hlti : ¬ (i : Int) < (us.length : Int) := by omega
        have F3 : Hid (Fresh w wr) := Lib.hid (by rw [hq]; exact F2.out.drewN q)
        have c0 : wr.cell? ⟨g, o, none⟩ = some (.int .i64 (n : Int)) := by rw [hq]; exact HCZ.out q
        have HRD3 : Hid (Rd wr wr.heap.size (some ⟨g, o, none⟩) ((lims us n us.length).map iv)) := Lib.hid (by rw [hq]; exact HRD.out.drewN q)
        have hmk := make_ints us.length (by omega)
        have hR := right_lims us n us.length hn h1 h8
        have H := right_any (wr.alloc (.cells (zarr us.length) 3)) (some ⟨g, o, none⟩) c (lims us n us.length) (some ⟨wr.heap.size, 0, none⟩) us.length (List.replicate us.length 0)
          ((HRD3.out.alloc (Nat.le_refl _) _).more (by simp)) (by
            have := rd_new wr ((List.replicate us.length 0).map iv) 3
            exact this.more (by simp))
        rw [lims_len, List.length_replicate] at H
        have HH := Lib.hid H
        have HRT := Lib.hid hR
        clear H hR hq
        generalize hzz : zarr us.length = zz at hmk HH
        clear hzz
        go_wp2_with fail
        refine HH.out.mono ?_
        rintro e w4 ⟨b, q4, rfl, rfl, hb⟩
        obtain rfl : b = true := hb.2 HRT.out
        clear hb
        go_wp2_with fail
        go_ret
        exact ⟨rfl, Fresh.below ((F3.out.alloc _).drewN q4)⟩
  · have F2 := Lib.hid (F1.out.trans f2)
    clear f2
    rcases hno with h | h | h
    · by_cases hk : k < 0
      · clear h
        go_wp2_with fail
        go_ret
        exact ⟨rfl, Fresh.below F2.out⟩
      · have hk2 : 10000 < k := by omega
        clear h
        go_wp2_with fail
        go_ret
        exact ⟨rfl, Fresh.below F2.out⟩
    all_goals
      have hli : (us.length : Int) < 1 ∨ (8 : Int) < (us.length : Int) := by omega
      have HLI := Lib.hid hli
      clear hli
      by_cases hk : k < 0
      · clear h
        go_wp2_with fail
        go_ret
        exact ⟨rfl, Fresh.below F2.out⟩
      · by_cases hk2 : 10000 < k
        · clear h
          go_wp2_with fail
          go_ret
          exact ⟨rfl, Fresh.below F2.out⟩
        · by_cases h1 : (us.length : Int) < 1
          · clear h
            go_wp2_with fail
            go_ret
            exact ⟨rfl, Fresh.below F2.out⟩
          · have h2 : (8 : Int) < (us.length : Int) := by have := HLI.out; omega
            clear h
            go_wp2_with fail
            go_ret
            exact ⟨rfl, Fresh.below F2.out⟩
end Go.Proofs.Ytgkkkibagbdlcaa

/- What the document's Limits computes; the laws NestLimits, NestFalls walked. -/
import Derived.Test.YtgkkkibagbdlcaaNestLim
import Derived.Test.YtgkkkibagbdlcaaNest9
namespace Go.Proofs.Ytgkkkibagbdlcaa
open Go.RowKit NestM

set_option maxHeartbeats 1000000 in
theorem refLimits_no (k : Int) (A : Option Addr) (cap n : Nat) (w : World) (h : ¬ (0 ≤ k ∧ k ≤ 10000) ∨ n < 1 ∨ 8 < n) :
    Calls Try.prog 21 #[.int .i64 k, .slice A n cap] w fun e w' => e = .returned (.tuple #[.slice none 0 0, .int .i64 1]) ∧ w' = w := by
  by_cases h1 : k < 0
  · clear h
    go_enter Try.func21, Try.ntmps21
    go_wp2_with fail
    go_ret2
    exact ⟨rfl, rfl⟩
  by_cases h2 : 10000 < k
  · clear h
    go_enter Try.func21, Try.ntmps21
    go_wp2_with fail
    go_ret2
    exact ⟨rfl, rfl⟩
  by_cases h3 : n < 1
  · have h3i : (n : Int) < 1 := by omega
    clear h
    go_enter Try.func21, Try.ntmps21
    go_wp2_with fail
    go_ret2
    exact ⟨rfl, rfl⟩
  have h3i : ¬ (n : Int) < 1 := by omega
  have h4i : (8 : Int) < (n : Int) := by omega
  clear h
  go_enter Try.func21, Try.ntmps21
  go_wp2_with fail
  go_ret2
  exact ⟨rfl, rfl⟩
set_option maxHeartbeats 4000000 in
theorem refLimits_yes (k : Nat) (hk : k ≤ 10000) (A : Option Addr) (cap : Nat) (us : List Nat) (hu : ∀ i, us.getD i 0 < 18446744073709551616) (h1 : 1 ≤ us.length) (h8 : us.length ≤ 8) (w : World) (hA : Rd w w.heap.size A (us.map fv)) (hle : us.length ≤ cap) (hm : cap ≤ maxLen) :
    Calls Try.prog 21 #[.int .i64 (k : Int), .slice A us.length cap] w fun e w' => LimPost2 w us k e w' := by
  unfold maxLen at hm
  obtain ⟨i0, hi, hz0, hz1, hz2⟩ := info_parts info_int
  have HA := Lib.hid hA
  have HU := Lib.hid hu
  have HLIM := Lib.hid (lim_le us k)
  obtain ⟨bA, oA, rfl, _, _⟩ := rd_at hA (k := 0) (by omega)
  clear hA hu
  have q1 : ¬ (us.length : Int) < 1 := by omega
  have q2 : ¬ (8 : Int) < (us.length : Int) := by omega
  have q3 : ¬ (k : Int) < 0 := by omega
  have q4 : ¬ (10000 : Int) < (k : Int) := by omega
  have S0 : Hid (Sl (w.alloc (.cells #[.int .i64 (k : Int)] 3)) w.heap.size 3 1 (.slice (some ⟨w.heap.size, 0, none⟩) 1 1) 1 ((lims us k 1).map iv)) := Lib.hid (sl_new w _ [.int .i64 (k : Int)] _ (Nat.le_refl _) (by simp [maxLen]))
  go_enter Try.func21, Try.ntmps21
  go_wp2_with fail
  go_loopw [6, 7] (fun v6 v29 wr => ∃ (i : Nat) (v : Value), v = v6 ∧ i + 1 ≤ us.length ∧ v29 = .int .i64 ((i + 1 : Nat) : Int) ∧ Sl wr w.heap.size 3 1 v (i + 1) ((lims us k (i + 1)).map iv) ∧ Fresh w wr) (fun _ v29 _ => us.length - (intOf v29).toNat)
  case atStart => exact ⟨0, _, rfl, by omega, rfl, S0.out, (Frm.refl _ w).alloc _⟩
  case round =>
    obtain ⟨i, v, rfl, hin, rfl, hs, hf⟩ := hrel
    obtain ⟨g, o, c, rfl, hg1, hg2, hcell⟩ := sl_at hs (by omega) (k := i) (by omega)
    rw [show at_ (lims us k (i + 1)) i = lim us k i from by rw [at_get (by rw [lims_len]; omega), lims_at]] at hcell
    have HS := Lib.hid hs
    have HF := Lib.hid hf
    have hsz := hf.size
    clear hs hf
    unfold maxLen at hg2
    obtain ⟨x, hx⟩ : ∃ x, i + 1 = x := ⟨_, rfl⟩
    have hx0 : (0 : Int) ≤ (x : Int) := by omega
    have hx1 : (1 : Int) ≤ (x : Int) := by omega
    have hx2 : (x : Int) - 1 = (i : Int) := by omega
    have hx3 : (i : Int) < (x : Int) := by omega
    have hx4 : i < x := by omega
    have hi0 : (0 : Int) ≤ (i : Int) := by omega
    rw [hx] at HS hg1 ⊢
    by_cases hlt : x < us.length
    · obtain ⟨b', o', e1, _, hc⟩ := rd_at ((HA.out.fresh (Nat.le_refl _) HF.out).more HF.out.size) (k := x) hlt
      injection e1 with e1
      injection e1 with e1 e2 _
      subst e1 e2
      have hlv := refLevel_any (us.getD x 0) k wr (HU.out _) hk
      have hll := (HLIM.out i)
      have hXX : us.getD (i + 1) 0 = us.getD x 0 := by rw [hx]
      generalize hy1 : us.getD x 0 = u at hc hlv hXX
      generalize hy : FareM.levelOf u k = y at hlv
      have HLV := Lib.hid hlv
      have HX : Hid (lim us k x = min (y : Int) (lim us k i)) := Lib.hid (by rw [← hx, lim, hXX, hy])
      have hlti : (x : Int) < (us.length : Int) := by omega
      clear hlv hy hy1 hXX
      generalize hz : lim us k i = z at hcell HX hll
      clear hz
      have HI := Lib.hid hx
      clear hx
      have FIN : ∀ (y : Int) (v1 : Value) (w1 : World), lim us k x = y → Sl w1 w.heap.size 3 1 v1 (x + 1) ((lims us k x).map iv ++ [.int .i64 y]) → Sl w1 w.heap.size 3 1 v1 (x + 1) ((lims us k (x + 1)).map iv) := by
        intro x v1 w1 e h
        rw [lims_succ, List.map_append, e]
        exact h
      have HFIN := Lib.hid FIN
      clear FIN
      by_cases hmin : (y : Int) ≤ z
      · have HM := Lib.hid (show lim us k x = (y : Int) by rw [HX.out]; omega)
        have R := Lib.hid (rd_one wr (.int .i64 (y : Int)) 3)
        have HSA := Lib.hid (HS.out.alloc (.cells #[.int .i64 (y : Int)] 3))
        go_wp2_with fail
        refine HLV.out.mono ?_
        rintro e w1 ⟨rfl, rfl⟩
        go_wp2_with (at_builtin; refine wpList_append_sl _ rfl (.tmp 43) (.tmp 51) _ rfl w.heap.size 3 i0 _ 1 8 Try.underlying22 hi hz0 hz1 hz2 rfl (by omega) _ _ _ rfl HSA.out _ _ 1 _ _ rfl (by rfl) R.out (fun u hu => by simp at hu; subst hu; rfl) (by unfold maxLen; omega) (by omega) (by simp; omega) ?_; intro v1 w1 hs1 hf1 ha1)
        have HS1 := Lib.hid (HFIN.out _ _ _ HM.out hs1)
        have HF1 : Hid (Fresh w w1) := Lib.hid ((HF.out.alloc _).trans' hf1 (fun i hi hk => by have := (HSA.out.lt _ hk).1; omega))
        clear hs1 hf1 ha1
        go_wp2_with fail
        go_roundw
        case rel => exact ⟨x, _, rfl, by omega, by go_num, HS1.out, HF1.out⟩
        case measure => simp [intOf]; omega
      · have HM := Lib.hid (show lim us k x = z by rw [HX.out]; omega)
        have R := Lib.hid (rd_one wr (.int .i64 z) 3)
        have HSA := Lib.hid (HS.out.alloc (.cells #[.int .i64 z] 3))
        have hmin2 : z < (y : Int) := by omega
        go_wp2_with fail
        refine HLV.out.mono ?_
        rintro e w1 ⟨rfl, rfl⟩
        go_wp2_with (at_builtin; refine wpList_append_sl _ rfl (.tmp 43) (.tmp 51) _ rfl w.heap.size 3 i0 _ 1 8 Try.underlying22 hi hz0 hz1 hz2 rfl (by omega) _ _ _ rfl HSA.out _ _ 1 _ _ rfl (by rfl) R.out (fun u hu => by simp at hu; subst hu; rfl) (by unfold maxLen; omega) (by omega) (by simp; omega) ?_; intro v1 w1 hs1 hf1 ha1)
        have HS1 := Lib.hid (HFIN.out _ _ _ HM.out hs1)
        have HF1 : Hid (Fresh w w1) := Lib.hid ((HF.out.alloc _).trans' hf1 (fun i hi hk => by have := (HSA.out.lt _ hk).1; omega))
        clear hs1 hf1 ha1
        go_wp2_with fail
        go_roundw
        case rel => exact ⟨x, _, rfl, by omega, by go_num, HS1.out, HF1.out⟩
        case measure => simp [intOf]; omega
    · have HN := Lib.hid (show us.length = x by omega)
      have hlti : ¬ (x : Int) < (us.length : Int) := by omega
      clear hx
      go_wp2_with fail
      go_ret2
      exact ⟨_, rfl, by rw [HN.out]; exact HS.out, HF.out⟩
theorem getD_wf {us : List Nat} (h : ∀ x ∈ us, x < 18446744073709551616) (i : Nat) : us.getD i 0 < 18446744073709551616 := by
  rcases Nat.lt_or_ge i us.length with hl | hl
  · rw [List.getD_eq_getElem?_getD, List.getElem?_eq_getElem hl]; exact h _ (List.getElem_mem hl)
  · rw [List.getD_eq_getElem?_getD, List.getElem?_eq_none hl]; simp
/-- both, of whatever seats and parts -/
def LimsPost (w : World) (us : List Nat) (k : Int) (e : Ending) (w' : World) : Prop :=
  Fresh w w' ∧ ((∃ n : Nat, k = (n : Int) ∧ n ≤ 10000 ∧ 1 ≤ us.length ∧ us.length ≤ 8 ∧ ∃ v, e = .returned (.tuple #[v, .int .i64 0]) ∧ Sl w' w.heap.size 3 1 v us.length ((lims us n us.length).map iv)) ∨
    ((¬ (0 ≤ k ∧ k ≤ 10000) ∨ us.length < 1 ∨ 8 < us.length) ∧ e = .returned (.tuple #[.slice none 0 0, .int .i64 1])))
theorem lims_of {f : Nat} (k : Int) (A : Option Addr) (cap : Nat) (us : List Nat) (w : World)
    (no : (¬ (0 ≤ k ∧ k ≤ 10000) ∨ us.length < 1 ∨ 8 < us.length) → Calls Try.prog f #[.int .i64 k, .slice A us.length cap] w fun e w' => e = .returned (.tuple #[.slice none 0 0, .int .i64 1]) ∧ w' = w)
    (yes : ∀ n : Nat, n ≤ 10000 → 1 ≤ us.length → us.length ≤ 8 → Calls Try.prog f #[.int .i64 (n : Int), .slice A us.length cap] w fun e w' => LimPost2 w us n e w') :
    Calls Try.prog f #[.int .i64 k, .slice A us.length cap] w fun e w' => LimsPost w us k e w' := by
  by_cases h : ¬ (0 ≤ k ∧ k ≤ 10000) ∨ us.length < 1 ∨ 8 < us.length
  · refine (no h).mono ?_
    rintro e w' ⟨rfl, rfl⟩
    exact ⟨Frm.refl _ _, .inr ⟨h, rfl⟩⟩
  · obtain ⟨n, rfl⟩ := Int.eq_ofNat_of_zero_le (show 0 ≤ k by omega)
    refine (yes n (by omega) (by omega) (by omega)).mono ?_
    rintro e w' ⟨v, rfl, hs, hf⟩
    exact ⟨hf, .inl ⟨n, rfl, by omega, by omega, by omega, v, rfl, hs⟩⟩
def f64f : Nat → List Value := fun b => [.float .f64 b]
def f64q : Nat → Prop := fun b => (Lit.float .f64 b).wf = true
theorem fl_map (us : List Nat) : us.flatMap f64f = us.map fv := by
  induction us with
  | nil => rfl
  | cons u r ih => rw [List.flatMap_cons, ih]; rfl
theorem sl_reads {w : World} {B : Nat} {v : Value} {n : Nat} {xs : List Int} (h : Sl w B 3 1 v n (xs.map iv)) : ∃ A c, v = .slice A xs.length c ∧ xs.length ≤ c ∧ c ≤ maxLen ∧ Rd w w.heap.size A (xs.map iv) := by
  have hl := h.1
  rw [List.length_map, Nat.mul_one] at hl
  obtain ⟨A, c, rfl, h1, h2, _⟩ := h.shape
  rw [hl]
  exact ⟨A, c, rfl, h1, h2, h.rd⟩
set_option maxHeartbeats 1000000 in
theorem limits_walk (w : World) (k : Int) (_ : (Lit.int .i64 k).wf = true) (s : Option Addr × Nat × List Nat) (hs : IsL w 8 f64f f64q s) :
    Calls Try.prog 8 #[.int .i64 k, sv s] w fun e w' => e = .returned (.bool true) ∧ Below w.heap.size w w' := by
  obtain ⟨A, cap, us⟩ := s
  have hle : us.length ≤ cap := hs.le
  have hmo : cap ≤ maxLen := hs.most
  have hr : Rd w w.heap.size A (us.map fv) := by rw [← fl_map]; exact hs.rd
  have hu := getD_wf (us := us) (fun x hx => f_wf (hs.all x hx))
  have HR := Lib.hid hr
  have HU := Lib.hid hu
  have L1 : Hid (∀ w', Fresh w w' → Calls Try.prog 20 #[.int .i64 k, .slice A us.length cap] w' fun e w2 => LimsPost w' us k e w2) := Lib.hid fun w' F => lims_of k A cap us w' (fun h => limits_no k A cap us.length w' h) (fun n hn h1 h8 => limits_yes n hn A cap us HU.out h1 h8 w' ((HR.out.fresh (Nat.le_refl _) F).more F.size) hle hmo)
  have L2 : Hid (∀ w', Fresh w w' → Calls Try.prog 21 #[.int .i64 k, .slice A us.length cap] w' fun e w2 => LimsPost w' us k e w2) := Lib.hid fun w' F => lims_of k A cap us w' (fun h => refLimits_no k A cap us.length w' h) (fun n hn h1 h8 => refLimits_yes n hn A cap us HU.out h1 h8 w' ((HR.out.fresh (Nat.le_refl _) F).more F.size) hle hmo)
  clear hr hu hs
  show Calls Try.prog 8 #[.int .i64 k, .slice A us.length cap] w _
  go_enter Try.func8, Try.ntmps8
  go_wp2_with fail
  refine (awake_any w).mono ?_
  rintro e w1 ⟨rfl, f1⟩
  have F1 := Lib.hid f1
  clear f1
  go_wp2_with fail
  refine (L1.out w1 F1.out).mono ?_
  rintro e w2 ⟨f2, ⟨n, rfl, hn, h1, h8, v, rfl, hs⟩ | ⟨hno, rfl⟩⟩
  · have F2 := Lib.hid (F1.out.trans f2)
    have HS := Lib.hid hs
    clear f2 hs
    go_wp2_with fail
    refine (L2.out w2 F2.out).mono ?_
    rintro e w3 ⟨f3, ⟨m, hm, _, _, _, v', rfl, hs'⟩ | ⟨hno, rfl⟩⟩
    · obtain rfl : n = m := by omega
      have F3 := Lib.hid (F2.out.trans f3)
      obtain ⟨A1, c1, rfl, _, _, r1⟩ := sl_reads (HS.out.fresh f3)
      obtain ⟨A2, c2, rfl, _, _, r2⟩ := sl_reads hs'
      have HSM := Lib.hid (same_any w3 A1 c1 _ A2 c2 _ r1 r2 (by rw [lims_len]; omega))
      clear f3 hs' r1 r2 hm
      go_wp2_with fail
      refine HSM.out.mono ?_
      rintro e w4 ⟨b, q, rfl, rfl, hb⟩
      obtain rfl : b = true := hb.2 rfl
      clear hb
      go_wp2_with fail
      go_ret
      exact ⟨by simp, Fresh.below (F3.out.drewN q)⟩
    · omega
  · have F2 := Lib.hid (F1.out.trans f2)
    clear f2
    go_wp2_with fail
    refine (L2.out w2 F2.out).mono ?_
    rintro e w3 ⟨f3, ⟨m, rfl, _, _, _, _, _⟩ | ⟨_, rfl⟩⟩
    · omega
    · have F3 := Lib.hid (F2.out.trans f3)
      have HSM := Lib.hid (same_any w3 none 0 [] none 0 [] (Rd.nil _ _ _) (Rd.nil _ _ _) (by simp))
      clear f3 hno
      go_wp2_with fail
      refine HSM.out.mono ?_
      rintro e w4 ⟨b, q, rfl, rfl, hb⟩
      obtain rfl : b = true := hb.2 rfl
      clear hb
      go_wp2_with fail
      go_ret
      exact ⟨by simp, Fresh.below (F3.out.drewN q)⟩
end Go.Proofs.Ytgkkkibagbdlcaa

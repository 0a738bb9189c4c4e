/- What the sums of floats compute: FareSums walked. -/
import Derived.Test.YthbjgeemenenhaaFareLaws
import Derived.Test.YthbjgeemenenhaaFareRound
import Derived.Test.YthbjgeemenenhaaOpen
import Derived.Deep.QuietTactic
import Derived.BigQuiet
import Derived.Test.YthbjgeemenenhaaReads
namespace Go.Proofs.Ythbjgeemenenhaa
open Go.RowKit

theorem drewN_add (w : World) (k n : Nat) : (w.drewN k).drewN n = w.drewN (k + n) := by simp [World.drewN, Nat.add_assoc]
def fsum (l : List Nat) : Option Nat := l.foldl (fun s x => s.bind fun s => Ieee.double.add s x) (some 0)
theorem fsum_snoc (l : List Nat) (x : Nat) : fsum (l ++ [x]) = (fsum l).bind fun s => Ieee.double.add s x := by simp [fsum]
/-- a sum: its bits, or none that the language fixes: then it is no number -/
def SumOf (l : List Nat) (s : Nat) : Prop := fsum l = some s ∨ (fsum l = none ∧ FareM.nan s = true)
theorem add_nan {s : Nat} (x : Nat) (h : FareM.nan s = true) : Ieee.double.add s x = none := by
  unfold Ieee.Format.add
  rw [FareM.read_nan h]
  rfl
theorem SumOf.step {l : List Nat} {s x r : Nat} (h : SumOf l s) (hr : Ieee.double.add s x = some r) : SumOf (l ++ [x]) r := by
  rcases h with h | ⟨_, h⟩
  · left; rw [fsum_snoc, h]; exact hr
  · rw [add_nan x h] at hr; cases hr
theorem SumOf.stepN {l : List Nat} {s x r : Nat} (h : SumOf l s) (hr : Ieee.double.add s x = none) (hn : FareM.nan r = true) : SumOf (l ++ [x]) r := by
  right
  refine ⟨?_, hn⟩
  rw [fsum_snoc]
  rcases h with h | ⟨h, _⟩
  · rw [h]; exact hr
  · rw [h]; rfl
theorem SumOf.same {l : List Nat} {s t : Nat} (h : SumOf l s) (k : SumOf l t) : s = t ∨ (FareM.nan s = true ∧ FareM.nan t = true) := by
  rcases h with h | ⟨h, hn⟩ <;> rcases k with k | ⟨k, kn⟩
  · rw [h] at k; injection k with k; exact .inl k
  · rw [h] at k; cases k
  · rw [h] at k; cases k
  · exact .inr ⟨hn, kn⟩
theorem run_add_nan {P : Program} (w : World) (t : TypeId) (x y : Nat) (h : Ieee.double.add x y = none) : ∃ r, FareM.nan r = true ∧ (binOp .add t (.float .f64 x) (.float .f64 y)).run P w = .ok (.float .f64 r) w.drew := by
  refine ⟨(Question.nanBits .f64 x y).cut (w.tape w.drawn (.nanBits .f64 x y)), ?_, ?_⟩
  · generalize w.tape w.drawn (.nanBits .f64 x y) = t
    unfold Question.cut FareM.nan FareM.rung
    have : 9218868437227405312 < ((t % 2) * 2 ^ 63 + 0x7ff0000000000000 + 1 + (t / 2) % (2 ^ 52 - 1)) % 9223372036854775808 := by
      have h1 : (t / 2) % (2 ^ 52 - 1) < 2 ^ 52 - 1 := Nat.mod_lt _ (by omega)
      generalize (t / 2) % (2 ^ 52 - 1) = a at h1
      rcases Nat.mod_two_eq_zero_or_one t with e | e <;> rw [e] <;> omega
    simpa using this
  · have h' : FloatKind.f64.format.add x y = none := h
    simp [binOp, Op.floatArith, h', Question.forced]
def fv (b : Nat) : Value := .float .f64 b
theorem take_step {l : List Nat} {k : Nat} (h : k < l.length) : l.take (k + 1) = l.take k ++ [l[k]] := List.take_succ_eq_append_getElem h
def SumPost (l : List Nat) (w : World) (e : Ending) (w' : World) : Prop := ∃ s, SumOf l s ∧ e = .returned (.float .f64 s) ∧ ∃ n, w' = w.drewN n
set_option maxHeartbeats 1000000 in
theorem fsum_any (w : World) (A : Option Addr) (c : Nat) (l : List Nat) (hr : Rd w w.heap.size A (l.map fv)) (hl : l.length ≤ 140737488351232) :
    Calls Try.prog 12 #[.slice A l.length c] w fun e w' => SumPost l w e w' := by
  have HR := Lib.hid hr
  clear hr
  go_enter Try.func12, Try.ntmps12
  go_wp2_with fail
  go_loopw [3, 8] (fun v3 v7 wr => ∃ (k s : Nat), k ≤ l.length ∧ v3 = .float .f64 s ∧ v7 = .int .i64 (k : Int) ∧ SumOf (l.take k) s ∧ ∃ n, wr = w.drewN n) (fun _ v7 _ => l.length - (intOf v7).toNat)
  case atStart => exact ⟨0, 0, by omega, rfl, rfl, .inl rfl, 0, rfl⟩
  case round =>
    obtain ⟨k, s, hk, rfl, rfl, hs, q, hq⟩ := hrel
    have F : Fresh w wr := by rw [hq]; exact (Frm.refl _ w).drewN q
    have HQ := Lib.hid hq
    have HS := Lib.hid hs
    clear hq hs
    by_cases hkl : k < l.length
    · obtain ⟨b, o, rfl, _, hc⟩ := (HR.out.fresh (Nat.le_refl _) F).at_ (k := k) (by simpa using hkl)
      rw [List.getElem_map] at hc
      have HT := Lib.hid (take_step hkl)
      obtain ⟨x, hx⟩ : ∃ x, x = l[k] := ⟨_, rfl⟩
      rw [← hx] at hc HT
      unfold fv at hc
      clear hx F
      have hk0 : (0 : Int) ≤ k := by omega
      have hk2 : (k : Int) < l.length := by omega
      cases hadd : Ieee.double.add s x with
      | some r =>
        have hrun : ∀ (w : World) (t : TypeId), (binOp .add t (.float .f64 s) (.float .f64 x)).run Try.prog w = .ok (.float .f64 r) w := fun w t => run_float_arith w .add t .f64 s x r hadd
        have HN := Lib.hid (HS.out.step hadd)
        clear hadd
        go_wp2_with fail
        go_roundw
        case rel => exact ⟨k + 1, r, by omega, rfl, by go_num, by rw [HT.out]; exact HN.out, q, HQ.out⟩
        case measure => simp [intOf]; omega
      | none =>
        obtain ⟨r, hn, hrun⟩ := run_add_nan (P := Try.prog) wr 23 s x hadd
        have HN := Lib.hid (HS.out.stepN hadd hn)
        clear hadd hn
        go_wp2_with fail
        go_roundw
        case rel => exact ⟨k + 1, r, by omega, rfl, by go_num, by rw [HT.out]; exact HN.out, q + 1, by rw [HQ.out]; rfl⟩
        case measure => simp [intOf]; omega
    · obtain rfl : k = l.length := by omega
      have HT := Lib.hid (show l.take l.length = l from List.take_length)
      rw [HT.out] at HS
      go_wp2_with fail
      go_ret
      exact ⟨s, HS.out, rfl, q, HQ.out⟩
set_option maxHeartbeats 1000000 in
theorem refFsum_any (w : World) (A : Option Addr) (c : Nat) (l : List Nat) (hr : Rd w w.heap.size A (l.map fv)) (hl : l.length ≤ 140737488351232) :
    Calls Try.prog 13 #[.slice A l.length c] w fun e w' => SumPost l w e w' := by
  have HR := Lib.hid hr
  clear hr
  go_enter Try.func13, Try.ntmps13
  go_wp2_with fail
  go_loopw [3, 4] (fun v3 v7 wr => ∃ (k s : Nat), k ≤ l.length ∧ v3 = .float .f64 s ∧ v7 = .int .i64 (k : Int) ∧ SumOf (l.take k) s ∧ ∃ n, wr = w.drewN n) (fun _ v7 _ => l.length - (intOf v7).toNat)
  case atStart => exact ⟨0, 0, by omega, rfl, rfl, .inl rfl, 0, rfl⟩
  case round =>
    obtain ⟨k, s, hk, rfl, rfl, hs, q, hq⟩ := hrel
    have F : Fresh w wr := by rw [hq]; exact (Frm.refl _ w).drewN q
    have HQ := Lib.hid hq
    have HS := Lib.hid hs
    clear hq hs
    by_cases hkl : k < l.length
    · obtain ⟨b, o, rfl, _, hc⟩ := (HR.out.fresh (Nat.le_refl _) F).at_ (k := k) (by simpa using hkl)
      rw [List.getElem_map] at hc
      have HT := Lib.hid (take_step hkl)
      obtain ⟨x, hx⟩ : ∃ x, x = l[k] := ⟨_, rfl⟩
      rw [← hx] at hc HT
      unfold fv at hc
      clear hx F
      have hk0 : (0 : Int) ≤ k := by omega
      have hk2 : (k : Int) < l.length := by omega
      cases hadd : Ieee.double.add s x with
      | some r =>
        have hrun : ∀ (w : World) (t : TypeId), (binOp .add t (.float .f64 s) (.float .f64 x)).run Try.prog w = .ok (.float .f64 r) w := fun w t => run_float_arith w .add t .f64 s x r hadd
        have HN := Lib.hid (HS.out.step hadd)
        clear hadd
        go_wp2_with fail
        go_roundw
        case rel => exact ⟨k + 1, r, by omega, rfl, by go_num, by rw [HT.out]; exact HN.out, q, HQ.out⟩
        case measure => simp [intOf]; omega
      | none =>
        obtain ⟨r, hn, hrun⟩ := run_add_nan (P := Try.prog) wr 23 s x hadd
        have HN := Lib.hid (HS.out.stepN hadd hn)
        clear hadd hn
        go_wp2_with fail
        go_roundw
        case rel => exact ⟨k + 1, r, by omega, rfl, by go_num, by rw [HT.out]; exact HN.out, q + 1, by rw [HQ.out]; rfl⟩
        case measure => simp [intOf]; omega
    · obtain rfl : k = l.length := by omega
      have HT := Lib.hid (show l.take l.length = l from List.take_length)
      rw [HT.out] at HS
      go_wp2_with fail
      go_ret
      exact ⟨s, HS.out, rfl, q, HQ.out⟩
theorem sum_one : SumOf [4607182418800017408] 4607182418800017408 := .inl (by decide +kernel)
theorem nan_one : FareM.nan 4607182418800017408 = false := by decide +kernel
theorem sumOf_one {s : Nat} (h : SumOf [4607182418800017408] s) : s = 4607182418800017408 := by
  rcases h.same sum_one with h | ⟨_, h⟩
  · exact h
  · rw [nan_one] at h; cases h
theorem one_one : (FloatKind.f64.format.order 4607182418800017408 4607182418800017408 == some Ordering.eq) = true := by decide +kernel
theorem fsum_one (w : World) (b : Nat) (hc : Rd w w.heap.size (some ⟨b, 0, none⟩) [.float .f64 4607182418800017408]) :
    Calls Try.prog 12 #[.slice (some ⟨b, 0, none⟩) 1 1] w fun e w' => e = .returned (.float .f64 4607182418800017408) ∧ ∃ n, w' = w.drewN n := by
  refine (fsum_any w (some ⟨b, 0, none⟩) 1 [4607182418800017408] hc (by simp)).mono ?_
  rintro e w' ⟨s, hs, rfl, hw⟩
  exact ⟨by rw [sumOf_one hs], hw⟩
def floatsf : Nat → List Value := fun b => [.float .f64 b]
def floatsq : Nat → Prop := fun b => (Lit.float .f64 b).wf = true
theorem flatMap_fv (l : List Nat) : l.flatMap floatsf = l.map fv := by
  induction l with
  | nil => rfl
  | cons a r ih => rw [List.flatMap_cons, ih]; rfl
set_option maxHeartbeats 1000000 in
theorem sums_walk (w : World) (s : Option Addr × Nat × List Nat) (hs : IsL w 8 floatsf floatsq s) :
    Calls Try.prog 3 #[sv s] w fun e w' => e = .returned (.bool true) ∧ Below w.heap.size w w' := by
  obtain ⟨A, c, l⟩ := s
  have hrd := hs.rd
  have hle := hs.le
  have hreach := hs.reach
  simp only [flatMap_fv] at hrd hle hreach
  have HR := Lib.hid hrd
  clear hs hrd
  have one1 := one_one
  show Calls _ _ #[.slice A l.length c] _ _
  by_cases q : 100000 < l.length
  · have d : decide (100000 < l.length) = true := by simpa using q
    have qi : (100000 : Int) < (l.length : Int) := by omega
    go_enter Try.func3, Try.ntmps3
    go_wp2_with fail
    go_ret
    exact ⟨rfl, Below.refl _ _⟩
  · have d : decide (100000 < l.length) = false := by simp; omega
    have qi : ¬ (100000 : Int) < (l.length : Int) := by omega
    go_enter Try.func3, Try.ntmps3
    go_wp2_with fail
    refine (fsum_any w A c l HR.out (by omega)).mono ?_
    rintro e w1 ⟨s1, hs1, rfl, n1, rfl⟩
    have HS1 := Lib.hid hs1
    clear hs1
    go_wp2_with fail
    refine (refFsum_any _ A c l (HR.out.drewN n1) (by omega)).mono ?_
    rintro e w1 ⟨s2, hs2, rfl, n2, hw⟩
    rw [drewN_add] at hw
    subst hw
    have HS2 := Lib.hid hs2
    clear hs2
    go_wp2_with fail
    have HF2 := Lib.hid ((Frm.refl (fun _ => False) w).drewN (n1 + n2))
    refine (fsum_one _ w.heap.size ?_).mono ?_
    · exact (rd_one (w.drewN (n1 + n2)) (.float .f64 4607182418800017408) 23).more (by simp)
    rintro e w1 ⟨rfl, n3, rfl⟩
    have b1 := fun w => run_f64bits w s1
    have b2 := fun w => run_f64bits w s2
    rcases Bool.eq_false_or_eq_true (FareM.nan s1) with hn | hn
    · have hn2 : FareM.nan s2 = true := by
        rcases HS1.out.same HS2.out with h | h
        · rw [← h]; exact hn
        · exact h.2
      have i1 := isnan_eq s1
      have i2 := isnan_eq s2
      rw [hn] at i1
      rw [hn2] at i2
      clear hn hn2
      go_wp2_with fail
      go_ret
      exact ⟨rfl, Fresh.below ((HF2.out.alloc _).drewN _)⟩
    · have he : s1 = s2 := by
        rcases HS1.out.same HS2.out with h | h
        · exact h
        · rw [hn] at h; cases h.1
      subst he
      have i1 := isnan_eq s1
      rw [hn] at i1
      clear hn HS2
      go_wp2_with fail
      go_ret
      exact ⟨by simp, Fresh.below ((HF2.out.alloc _).drewN _)⟩
end Go.Proofs.Ythbjgeemenenhaa

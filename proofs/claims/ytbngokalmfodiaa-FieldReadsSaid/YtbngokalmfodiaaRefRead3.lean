/- What the reference's reader computes: Int. -/
import Derived.Test.YtbngokalmfodiaaRefRead2
namespace Go.Proofs.Ytbngokalmfodiaa
open Go.RowKit ReadM

def RefInt (w : World) (B g : Nat) (bs : List UInt8) (res : Option (Int × List UInt8)) (e : Ending) (w' : World) : Prop :=
  e = .returned (lv (match res with | some x => x.1 | none => 0)) ∧ StepTo w B g bs (res.map (·.2)) w'
theorem int_rdec (amis : Bool) (low high : Int) (bs : List UInt8) (at_ : Nat) : ifGood amis (intRes low high (bs.drop at_)) = match rdec amis bs at_ with | some (n, m, rest) => if intOk m n = true ∧ low ≤ intVal m n ∧ intVal m n ≤ high then some (intVal m n, rest) else none | none => none := by cases amis <;> rfl
theorem rdec_pos {amis : Bool} {bs : List UInt8} {at_ n : Nat} {rest : List UInt8} (h : rdec amis bs at_ = some (n, true, rest)) : 0 < n := by
  cases amis with
  | true => cases h
  | false => exact dec_pos h
set_option maxHeartbeats 2000000 in
theorem rInt_any (w : World) (B g : Nat) (bs : List UInt8) (at_ : Nat) (amis : Bool) (low high : Int) (hat : at_ ≤ bs.length) (hbl : bs.length ≤ 140737488355328) (h : RefAt w B g bs at_ amis) :
    Calls Try.prog 23 #[.pointer (some ⟨g, 0, none⟩), .int .i64 low, .int .i64 high] w fun e w' => RefInt w B g bs (ifGood amis (intRes low high (bs.drop at_))) e w' := by
  have H := Lib.hid h
  clear h
  go_enter Try.func23, Try.ntmps23
  go_wp2_with fail
  refine (next_any w B g bs at_ amis hat hbl H.out).mono ?_
  intro e w1 hn
  obtain ⟨n, m, k, q, rfl, rfl, hr⟩ := hn
  have HF1 : Hid (Frm (fun k => k = g) w (w.drewN q)) := Lib.hid ((Frm.refl _ w).drewN q)
  have h1 : RefAt (w.drewN q) B g bs at_ amis := H.out.frm ((Frm.refl (fun _ => False) w).drewN q) (fun f => f) (fun _ _ f => f)
  generalize w.drewN q = w1 at HF1 h1
  have H1 := Lib.hid h1
  have hc1 : w1.cell? ⟨g, 1, none⟩ = some (.int .i64 (at_ : Int)) := by obtain ⟨_, _, hb, _⟩ := h1; exact hb.cell 1
  have hc2 : w1.cell? ⟨g, 2, none⟩ = some (.bool amis) := by obtain ⟨_, _, hb, _⟩ := h1; exact hb.cell 2
  have hz1 := (show ∃ A cap, Blk w1 g 37 #[.slice A bs.length cap, .int .i64 (at_ : Int), .bool amis] from by obtain ⟨A, cap, hb, _⟩ := h1; exact ⟨A, cap, hb⟩)
  obtain ⟨AA, cc, hzb⟩ := hz1
  have hf1 := hzb.frozen 1
  have hf2 := hzb.frozen 2
  clear h1 hzb
  rcases hr with ⟨hr, rfl, rfl, rfl⟩ | ⟨rest, hr, hk, hkl, hrest⟩
  · have HR := Lib.hid hr
    clear hr
    go_wp2_with fail
    go_ret
    rw [int_rdec, HR.out]
    exact ⟨rfl, step_amis hat H1.out HF1.out⟩
  · obtain rfl := rdec_good hr
    have e0 : ((k : Int) == 0) = false := by simp; omega
    have hw1 : IntKind.i64.wrap ((at_ : Int) + (k : Int)) = (at_ : Int) + (k : Int) := IntWalk.i64_in _ (by omega)
    have HRE := Lib.hid hrest
    clear hrest
    cases m with
    | true =>
      have hn0 := rdec_pos hr
      have HR := Lib.hid hr
      clear hr
      by_cases q1 : n ≤ 9223372036854775808
      · have HOK := Lib.hid (show intOk true n = true from by unfold intOk big; simpa using (by omega : (n : Int) ≤ 9223372036854775808))
        have e1 : decide (9223372036854775808 < (n : Int)) = false := by simp; omega
        have s1 : IntKind.u64.wrap ((n : Int) - 1) = (n : Int) - 1 := by rw [IntKind.wrap_u64]; omega
        have s2 : IntKind.i64.wrap ((n : Int) - 1) = (n : Int) - 1 := IntWalk.i64_in _ (by omega)
        have s3 : IntKind.i64.wrap (-((n : Int) - 1)) = -((n : Int) - 1) := IntWalk.i64_in _ (by omega)
        have s4 : IntKind.i64.wrap (-((n : Int) - 1) - 1) = -(n : Int) := by rw [show -((n : Int) - 1) - 1 = -(n : Int) by omega]; exact IntWalk.i64_in _ (by omega)
        by_cases q2 : low ≤ -(n : Int)
        · have d2 : decide (-(n : Int) < low) = false := by simp; omega
          by_cases q3 : -(n : Int) ≤ high
          · have d3 : decide (high < -(n : Int)) = false := by simp; omega
            have HC := Lib.hid (show intOk true n = true ∧ low ≤ intVal true n ∧ intVal true n ≤ high from ⟨HOK.out, q2, q3⟩)
            clear q2 q3
            go_wp2_with fail
            go_ret
            rw [int_rdec, HR.out]
            simp only [if_pos HC.out]
            exact ⟨rfl, step_on hkl HRE.out H1.out HF1.out⟩
          · have d3 : decide (high < -(n : Int)) = true := by simp; omega
            have HC := Lib.hid (show ¬ (intOk true n = true ∧ low ≤ intVal true n ∧ intVal true n ≤ high) from fun h => q3 h.2.2)
            clear q2 q3
            go_wp2_with fail
            go_ret
            rw [int_rdec, HR.out]
            simp only [if_neg HC.out]
            exact ⟨rfl, step_amis hat H1.out HF1.out⟩
        · have d2 : decide (-(n : Int) < low) = true := by simp; omega
          have HC := Lib.hid (show ¬ (intOk true n = true ∧ low ≤ intVal true n ∧ intVal true n ≤ high) from fun h => q2 h.2.1)
          clear q2
          go_wp2_with fail
          go_ret
          rw [int_rdec, HR.out]
          simp only [if_neg HC.out]
          exact ⟨rfl, step_amis hat H1.out HF1.out⟩
      · have e1 : decide (9223372036854775808 < (n : Int)) = true := by simp; omega
        have HC := Lib.hid (show ¬ (intOk true n = true ∧ low ≤ intVal true n ∧ intVal true n ≤ high) from fun h => q1 (by have := h.1; unfold intOk big at this; simp at this; omega))
        go_wp2_with fail
        go_ret
        rw [int_rdec, HR.out]
        simp only [if_neg HC.out]
        exact ⟨rfl, step_amis hat H1.out HF1.out⟩
    | false =>
      have HR := Lib.hid hr
      clear hr
      by_cases q1 : n ≤ 9223372036854775807
      · have HOK := Lib.hid (show intOk false n = true from by unfold intOk big; simpa using (by omega : (n : Int) < 9223372036854775808))
        have e1 : decide (9223372036854775807 < (n : Int)) = false := by simp; omega
        have s2 : IntKind.i64.wrap (n : Int) = (n : Int) := IntWalk.i64_in _ (by omega)
        by_cases q2 : low ≤ (n : Int)
        · have d2 : decide ((n : Int) < low) = false := by simp; omega
          by_cases q3 : (n : Int) ≤ high
          · have d3 : decide (high < (n : Int)) = false := by simp; omega
            have HC := Lib.hid (show intOk false n = true ∧ low ≤ intVal false n ∧ intVal false n ≤ high from ⟨HOK.out, q2, q3⟩)
            clear q2 q3
            go_wp2_with fail
            go_ret
            rw [int_rdec, HR.out]
            simp only [if_pos HC.out]
            exact ⟨rfl, step_on hkl HRE.out H1.out HF1.out⟩
          · have d3 : decide (high < (n : Int)) = true := by simp; omega
            have HC := Lib.hid (show ¬ (intOk false n = true ∧ low ≤ intVal false n ∧ intVal false n ≤ high) from fun h => q3 h.2.2)
            clear q2 q3
            go_wp2_with fail
            go_ret
            rw [int_rdec, HR.out]
            simp only [if_neg HC.out]
            exact ⟨rfl, step_amis hat H1.out HF1.out⟩
        · have d2 : decide ((n : Int) < low) = true := by simp; omega
          have HC := Lib.hid (show ¬ (intOk false n = true ∧ low ≤ intVal false n ∧ intVal false n ≤ high) from fun h => q2 h.2.1)
          clear q2
          go_wp2_with fail
          go_ret
          rw [int_rdec, HR.out]
          simp only [if_neg HC.out]
          exact ⟨rfl, step_amis hat H1.out HF1.out⟩
      · have e1 : decide (9223372036854775807 < (n : Int)) = true := by simp; omega
        have HC := Lib.hid (show ¬ (intOk false n = true ∧ low ≤ intVal false n ∧ intVal false n ≤ high) from fun h => q1 (by have := h.1; unfold intOk big at this; simp at this; omega))
        go_wp2_with fail
        go_ret
        rw [int_rdec, HR.out]
        simp only [if_neg HC.out]
        exact ⟨rfl, step_amis hat H1.out HF1.out⟩
end Go.Proofs.Ytbngokalmfodiaa

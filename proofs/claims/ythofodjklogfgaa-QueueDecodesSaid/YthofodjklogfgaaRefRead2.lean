/- What the reference's reader computes: Number, Whole. -/
import Derived.Test.YthofodjklogfgaaRefRead
import Derived.Test.YthofodjklogfgaaRead7
namespace Go.Proofs.Ythofodjklogfgaa
open Go.RowKit ReadM

/-- where the reader stands behind a reading, and whether something was amiss -/
def StepTo (w : World) (B g : Nat) (bs : List UInt8) (rest : Option (List UInt8)) (w' : World) : Prop :=
  ∃ at', at' ≤ bs.length ∧ RefAt w' B g bs at' rest.isNone ∧ (∀ x, rest = some x → x = bs.drop at') ∧ Frm (fun k => k = g) w w'
theorem RefAt.lt {w : World} {B g : Nat} {bs : List UInt8} {at_ : Nat} {amis : Bool} (h : RefAt w B g bs at_ amis) : g < w.heap.size := by
  obtain ⟨_, _, h, _⟩ := h; exact h.lt
theorem step_amis {w w1 : World} {B g : Nat} {bs : List UInt8} {at_ : Nat} {amis : Bool} (hat : at_ ≤ bs.length) (h : RefAt w1 B g bs at_ amis) (F : Frm (fun k => k = g) w w1) : StepTo w B g bs none (w1.setCell ⟨g, 2, none⟩ (.bool true)) := by
  have hlt := h.lt
  obtain ⟨A, cap, h1, h2, h3, h4, h5⟩ := h
  have FS : Frm (fun k => k = g) w1 (w1.setCell ⟨g, 2, none⟩ (.bool true)) := (Frm.refl (fun k => k = g) w1).setCell (p := ⟨g, 2, none⟩) (fun _ => rfl) _
  exact ⟨at_, hat, ⟨A, cap, h1.set 2 (.bool true), h2.frm (by omega) FS (fun p _ hp e => by omega), h3, h4, h5⟩, fun x h => by simp at h, F.trans FS⟩
theorem step_on {w w1 : World} {B g : Nat} {bs : List UInt8} {at_ k : Nat} {rest : List UInt8} (hk : at_ + k ≤ bs.length) (hr : rest = bs.drop (at_ + k)) (h : RefAt w1 B g bs at_ false) (F : Frm (fun k => k = g) w w1) :
    StepTo w B g bs (some rest) (w1.setCell ⟨g, 1, none⟩ (.int .i64 ((at_ : Int) + (k : Int)))) := by
  have hlt := h.lt
  obtain ⟨A, cap, h1, h2, h3, h4, h5⟩ := h
  have FS : Frm (fun k => k = g) w1 (w1.setCell ⟨g, 1, none⟩ (.int .i64 ((at_ : Int) + (k : Int)))) := (Frm.refl (fun k => k = g) w1).setCell (p := ⟨g, 1, none⟩) (fun _ => rfl) _
  refine ⟨at_ + k, hk, ⟨A, cap, ?_, h2.frm (by omega) FS (fun p _ hp e => by omega), h3, h4, h5⟩, fun x h => by injection h with h; rw [← h, hr], F.trans FS⟩
  have := h1.set 1 (.int .i64 ((at_ : Int) + (k : Int)))
  simpa using this
def RefNum (w : World) (B g : Nat) (bs : List UInt8) (res : Option (Nat × List UInt8)) (e : Ending) (w' : World) : Prop :=
  e = .returned (uv (match res with | some x => x.1 | none => 0)) ∧ StepTo w B g bs (res.map (·.2)) w'
theorem num_rdec (amis : Bool) (most : Nat) (bs : List UInt8) (at_ : Nat) : ifGood amis (numRes most (bs.drop at_)) = match rdec amis bs at_ with | some (n, false, rest) => if n ≤ most then some (n, rest) else none | _ => none := by cases amis <;> rfl
theorem rdec_good {amis : Bool} {bs : List UInt8} {at_ : Nat} {x : Nat × Bool × List UInt8} (h : rdec amis bs at_ = some x) : amis = false := by cases amis; rfl; cases h
set_option maxHeartbeats 1000000 in
theorem rNumber_any (w : World) (B g : Nat) (bs : List UInt8) (at_ : Nat) (amis : Bool) (most : Nat) (hat : at_ ≤ bs.length) (hbl : bs.length ≤ 140737488355328) (h : RefAt w B g bs at_ amis) :
    Calls Try.prog 40 #[.pointer (some ⟨g, 0, none⟩), .int .u64 (most : Int)] w fun e w' => RefNum w B g bs (ifGood amis (numRes most (bs.drop at_))) e w' := by
  have H := Lib.hid h
  clear h
  go_enter Try.func40, Try.ntmps40
  go_wp2_with fail
  refine (next_any w B g bs at_ amis hat hbl H.out).mono ?_
  intro e w1 hn
  obtain ⟨n, m, k, q, rfl, rfl, hr⟩ := hn
  have HF1 : Hid (Frm (fun k => k = g) w (w.drewN q)) := Lib.hid ((Frm.refl _ w).drewN q)
  have h1 : RefAt (w.drewN q) B g bs at_ amis := H.out.frm ((Frm.refl (fun _ => False) w).drewN q) (fun f => f) (fun _ _ f => f)
  generalize w.drewN q = w1 at HF1 h1
  have H1 := Lib.hid h1
  have hc1 : w1.cell? ⟨g, 1, none⟩ = some (.int .i64 (at_ : Int)) := by obtain ⟨_, _, hb, _⟩ := h1; exact hb.cell 1
  have hc2 : w1.cell? ⟨g, 2, none⟩ = some (.bool amis) := by obtain ⟨_, _, hb, _⟩ := h1; exact hb.cell 2
  have hz1 := (show ∃ A cap, Blk w1 g 79 #[.slice A bs.length cap, .int .i64 (at_ : Int), .bool amis] from by obtain ⟨A, cap, hb, _⟩ := h1; exact ⟨A, cap, hb⟩)
  obtain ⟨AA, cc, hzb⟩ := hz1
  have hf1 := hzb.frozen 1
  have hf2 := hzb.frozen 2
  clear h1 hzb
  rcases hr with ⟨hr, rfl, rfl, rfl⟩ | ⟨rest, hr, hk, hkl, hrest⟩
  · have HR := Lib.hid hr
    clear hr
    go_wp2_with fail
    go_ret
    rw [num_rdec, HR.out]
    exact ⟨rfl, step_amis hat H1.out HF1.out⟩
  · obtain rfl := rdec_good hr
    have e0 : ((k : Int) == 0) = false := by simp; omega
    have HR := Lib.hid hr
    have HRE := Lib.hid hrest
    clear hr hrest
    cases m with
    | true =>
      go_wp2_with fail
      go_ret
      rw [num_rdec, HR.out]
      exact ⟨rfl, step_amis hat H1.out HF1.out⟩
    | false =>
      by_cases q1 : n ≤ most
      · have e1 : decide (most < n) = false := by simp; omega
        have hw1 : IntKind.i64.wrap ((at_ : Int) + (k : Int)) = (at_ : Int) + (k : Int) := IntWalk.i64_in _ (by omega)
        go_wp2_with fail
        go_ret
        rw [num_rdec, HR.out]
        simp only [if_pos q1]
        exact ⟨rfl, step_on hkl HRE.out H1.out HF1.out⟩
      · have e1 : decide (most < n) = true := by simp; omega
        go_wp2_with fail
        go_ret
        rw [num_rdec, HR.out]
        simp only [if_neg q1]
        exact ⟨rfl, step_amis hat H1.out HF1.out⟩

def refWholeB (bs : List UInt8) (at_ : Nat) (amis : Bool) : Bool := !amis && decide (at_ = bs.length)
theorem rWhole_any (w : World) (B g : Nat) (bs : List UInt8) (at_ : Nat) (amis : Bool) (h : RefAt w B g bs at_ amis) :
    Calls Try.prog 42 #[.pointer (some ⟨g, 0, none⟩)] w fun e w' => e = .returned (.bool (refWholeB bs at_ amis)) ∧ ∃ n, w' = w.drewN n := by
  obtain ⟨A, cap, hb, _⟩ := h
  have hd0 : ∀ n, (w.drewN n).cell? ⟨g, 0, none⟩ = some (.slice A bs.length cap) := fun _ => hb.cell 0
  have hd1 : ∀ n, (w.drewN n).cell? ⟨g, 1, none⟩ = some (.int .i64 (at_ : Int)) := fun _ => hb.cell 1
  have hd2 : ∀ n, (w.drewN n).cell? ⟨g, 2, none⟩ = some (.bool amis) := fun _ => hb.cell 2
  clear hb
  cases amis with
  | true =>
    go_enter Try.func42, Try.ntmps42
    go_wp2_with fail
    go_quiet (fail)
    go_wp2_with fail
    go_ret
    exact ⟨rfl, _, rfl⟩
  | false =>
    obtain ⟨b, hb⟩ : ∃ b, b = decide (at_ = bs.length) := ⟨_, rfl⟩
    have HB := Lib.hid hb
    have e1 : ((at_ : Int) == (bs.length : Int)) = b := by rw [hb]; cases h : decide (at_ = bs.length) <;> simp at h ⊢ <;> omega
    clear hb
    go_enter Try.func42, Try.ntmps42
    go_wp2_with fail
    go_quiet (fail)
    go_wp2_with fail
    go_ret
    exact ⟨by rw [refWholeB, ← HB.out]; rfl, _, rfl⟩
end Go.Proofs.Ythofodjklogfgaa

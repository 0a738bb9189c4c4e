/- What the reader's New, Whole compute; what slices.Clone does. (Out of field's Read6.) -/
import Derived.Test.YthofodjklogfgaaRead4
namespace Go.Proofs.Ythofodjklogfgaa
open Go.RowKit ReadM

/-! ### Clone, New, Bad, Whole -/
theorem nil_no (w : World) (a : Addr) (n c : Nat) : (binOp .eql 50 (.slice (some a) n c) (.slice none 0 0)).run Try.prog w = .ok (.bool false) w := by
  first | kernel_rfl | (simp [binOp, go_sem, Try.underlying50])
theorem nil_yes (w : World) (n c : Nat) : (binOp .eql 50 (.slice none n c) (.slice none 0 0)).run Try.prog w = .ok (.bool true) w := by
  first | kernel_rfl | (simp [binOp, go_sem, Try.underlying50])
theorem clone_any (w : World) (B : Nat) (A : Option Addr) (cap : Nat) (bs : List UInt8) (hr : Rd w B A (bs.map bv)) (hB : B ≤ w.heap.size) (hl : bs.length ≤ 140737488355328) (hc : bs.length ≤ cap) (hm : cap ≤ maxLen) :
    Calls Try.prog 57 #[.slice A bs.length cap] w fun e w' => ∃ v, e = .returned v ∧ Sl w' w.heap.size 5 1 v bs.length (bs.map bv) ∧ Fresh w w' := by
  obtain ⟨i0, hi, hz0, hz1, hz2⟩ := info_parts info_u8
  unfold maxLen at hm
  have HR := Lib.hid hr
  cases A with
  | none =>
    have hb : bs = [] := by
      cases bs with
      | nil => rfl
      | cons b r => obtain ⟨_, _, h, _⟩ := hr.at_ (k := 0) (by simp); cases h
    subst hb
    clear hr
    have hnn := fun w n c => nil_yes w n c
    go_enter Try.func57, Try.ntmps57
    go_wp2_with fail
    go_ret
    exact ⟨_, rfl, Sl.nil _ _ _ _, Frm.refl _ _⟩
  | some a =>
    clear hr
    have hnn := fun w n c => nil_no w a n c
    go_enter Try.func57, Try.ntmps57
    have S0 := Lib.hid (show Sl (w.alloc (.cells #[] 5)) w.heap.size 5 1 (.slice (some ⟨w.heap.size, 0, none⟩) 0 0) 0 [] from sl_new w _ [] _ (Nat.le_refl _) (by simp [maxLen]))
    have f0 : Fresh w (w.alloc (.cells #[] 5)) := (Frm.refl _ w).alloc _
    go_wp2_with (first
      | (at_builtin; refine wpList_append_sl _ rfl (.tmp 5) (.tmp 6) _ rfl w.heap.size 5 i0 _ 1 1 Try.underlying50 hi hz0 hz1 hz2 rfl (by omega) _ _ _ rfl S0.out _ _ _ _ _ rfl (by simp) (HR.out.alloc (by omega) _) (bv_one _) (by unfold maxLen; omega) (by omega) (by simp) ?_; intro v1 w2 hs1 hf1 ha1))
    have F2 : Fresh w w2 := f0.trans' hf1 (fun i hi hk => by have := own_at hk; omega)
    rw [Nat.zero_add, List.nil_append] at hs1
    go_wp2_with fail
    go_ret
    exact ⟨v1, rfl, hs1, F2⟩
theorem rdr_new (w : World) (B : Nat) (A : Option Addr) (cap : Nat) (bs : List UInt8) (hr : Rd w B A (bs.map bv)) (hB : B ≤ w.heap.size) (hl : bs.length ≤ 140737488355328) (hc : bs.length ≤ cap) (hm : cap ≤ maxLen) :
    Calls Try.prog 35 #[.slice A bs.length cap] w fun e w' => ∃ g, e = .returned (.pointer (some ⟨g, 0, none⟩)) ∧ RdrAt w' g g bs false ∧ Fresh w w' ∧ w.heap.size ≤ g := by
  have HR := Lib.hid hr
  clear hr
  go_enter Try.func35, Try.ntmps35
  go_wp2_with fail
  refine (clone_any w B A cap bs HR.out hB hl hc hm).mono ?_
  rintro e w1 ⟨v, rfl, hs, F1⟩
  obtain ⟨A1, cap1, rfl, h1, h2, _⟩ := hs.shape
  have HS := Lib.hid hs
  clear hs
  go_wp2_with fail
  go_ret
  refine ⟨w1.heap.size, rfl, ⟨A1, cap1, Blk.new w1 _ _, ?_, h1, h2, Nat.le_refl _⟩, F1.alloc _, F1.size⟩
  exact HS.out.rd.alloc (Nat.le_refl _) _
def wholeB (bs : List UInt8) (bad : Bool) : Bool := !bad && bs.isEmpty
theorem whole_any (w : World) (B g : Nat) (bs : List UInt8) (bad : Bool) (h : RdrAt w B g bs bad) : Calls Try.prog 39 #[.pointer (some ⟨g, 0, none⟩)] w fun e w' => e = .returned (.bool (wholeB bs bad)) ∧ w = w' := by
  obtain ⟨A, cap, hb, _⟩ := h
  have hc : w.cell? ⟨g, 1, none⟩ = some (.bool bad) := hb.cell 1
  have hc0 : w.cell? ⟨g, 0, none⟩ = some (.slice A bs.length cap) := hb.cell 0
  clear hb
  cases bad with
  | true =>
    go_enter Try.func39, Try.ntmps39
    go_wp2_with fail
    go_ret
    exact ⟨rfl, rfl⟩
  | false =>
    cases bs with
    | nil =>
      go_enter Try.func39, Try.ntmps39
      go_wp2_with fail
      go_ret
      exact ⟨rfl, rfl⟩
    | cons b r =>
      have d1 : (((b :: r).length : Int) == 0) = false := by simp; omega
      simp only [List.length_cons] at hc0 d1
      go_enter Try.func39, Try.ntmps39
      go_wp2_with fail
      go_ret
      exact ⟨rfl, rfl⟩
end Go.Proofs.Ythofodjklogfgaa

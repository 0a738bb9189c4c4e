/- What the reader's Int, New, Bad, Whole compute; what slices.Clone does. -/
import Derived.Test.YtlceembcehokoaaRead5
namespace Go.Proofs.Ytlceembcehokoaa
set_option maxRecDepth 100000
open Go.RowKit ReadM
set_option linter.unusedVariables false

def IntPost (w : World) (B gr : Nat) (bs : List UInt8) (res : Option (Int × List UInt8)) (e : Ending) (w' : World) : Prop :=
  e = .returned (lv (match res with | some x => x.1 | none => 0)) ∧ RdrAt w' B gr (match res with | some x => x.2 | none => bs) res.isNone ∧ Frm (fun k => k = gr) w w'
set_option maxHeartbeats 1000000 in
theorem readInt_any (w : World) (B gr : Nat) (bs : List UInt8) (bad : Bool) (low high : Int) (h : RdrAt w B gr bs bad) :
    Calls Try.prog 56 #[.pointer (some ⟨gr, 0, none⟩), .int .i64 low, .int .i64 high] w fun e w' => IntPost w B gr bs (ifGood bad (intRes low high bs)) e w' := by
  have H := Lib.hid h
  have hlt : gr < w.heap.size := by obtain ⟨_, _, hb, _⟩ := h; exact hb.lt
  have hB : B ≤ gr := by obtain ⟨_, _, _, _, _, _, hB⟩ := h; exact hB
  clear h
  have hmf : ∀ (fn : Fn) (first cap : Array Value) (w : World), (Instr.makeFunc fn first cap).run Try.prog w = .ok (.func fn first cap) w := fun _ _ _ _ => rfl
  go_enter Try.func56, Try.ntmps56
  go_wp2_with fail
  have F0 : Fresh w (((w.alloc (.cells #[lv low] 2)).alloc (.cells #[lv high] 2)).alloc (.cells #[lv 0] 2)) := (((Frm.refl _ w).alloc _).alloc _).alloc _
  have b1 : Blk (((w.alloc (.cells #[lv low] 2)).alloc (.cells #[lv high] 2)).alloc (.cells #[lv 0] 2)) w.heap.size 2 #[lv low] := ((Blk.new w _ _).alloc _).alloc _
  have b2 : Blk (((w.alloc (.cells #[lv low] 2)).alloc (.cells #[lv high] 2)).alloc (.cells #[lv 0] 2)) (w.heap.size + 1) 2 #[lv high] := by
    have := (Blk.new (w.alloc (.cells #[lv low] 2)) 2 #[lv high]).alloc (.cells #[lv 0] 2)
    simpa using this
  have b3 : Blk (((w.alloc (.cells #[lv low] 2)).alloc (.cells #[lv high] 2)).alloc (.cells #[lv 0] 2)) (w.heap.size + 1 + 1) 2 #[lv 0] := by
    have := Blk.new ((w.alloc (.cells #[lv low] 2)).alloc (.cells #[lv high] 2)) 2 #[lv 0]
    simpa using this
  have hr := H.out.frm F0 (fun f => f) (fun _ _ f => f)
  cases bad with
  | true =>
    refine (read_bad 95 #[.pointer (some ⟨w.heap.size, 0, none⟩), .pointer (some ⟨w.heap.size + 1, 0, none⟩), .pointer (some ⟨w.heap.size + 1 + 1, 0, none⟩)] _ B gr (w.heap.size + 1 + 1) bs (fun _ => True) hr).mono ?_
    intro e w2 h2
    obtain ⟨rfl, h3, F3⟩ := readPost_none h2
    have c2 : w2.cell? ⟨w.heap.size + 1 + 1, 0, none⟩ = some (.int .i64 0) := (b3.frm F3 (show ¬ (w.heap.size + 1 + 1 = gr) by omega)).cell 0
    have H3 := Lib.hid h3
    have HF3 := Lib.hid ((Fresh.frm (S := fun k => k = gr) F0).trans F3)
    clear h2 h3 F3 F0 b1 b2 b3 hr
    go_wp2_with fail
    go_ret
    exact ⟨rfl, H3.out, HF3.out⟩
  | false =>
    have hone := one_int _ B w.heap.size (w.heap.size + 1) (w.heap.size + 1 + 1) bs low high b1 b2 b3 (by omega)
    refine (read_good 95 #[.pointer (some ⟨w.heap.size, 0, none⟩), .pointer (some ⟨w.heap.size + 1, 0, none⟩), .pointer (some ⟨w.heap.size + 1 + 1, 0, none⟩)] _ B gr (w.heap.size + 1 + 1) bs _ _ hr b3.lt (by omega) (by omega) hone (fun w2 w3 hf hg x hx => (hg x hx).frm hf (show ¬ (w.heap.size + 1 + 1 = gr) by omega))).mono ?_
    intro e w2 h2
    cases hres : intRes low high bs with
    | none =>
      rw [hres] at h2
      obtain ⟨rfl, h3, F3⟩ := readPost_none h2
      have c2 : w2.cell? ⟨w.heap.size + 1 + 1, 0, none⟩ = some (.int .i64 0) := (b3.frm F3 (show ¬ (w.heap.size + 1 + 1 = gr) by omega)).cell 0
      have H3 := Lib.hid h3
      have HF3 := Lib.hid ((Fresh.frm (S := fun k => k = gr) F0).trans F3)
      have HRES := Lib.hid hres
      clear h2 h3 F3 F0 b1 b2 b3 hr hone hres
      go_wp2_with fail
      go_ret
      rw [HRES.out]
      exact ⟨rfl, H3.out, HF3.out⟩
    | some x =>
      rw [hres] at h2
      obtain ⟨rfl, h3, hg, F3⟩ := readPost_some h2
      have c2 : w2.cell? ⟨w.heap.size + 1 + 1, 0, none⟩ = some (.int .i64 x.1) := (hg x rfl).cell 0
      have H3 := Lib.hid h3
      have HF3 := Lib.hid ((Fresh.frm (S := fun k => k = gr) F0).trans' F3 (fun i hi h => by omega))
      have HRES := Lib.hid hres
      clear h2 h3 F3 F0 b1 b2 b3 hr hone hres hg
      go_wp2_with fail
      go_ret
      rw [HRES.out]
      exact ⟨rfl, H3.out, HF3.out⟩

/-! ### Clone, New, Bad, Whole -/
theorem nil_no (w : World) (a : Addr) (n c : Nat) : (binOp .eql 26 (.slice (some a) n c) (.slice none 0 0)).run Try.prog w = .ok (.bool false) w := by
  first | rfl | kernel_rfl | (simp [binOp, go_sem, Try.underlying26])
theorem nil_yes (w : World) (n c : Nat) : (binOp .eql 26 (.slice none n c) (.slice none 0 0)).run Try.prog w = .ok (.bool true) w := by
  first | rfl | kernel_rfl | (simp [binOp, go_sem, Try.underlying26])
theorem clone_any (w : World) (B : Nat) (A : Option Addr) (cap : Nat) (bs : List UInt8) (hr : Rd w B A (bs.map bv)) (hB : B ≤ w.heap.size) (hl : bs.length ≤ 140737488355328) (hc : bs.length ≤ cap) (hm : cap ≤ maxLen) :
    Calls Try.prog 90 #[.slice A bs.length cap] w fun e w' => ∃ v, e = .returned v ∧ Sl w' w.heap.size 5 1 v bs.length (bs.map bv) ∧ Fresh w w' := by
  obtain ⟨i0, hi, hz0, hz1, hz2⟩ := info_parts info_u8
  unfold maxLen at hm
  have HR := Lib.hid hr
  cases A with
  | none =>
    have hb : bs = [] := by
      cases bs with
      | nil => rfl
      | cons b r => obtain ⟨_, _, h, _⟩ := hr.at_ (k := 0) (by simp); cases h
    subst hb
    clear hr
    have hnn := fun w n c => nil_yes w n c
    go_enter Try.func90, Try.ntmps90
    go_wp2_with fail
    go_ret
    exact ⟨_, rfl, Sl.nil _ _ _ _, Frm.refl _ _⟩
  | some a =>
    clear hr
    have hnn := fun w n c => nil_no w a n c
    go_enter Try.func90, Try.ntmps90
    have S0 := Lib.hid (show Sl (w.alloc (.cells #[] 5)) w.heap.size 5 1 (.slice (some ⟨w.heap.size, 0, none⟩) 0 0) 0 [] from sl_new w _ [] _ (Nat.le_refl _) (by simp [maxLen]))
    have f0 : Fresh w (w.alloc (.cells #[] 5)) := (Frm.refl _ w).alloc _
    go_wp2_with (first
      | (at_builtin; refine wpList_append_sl _ rfl (.tmp 5) (.tmp 6) _ rfl w.heap.size 5 i0 _ 1 1 Try.underlying26 hi hz0 hz1 hz2 rfl (by omega) _ _ _ rfl S0.out _ _ _ _ _ rfl (by simp) (HR.out.alloc (by omega) _) (bv_one _) (by unfold maxLen; omega) (by omega) (by simp) ?_; intro v1 w2 hs1 hf1 ha1))
    have F2 : Fresh w w2 := f0.trans' hf1 (fun i hi hk => by have := own_at hk; omega)
    rw [Nat.zero_add, List.nil_append] at hs1
    go_wp2_with fail
    go_ret
    exact ⟨v1, rfl, hs1, F2⟩
theorem rdr_new (w : World) (B : Nat) (A : Option Addr) (cap : Nat) (bs : List UInt8) (hr : Rd w B A (bs.map bv)) (hB : B ≤ w.heap.size) (hl : bs.length ≤ 140737488355328) (hc : bs.length ≤ cap) (hm : cap ≤ maxLen) :
    Calls Try.prog 51 #[.slice A bs.length cap] w fun e w' => ∃ g, e = .returned (.pointer (some ⟨g, 0, none⟩)) ∧ RdrAt w' g g bs false ∧ Fresh w w' ∧ w.heap.size ≤ g := by
  have HR := Lib.hid hr
  clear hr
  go_enter Try.func51, Try.ntmps51
  go_wp2_with fail
  refine (clone_any w B A cap bs HR.out hB hl hc hm).mono ?_
  rintro e w1 ⟨v, rfl, hs, F1⟩
  obtain ⟨A1, cap1, rfl, h1, h2, _⟩ := hs.shape
  have HS := Lib.hid hs
  clear hs
  go_wp2_with fail
  go_ret
  refine ⟨w1.heap.size, rfl, ⟨A1, cap1, Blk.new w1 _ _, ?_, h1, h2, Nat.le_refl _⟩, F1.alloc _, F1.size⟩
  exact HS.out.rd.alloc (Nat.le_refl _) _
def wholeB (bs : List UInt8) (bad : Bool) : Bool := !bad && bs.isEmpty
theorem whole_any (w : World) (B g : Nat) (bs : List UInt8) (bad : Bool) (h : RdrAt w B g bs bad) : Calls Try.prog 59 #[.pointer (some ⟨g, 0, none⟩)] w fun e w' => e = .returned (.bool (wholeB bs bad)) ∧ w = w' := by
  obtain ⟨A, cap, hb, _⟩ := h
  have hc : w.cell? ⟨g, 1, none⟩ = some (.bool bad) := hb.cell 1
  have hc0 : w.cell? ⟨g, 0, none⟩ = some (.slice A bs.length cap) := hb.cell 0
  clear hb
  cases bad with
  | true =>
    go_enter Try.func59, Try.ntmps59
    go_wp2_with fail
    go_ret
    exact ⟨rfl, rfl⟩
  | false =>
    cases bs with
    | nil =>
      go_enter Try.func59, Try.ntmps59
      go_wp2_with fail
      go_ret
      exact ⟨rfl, rfl⟩
    | cons b r =>
      have d1 : (((b :: r).length : Int) == 0) = false := by simp; omega
      simp only [List.length_cons] at hc0 d1
      go_enter Try.func59, Try.ntmps59
      go_wp2_with fail
      go_ret
      exact ⟨rfl, rfl⟩
end Go.Proofs.Ytlceembcehokoaa

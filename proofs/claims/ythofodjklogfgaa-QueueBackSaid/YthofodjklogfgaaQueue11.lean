/- SameWait, SameWaits of what is the same; Ahead. -/
import Derived.Test.YthofodjklogfgaaQueue10
import Derived.Test.YthofodjklogfgaaKeys
namespace Go.Proofs.Ythofodjklogfgaa
open Go.RowKit QueueM
attribute [local go_sem] run_store_float

set_option maxRecDepth 100000 in
set_option maxHeartbeats 2000000 in
theorem sameWait_any (x : Wt) (hx : x.score < 18446744073709551616) (w : World) :
    Calls Try.prog 18 #[wagg x, wagg x] w fun e w' => e = .returned (.bool true) ∧ Fresh w w' := by
  unfold wagg
  obtain ⟨xi, xc, xm, xt, xs⟩ := x
  dsimp only at hx ⊢
  have HK := Lib.hid (refKey_any xs hx)
  clear hx
  go_enter Try.func18, Try.ntmps18
  go_wp2_with fail
  obtain ⟨w0, hw0⟩ : ∃ w0, (w.alloc (.cells #[.int .i64 xi, .int .i64 xc, .int .i64 xm, .int .i64 xt, .float .f64 xs] 28)).alloc (.cells #[.int .i64 xi, .int .i64 xc, .int .i64 xm, .int .i64 xt, .float .f64 xs] 28) = w0 := ⟨_, rfl⟩
  rw [hw0]
  have HF0 : Hid (Fresh w w0) := Lib.hid (by rw [← hw0]; exact ((Frm.refl _ w).alloc _).alloc _)
  have B1 : Five w0 w.heap.size 0 ⟨xi, xc, xm, xt, xs⟩ := by
    have B1 : Blk w0 w.heap.size 28 (wcells ⟨xi, xc, xm, xt, xs⟩).toArray := by rw [← hw0]; exact (Blk.new w _ _).alloc _
    exact five_blk B1
  have B2 : Five w0 (w.heap.size + 1) 0 ⟨xi, xc, xm, xt, xs⟩ := by
    have B2 : Blk w0 (w.heap.size + 1) 28 (wcells ⟨xi, xc, xm, xt, xs⟩).toArray := by
      rw [← hw0]
      have := Blk.new (w.alloc (.cells #[.int .i64 xi, .int .i64 xc, .int .i64 xm, .int .i64 xt, .float .f64 xs] 28)) 28 #[.int .i64 xi, .int .i64 xc, .int .i64 xm, .int .i64 xt, .float .f64 xs]
      rwa [World.size_alloc] at this
    exact five_blk B2
  clear hw0
  have a0 : ∀ n, (w0.drewN n).cell? ⟨w.heap.size, 0, none⟩ = some (.int .i64 xi) := fun _ => B1.1
  have a1 : ∀ n, (w0.drewN n).cell? ⟨w.heap.size, 1, none⟩ = some (.int .i64 xc) := fun _ => B1.2.1
  have a2 : ∀ n, (w0.drewN n).cell? ⟨w.heap.size, 2, none⟩ = some (.int .i64 xm) := fun _ => B1.2.2.1
  have a3 : ∀ n, (w0.drewN n).cell? ⟨w.heap.size, 3, none⟩ = some (.int .i64 xt) := fun _ => B1.2.2.2.1
  have a4 : ∀ n, (w0.drewN n).cell? ⟨w.heap.size, 4, none⟩ = some (.float .f64 xs) := fun _ => B1.2.2.2.2
  have d0 : ∀ n, (w0.drewN n).cell? ⟨w.heap.size + 1, 0, none⟩ = some (.int .i64 xi) := fun _ => B2.1
  have d1 : ∀ n, (w0.drewN n).cell? ⟨w.heap.size + 1, 1, none⟩ = some (.int .i64 xc) := fun _ => B2.2.1
  have d2 : ∀ n, (w0.drewN n).cell? ⟨w.heap.size + 1, 2, none⟩ = some (.int .i64 xm) := fun _ => B2.2.2.1
  have d3 : ∀ n, (w0.drewN n).cell? ⟨w.heap.size + 1, 3, none⟩ = some (.int .i64 xt) := fun _ => B2.2.2.2.1
  have d4 : ∀ n, (w0.drewN n).cell? ⟨w.heap.size + 1, 4, none⟩ = some (.float .f64 xs) := fun _ => B2.2.2.2.2
  clear B1 B2
  go_quiet ((go_at_call 33; exact Calls.quiet_of_same (HK.out _)))
  go_wp2_with fail
  go_ret
  exact ⟨by simp, HF0.out.drewN _⟩
/-- the numbers of a list are words -/
def Words (l : List Wt) : Prop := ∀ x ∈ l, x.score < 18446744073709551616
set_option maxRecDepth 100000 in
set_option maxHeartbeats 2000000 in
theorem sameWaits_any (w : World) (A A' : Option Addr) (c c' : Nat) (l : List Wt) (h1 : Rd w w.heap.size A (l.flatMap wcells)) (h2 : Rd w w.heap.size A' (l.flatMap wcells)) (hl : l.length ≤ 1000) (hw : Words l) :
    Calls Try.prog 13 #[.slice A l.length c, .slice A' l.length c'] w fun e w' => e = .returned (.bool true) ∧ Fresh w w' := by
  have H1 := Lib.hid h1
  have H2 := Lib.hid h2
  have HW := Lib.hid hw
  clear h1 h2 hw
  go_enter Try.func13, Try.ntmps13
  go_wp2_with fail
  go_loopw [5] (fun v5 wr => ∃ k : Nat, k ≤ l.length ∧ v5 = .int .i64 (k : Int) ∧ Fresh w wr) (fun v5 _ => l.length - (intOf v5).toNat)
  case atStart => exact ⟨0, by omega, rfl, Frm.refl _ _⟩
  case round =>
    obtain ⟨k, hk, rfl, hf⟩ := hrel
    have HF := Lib.hid hf
    have hk0 : (0 : Int) ≤ (k : Int) := by omega
    by_cases hlt : k < l.length
    · obtain ⟨b, o, rfl, _, p5⟩ := five_at ((H1.out.fresh (Nat.le_refl _) hf).more hf.size) hlt
      obtain ⟨b2, o2, rfl, _, q5⟩ := five_at ((H2.out.fresh (Nat.le_refl _) hf).more hf.size) hlt
      have hxw := HW.out _ (List.getElem_mem hlt)
      obtain ⟨x, hx⟩ : ∃ x, x = l[k] := ⟨_, rfl⟩
      rw [← hx] at p5 q5 hxw
      clear hx
      have HSW := Lib.hid (sameWait_any x hxw wr.drew)
      unfold wagg at HSW
      obtain ⟨xi, xc, xm, xt, xs⟩ := x
      have TEN : Hid (∀ w', Fresh wr w' → w'.cell? ⟨b, o + k * 5, none⟩ = some (.int .i64 xi) ∧ w'.cell? ⟨b, o + k * 5 + 1, none⟩ = some (.int .i64 xc) ∧ w'.cell? ⟨b, o + k * 5 + 2, none⟩ = some (.int .i64 xm) ∧ w'.cell? ⟨b, o + k * 5 + 3, none⟩ = some (.int .i64 xt) ∧ w'.cell? ⟨b, o + k * 5 + 4, none⟩ = some (.float .f64 xs) ∧
        w'.cell? ⟨b2, o2 + k * 5, none⟩ = some (.int .i64 xi) ∧ w'.cell? ⟨b2, o2 + k * 5 + 1, none⟩ = some (.int .i64 xc) ∧ w'.cell? ⟨b2, o2 + k * 5 + 2, none⟩ = some (.int .i64 xm) ∧ w'.cell? ⟨b2, o2 + k * 5 + 3, none⟩ = some (.int .i64 xt) ∧ w'.cell? ⟨b2, o2 + k * 5 + 4, none⟩ = some (.float .f64 xs)) := Lib.hid fun w' F => by
        have a := p5.fresh F
        have c := q5.fresh F
        exact ⟨a.1, a.2.1, a.2.2.1, a.2.2.2.1, a.2.2.2.2, c.1, c.2.1, c.2.2.1, c.2.2.2.1, c.2.2.2.2⟩
      have hki : (k : Int) < (l.length : Int) := by omega
      clear hxw p5 q5 hf
      go_wp2_with fail
      go_region_held3 (fun w' => w'.cell? ⟨b, o + k * 5, none⟩ = some (.int .i64 xi) ∧ w'.cell? ⟨b, o + k * 5 + 1, none⟩ = some (.int .i64 xc) ∧ w'.cell? ⟨b, o + k * 5 + 2, none⟩ = some (.int .i64 xm) ∧ w'.cell? ⟨b, o + k * 5 + 3, none⟩ = some (.int .i64 xt) ∧ w'.cell? ⟨b, o + k * 5 + 4, none⟩ = some (.float .f64 xs) ∧
        w'.cell? ⟨b2, o2 + k * 5, none⟩ = some (.int .i64 xi) ∧ w'.cell? ⟨b2, o2 + k * 5 + 1, none⟩ = some (.int .i64 xc) ∧ w'.cell? ⟨b2, o2 + k * 5 + 2, none⟩ = some (.int .i64 xm) ∧ w'.cell? ⟨b2, o2 + k * 5 + 3, none⟩ = some (.int .i64 xt) ∧ w'.cell? ⟨b2, o2 + k * 5 + 4, none⟩ = some (.float .f64 xs))
        (first | exact TEN.out _ (Frm.refl _ _) | exact TEN.out _ ((Frm.refl _ _).drew) | exact TEN.out _ (((Frm.refl _ _).drew).trans HF3.out))
        (first
          | (go_at_call 18; refine (HSW.out).mono ?_; rintro e w3 ⟨rfl, f3⟩; have HF3 := Lib.hid f3; clear f3))
      have HFF := Lib.hid ((HF.out.drew).trans HF3.out)
      go_wp2_with fail
      go_roundw
      case rel => exact ⟨k + 1, by omega, by go_num, HFF.out⟩
      case measure => simp [intOf]; omega
    · obtain rfl : k = l.length := by omega
      clear hf
      go_wp2_with fail
      go_ret
      exact ⟨rfl, HF.out⟩
theorem ahead_by (a b : Wt) : QueueM.ahead a b = if FareM.rank a.score b.score ≠ 0 then decide (0 < FareM.rank a.score b.score) else if a.time ≠ b.time then decide (a.time < b.time) else decide (a.id < b.id) := by
  rw [Bool.eq_iff_iff, ahead_iff, rank_eq]
  generalize QueueM.wv a.score = p
  generalize QueueM.wv b.score = q
  unfold FareM.sgnI
  split <;> (repeat' (first | omega | split at *)) <;> simp <;> omega
set_option maxHeartbeats 2000000 in
theorem refAhead_any (a b : Wt) (w : World) :
    Calls Try.prog 14 #[wagg a, wagg b] w fun e w' => e = .returned (.bool (QueueM.ahead a b)) ∧ Fresh w w' := by
  have HA := Lib.hid (ahead_by a b)
  unfold wagg
  obtain ⟨ai, ac, am, at_, as_⟩ := a
  obtain ⟨bi, bc, bm, bt, bs⟩ := b
  dsimp only at HA ⊢
  have HF : Hid (∀ o o', Fresh w ((w.alloc o).alloc o')) := Lib.hid fun o o' => ((Frm.refl _ w).alloc o).alloc o'
  have HR := Lib.hid (fun w => refRank_any as_ bs w)
  generalize FareM.rank as_ bs = r at HA HR
  rcases Bool.eq_false_or_eq_true (r != 0) with h1 | h1
  · have e := HA.out
    rw [if_pos (by simpa using h1)] at e
    have HE := Lib.hid e
    clear e
    go_enter Try.func14, Try.ntmps14
    go_wp2_with fail
    refine (HR.out _).mono ?_
    rintro e w1 ⟨rfl, rfl⟩
    go_wp2_with fail
    go_ret
    exact ⟨ret_bool HE.out.symm, HF.out _ _⟩
  · have e := HA.out
    rw [if_neg (by simpa using h1)] at e
    rcases Bool.eq_false_or_eq_true (at_ != bt) with h2 | h2
    · rw [if_pos (by simpa using h2)] at e
      have HE := Lib.hid e
      clear e
      go_enter Try.func14, Try.ntmps14
      go_wp2_with fail
      refine (HR.out _).mono ?_
      rintro e w1 ⟨rfl, rfl⟩
      go_wp2_with fail
      go_ret
      exact ⟨ret_bool HE.out.symm, HF.out _ _⟩
    · rw [if_neg (by simpa using h2)] at e
      have HE := Lib.hid e
      clear e
      go_enter Try.func14, Try.ntmps14
      go_wp2_with fail
      refine (HR.out _).mono ?_
      rintro e w1 ⟨rfl, rfl⟩
      go_wp2_with fail
      go_ret
      exact ⟨ret_bool HE.out.symm, HF.out _ _⟩
end Go.Proofs.Ythofodjklogfgaa

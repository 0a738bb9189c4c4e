/- What BinarySearchFunc computes, of a list in order. -/
import Derived.Test.YthofodjklogfgaaQueue3
import Derived.IntWalk
import Derived.BigQuiet
import Derived.Deep.QuietTactic
namespace Go.Proofs.Ythofodjklogfgaa
open Go.RowKit QueueM
attribute [local go_sem ↓] Go.wp_at_zero Go.wp_at_succ

theorem mid_of (i j h : Nat) (hh : (i + j) / 2 = h) : ((i : Int) + (j : Int)) / 2 = (h : Int) := by omega
def SearchPost (w : World) (n : Nat) (e : Ending) (w' : World) : Prop := ∃ b, e = .returned (.tuple #[.int .i64 (n : Int), .bool b]) ∧ Fresh w w'
set_option maxRecDepth 100000 in
set_option maxHeartbeats 4000000 in
theorem search_any (w : World) (A : Option Addr) (cap : Nat) (l : List Wt) (x : Wt) (hA : Rd w w.heap.size A (l.flatMap wcells)) (hl : l.length ≤ 1000) (hs : Sorted l) :
    Calls Try.prog 25 #[.slice A l.length cap, wagg x, .func (.func 26) #[] #[]] w
      fun e w' => SearchPost w (cnt x l) e w' := by
  have HA := Lib.hid hA
  have HPOS := Lib.hid (ahead_pos hs x)
  have hcl := cnt_le x l
  clear hA hs
  obtain ⟨xi, xc, xm, xt, xs⟩ := x
  have HO : Hid (∀ (y : Wt) (w : World), Calls Try.prog 26 #[.agg #[.int .i64 y.id, .int .i64 y.cls, .int .i64 y.many, .int .i64 y.time, .float .f64 y.score], .agg #[.int .i64 xi, .int .i64 xc, .int .i64 xm, .int .i64 xt, .float .f64 xs]] w
      fun e w' => e = .returned (.int .i64 (ord y ⟨xi, xc, xm, xt, xs⟩)) ∧ Fresh w w') := Lib.hid fun y w => order_any y.id y.cls y.many y.time y.score xi xc xm xt xs w
  unfold wagg
  dsimp only
  generalize hc : cnt ⟨xi, xc, xm, xt, xs⟩ l = c at HPOS hcl
  clear hc
  go_enter Try.func25, Try.ntmps25
  go_wp2_with fail
  obtain ⟨w0, hw0⟩ : ∃ w0, w.alloc (.cells #[.int .i64 xi, .int .i64 xc, .int .i64 xm, .int .i64 xt, .float .f64 xs] 62) = w0 := ⟨_, rfl⟩
  rw [hw0]
  have HF0 : Hid (Fresh w w0) := Lib.hid (by rw [← hw0]; exact (Frm.refl _ w).alloc _)
  have BX : Hid (∀ w', Fresh w0 w' → Five w' w.heap.size 0 ⟨xi, xc, xm, xt, xs⟩) := Lib.hid fun w' F => by
    have B1 : Blk w0 w.heap.size 62 (wcells ⟨xi, xc, xm, xt, xs⟩).toArray := by rw [← hw0]; exact Blk.new w _ _
    exact five_blk (B1.frm F (fun f => f))
  clear hw0
  go_loopw [9, 10] (fun v9 v10 wr => ∃ i j : Nat, i ≤ c ∧ c ≤ j ∧ j ≤ l.length ∧ v9 = .int .i64 (i : Int) ∧ v10 = .int .i64 (j : Int) ∧ Fresh w0 wr) (fun v9 v10 _ => (intOf v10).toNat - (intOf v9).toNat)
  case atStart => exact ⟨0, l.length, by omega, hcl, by omega, rfl, rfl, Frm.refl _ _⟩
  case round =>
    obtain ⟨i, j, hi, hj, hjl, rfl, rfl, hf⟩ := hrel
    have HF := Lib.hid hf
    have hi0 : (0 : Int) ≤ (i : Int) := by omega
    have hj0 : (0 : Int) ≤ (j : Int) := by omega
    have hib : (i : Int) ≤ 1000 := by omega
    have hjb : (j : Int) ≤ 1000 := by omega
    by_cases hlt : i < j
    · obtain ⟨h, hh⟩ : ∃ h, (i + j) / 2 = h := ⟨_, rfl⟩
      have hih : i ≤ h := by omega
      have hhj : h < j := by omega
      have hmid := mid_of i j h hh
      clear hh
      obtain ⟨b, o, rfl, _, h5⟩ := five_at ((HA.out.fresh (Nat.le_refl _) (HF0.out.trans hf)).more (HF0.out.trans hf).size) (i := h) (by omega)
      have hpos := HPOS.out h (by omega)
      obtain ⟨y, hy⟩ : ∃ y, y = l[h] := ⟨_, rfl⟩
      rw [← hy] at h5 hpos
      clear hy
      have HO1 := Lib.hid (fun w => HO.out y w)
      obtain ⟨yi, yc, ym, yt, ys⟩ := y
      have CELL : Hid (∀ w', Fresh wr w' → w'.cell? ⟨b, o + h * 5, none⟩ = some (.int .i64 yi) ∧ w'.cell? ⟨b, o + h * 5 + 1, none⟩ = some (.int .i64 yc) ∧ w'.cell? ⟨b, o + h * 5 + 2, none⟩ = some (.int .i64 ym) ∧ w'.cell? ⟨b, o + h * 5 + 3, none⟩ = some (.int .i64 yt) ∧ w'.cell? ⟨b, o + h * 5 + 4, none⟩ = some (.float .f64 ys) ∧ w'.cell? ⟨w.heap.size, 0, none⟩ = some (.int .i64 xi) ∧ w'.cell? ⟨w.heap.size, 1, none⟩ = some (.int .i64 xc) ∧ w'.cell? ⟨w.heap.size, 2, none⟩ = some (.int .i64 xm) ∧ w'.cell? ⟨w.heap.size, 3, none⟩ = some (.int .i64 xt) ∧ w'.cell? ⟨w.heap.size, 4, none⟩ = some (.float .f64 xs)) := Lib.hid fun w' F => by
        have a := h5.fresh F
        have c := BX.out w' (HF.out.trans F)
        exact ⟨a.1, a.2.1, a.2.2.1, a.2.2.2.1, a.2.2.2.2, c.1, c.2.1, c.2.2.1, c.2.2.2.1, c.2.2.2.2⟩
      clear h5 hf
      have hlti : (i : Int) < (j : Int) := by omega
      have hhl : (h : Int) < (l.length : Int) := by omega
      have hhl2 : h < l.length := by omega
      have hh0 : (0 : Int) ≤ (h : Int) := by omega
      go_wp2_with fail
      go_region_held3 (fun w' => w'.cell? ⟨b, o + h * 5, none⟩ = some (.int .i64 yi) ∧ w'.cell? ⟨b, o + h * 5 + 1, none⟩ = some (.int .i64 yc) ∧ w'.cell? ⟨b, o + h * 5 + 2, none⟩ = some (.int .i64 ym) ∧ w'.cell? ⟨b, o + h * 5 + 3, none⟩ = some (.int .i64 yt) ∧ w'.cell? ⟨b, o + h * 5 + 4, none⟩ = some (.float .f64 ys) ∧
        w'.cell? ⟨w.heap.size, 0, none⟩ = some (.int .i64 xi) ∧ w'.cell? ⟨w.heap.size, 1, none⟩ = some (.int .i64 xc) ∧ w'.cell? ⟨w.heap.size, 2, none⟩ = some (.int .i64 xm) ∧ w'.cell? ⟨w.heap.size, 3, none⟩ = some (.int .i64 xt) ∧ w'.cell? ⟨w.heap.size, 4, none⟩ = some (.float .f64 xs))
        (first | exact CELL.out _ (Frm.refl _ _) | exact CELL.out _ ((Frm.refl _ _).drew) | exact CELL.out _ (((Frm.refl _ _).drew).trans HF5.out))
        (first
          | (go_at_call 26; show Calls _ _ #[.agg #[.int .i64 yi, .int .i64 yc, .int .i64 ym, .int .i64 yt, .float .f64 ys], .agg #[.int .i64 xi, .int .i64 xc, .int .i64 xm, .int .i64 xt, .float .f64 xs]] wr.drew _; refine (HO1.out _).mono ?_; rintro e w5 ⟨rfl, f5⟩; have HF5 := Lib.hid f5; clear f5))
      have HF6 := Lib.hid ((HF.out.drew).trans HF5.out)
      by_cases hhc : h < c
      · have ho : ord ⟨yi, yc, ym, yt, ys⟩ ⟨xi, xc, xm, xt, xs⟩ < 0 := by
          rw [show decide (h < c) = true by simpa using hhc] at hpos
          simpa [QueueM.ahead] using hpos
        generalize ord ⟨yi, yc, ym, yt, ys⟩ ⟨xi, xc, xm, xt, xs⟩ = r at ho
        clear hpos hmid
        go_wp2_with fail
        go_roundw
        case rel => exact ⟨h + 1, j, by omega, hj, hjl, by go_num, rfl, HF6.out⟩
        case measure => simp [intOf]; omega
      · have ho : ¬ ord ⟨yi, yc, ym, yt, ys⟩ ⟨xi, xc, xm, xt, xs⟩ < 0 := by
          rw [show decide (h < c) = false by simpa using hhc] at hpos
          simpa [QueueM.ahead] using hpos
        generalize ord ⟨yi, yc, ym, yt, ys⟩ ⟨xi, xc, xm, xt, xs⟩ = r at ho
        clear hpos hmid
        go_wp2_with fail
        go_roundw
        case rel => exact ⟨i, h, hi, by omega, by omega, rfl, rfl, HF6.out⟩
        case measure => simp [intOf]; omega
    · obtain rfl : i = c := by omega
      have hlti : ¬ (i : Int) < (j : Int) := by omega
      by_cases hin : i < l.length
      · obtain ⟨b, o, rfl, _, h5⟩ := five_at ((HA.out.fresh (Nat.le_refl _) (HF0.out.trans hf)).more (HF0.out.trans hf).size) (i := i) hin
        obtain ⟨y, hy⟩ : ∃ y, y = l[i] := ⟨_, rfl⟩
        rw [← hy] at h5
        clear hy
        have HO1 := Lib.hid (fun w => HO.out y w)
        obtain ⟨yi, yc, ym, yt, ys⟩ := y
        have CELL : Hid (∀ w', Fresh wr w' → w'.cell? ⟨b, o + i * 5, none⟩ = some (.int .i64 yi) ∧ w'.cell? ⟨b, o + i * 5 + 1, none⟩ = some (.int .i64 yc) ∧ w'.cell? ⟨b, o + i * 5 + 2, none⟩ = some (.int .i64 ym) ∧ w'.cell? ⟨b, o + i * 5 + 3, none⟩ = some (.int .i64 yt) ∧ w'.cell? ⟨b, o + i * 5 + 4, none⟩ = some (.float .f64 ys) ∧ w'.cell? ⟨w.heap.size, 0, none⟩ = some (.int .i64 xi) ∧ w'.cell? ⟨w.heap.size, 1, none⟩ = some (.int .i64 xc) ∧ w'.cell? ⟨w.heap.size, 2, none⟩ = some (.int .i64 xm) ∧ w'.cell? ⟨w.heap.size, 3, none⟩ = some (.int .i64 xt) ∧ w'.cell? ⟨w.heap.size, 4, none⟩ = some (.float .f64 xs)) := Lib.hid fun w' F => by
          have a := h5.fresh F
          have c := BX.out w' (HF.out.trans F)
          exact ⟨a.1, a.2.1, a.2.2.1, a.2.2.2.1, a.2.2.2.2, c.1, c.2.1, c.2.2.1, c.2.2.2.1, c.2.2.2.2⟩
        clear h5 hf
        have hhl : (i : Int) < (l.length : Int) := by omega
        go_wp2_with fail
        go_region_held3 (fun w' => w'.cell? ⟨b, o + i * 5, none⟩ = some (.int .i64 yi) ∧ w'.cell? ⟨b, o + i * 5 + 1, none⟩ = some (.int .i64 yc) ∧ w'.cell? ⟨b, o + i * 5 + 2, none⟩ = some (.int .i64 ym) ∧ w'.cell? ⟨b, o + i * 5 + 3, none⟩ = some (.int .i64 yt) ∧ w'.cell? ⟨b, o + i * 5 + 4, none⟩ = some (.float .f64 ys) ∧
        w'.cell? ⟨w.heap.size, 0, none⟩ = some (.int .i64 xi) ∧ w'.cell? ⟨w.heap.size, 1, none⟩ = some (.int .i64 xc) ∧ w'.cell? ⟨w.heap.size, 2, none⟩ = some (.int .i64 xm) ∧ w'.cell? ⟨w.heap.size, 3, none⟩ = some (.int .i64 xt) ∧ w'.cell? ⟨w.heap.size, 4, none⟩ = some (.float .f64 xs))
          (first | exact CELL.out _ (Frm.refl _ _) | exact CELL.out _ ((Frm.refl _ _).drew) | exact CELL.out _ (((Frm.refl _ _).drew).trans HF5.out))
          (first
            | (go_at_call 26; show Calls _ _ #[.agg #[.int .i64 yi, .int .i64 yc, .int .i64 ym, .int .i64 yt, .float .f64 ys], .agg #[.int .i64 xi, .int .i64 xc, .int .i64 xm, .int .i64 xt, .float .f64 xs]] wr.drew _; refine (HO1.out _).mono ?_; rintro e w5 ⟨rfl, f5⟩; have HF5 := Lib.hid f5; clear f5))
        have HF6 := Lib.hid (HF0.out.trans ((HF.out.drew).trans HF5.out))
        go_wp2_with fail
        go_ret2
        exact ⟨_, rfl, HF6.out⟩
      · have hil : i = l.length := by omega
        have hni : decide (i < l.length) = false := by simp; omega
        have hni2 : ¬ (i : Int) < (l.length : Int) := by omega
        clear hil
        go_wp2_with fail
        go_quiet (fail)
        go_wp2_with fail
        go_ret2
        exact ⟨_, rfl, (HF0.out.trans HF.out).drewN _⟩
end Go.Proofs.Ythofodjklogfgaa

/- What place computes. -/
import Derived.Test.YthofodjklogfgaaQueue2
import Derived.Test.YthofodjklogfgaaWaits
namespace Go.Proofs.Ythofodjklogfgaa
open Go.RowKit QueueM

theorem placed_any (x : Wt) (g : Nat) (id : Int) (w : World) (hg : Blk w g 3 #[.int .i64 id]) :
    Calls Try.prog 47 #[wagg x, .pointer (some ⟨g, 0, none⟩)] w fun e w' => e = .returned (.bool (decide (x.id = id))) ∧ Fresh w w' := by
  have hc : w.cell? ⟨g, 0, none⟩ = some (.int .i64 id) := hg.cell 0
  have hlt := hg.lt
  have F := (Frm.refl (fun _ => False) w).alloc (.cells #[.int .i64 x.id, .int .i64 x.cls, .int .i64 x.many, .int .i64 x.time, .float .f64 x.score] 62)
  have HF := Lib.hid F
  clear hg F
  unfold wagg
  go_enter Try.func47, Try.ntmps47
  go_wp2_with fail
  go_ret
  exact ⟨ret_bool (by first | rfl | simp), HF.out⟩
set_option maxHeartbeats 1000000 in
theorem indexFunc_any (w : World) (A : Option Addr) (cap : Nat) (l : List Wt) (g : Nat) (id : Int) (hA : Rd w w.heap.size A (l.flatMap wcells)) (hg : Blk w g 3 #[.int .i64 id]) (hl : l.length ≤ 1000) :
    Calls Try.prog 46 #[.slice A l.length cap, .func (.func 47) #[] #[.pointer (some ⟨g, 0, none⟩)]] w
      fun e w' => e = .returned (.int .i64 (plc id l)) ∧ Fresh w w' := by
  have HA := Lib.hid hA
  have HG := Lib.hid hg
  clear hA hg
  go_enter Try.func46, Try.ntmps46
  go_wp2_with fail
  go_loopw [8] (fun v8 wr => ∃ i : Nat, i ≤ l.length ∧ v8 = .int .i64 (i : Int) ∧ (∀ j (hj : j < l.length), j < i → l[j].id ≠ id) ∧ Fresh w wr) (fun v8 _ => l.length - (intOf v8).toNat)
  case atStart => exact ⟨0, by omega, rfl, fun _ _ h => by omega, Frm.refl _ _⟩
  case round =>
    obtain ⟨i, hi, rfl, hno, hf⟩ := hrel
    have HNO := Lib.hid hno
    have HF := Lib.hid hf
    clear hno
    have hi0 : (0 : Int) ≤ (i : Int) := by omega
    by_cases hlt : i < l.length
    · obtain ⟨b, o, rfl, _, h5⟩ := five_at ((HA.out.fresh (Nat.le_refl _) hf).more hf.size) hlt
      have HP := Lib.hid (placed_any l[i] g id wr (HG.out.frm hf (fun f => f)))
      obtain ⟨x, hx⟩ : ∃ x, x = l[i] := ⟨_, rfl⟩
      have HX := Lib.hid hx
      rw [← hx] at h5 HP
      clear hx
      obtain ⟨c0, c1, c2, c3, c4⟩ := h5
      have hlti : (i : Int) < (l.length : Int) := by omega
      unfold wagg at HP
      obtain ⟨xi, xc, xm, xt, xs⟩ := x
      dsimp only at HP c0 c1 c2 c3 c4
      clear hf
      by_cases hid : xi = id
      · have HID := Lib.hid hid
        have hb : decide (xi = id) = true := by simpa using hid
        rw [hb] at HP
        clear hid hb
        go_wp2_with fail
        refine HP.out.mono ?_
        rintro e w1 ⟨rfl, f1⟩
        have HF1 := Lib.hid (HF.out.trans f1)
        clear f1
        go_wp2_with fail
        go_ret
        exact ⟨ret_i64 (plc_at hlt HNO.out (by rw [← HX.out]; exact HID.out)).symm, HF1.out⟩
      · have HID := Lib.hid hid
        have hb : decide (xi = id) = false := by simpa using hid
        rw [hb] at HP
        clear hid hb
        go_wp2_with fail
        refine HP.out.mono ?_
        rintro e w1 ⟨rfl, f1⟩
        have HF1 := Lib.hid (HF.out.trans f1)
        clear f1
        go_wp2_with fail
        go_roundw
        case rel =>
          refine ⟨i + 1, by omega, by go_num, fun j hj hji => ?_, HF1.out⟩
          rcases Nat.lt_or_ge j i with h | h
          · exact HNO.out j hj h
          · obtain rfl : j = i := by omega
            rw [← HX.out]; exact HID.out
        case measure => simp [intOf]; omega
    · have hlti : ¬ (i : Int) < (l.length : Int) := by omega
      clear hf
      go_wp2_with fail
      go_ret
      exact ⟨ret_i64 (plc_none (fun j hj => HNO.out j hj (by omega))).symm, HF.out⟩
/-- a list of the program: its block, its slice -/
structure IsQ (w : World) (B b : Nat) (v : Value) (l : List Wt) : Prop where
  blk : Blk w b 60 #[v]
  ge : B ≤ b
  sl : Sl w B 62 5 v l.length (l.flatMap wcells)
theorem place_any (w : World) (B b : Nat) (v : Value) (l : List Wt) (id : Int) (h : IsQ w B b v l) (hl : l.length ≤ 1000) :
    Calls Try.prog 24 #[.pointer (some ⟨b, 0, none⟩), .int .i64 id] w fun e w' => e = .returned (.int .i64 (plc id l)) ∧ Fresh w w' := by
  obtain ⟨A, cap, rfl, _, _, _⟩ := h.sl.shape
  have hc : w.cell? ⟨b, 0, none⟩ = some (.slice A l.length cap) := h.blk.cell 0
  have hlt := h.blk.lt
  have F := (Frm.refl (fun _ => False) w).alloc (.cells #[.int .i64 id] 3)
  have HF := Lib.hid F
  have HI := Lib.hid (indexFunc_any (w.alloc (.cells #[.int .i64 id] 3)) A cap l w.heap.size id ((h.sl.rd.alloc (Nat.le_refl _) _).more F.size) (Blk.new w _ _) hl)
  clear h F
  go_enter Try.func24, Try.ntmps24
  go_wp2_with fail
  refine HI.out.mono ?_
  rintro e w1 ⟨rfl, f1⟩
  have HF1 := Lib.hid (HF.out.trans f1)
  clear f1
  go_wp2_with fail
  go_ret
  exact ⟨rfl, HF1.out⟩
end Go.Proofs.Ythofodjklogfgaa

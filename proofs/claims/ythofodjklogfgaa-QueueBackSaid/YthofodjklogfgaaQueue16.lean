/- First of the program's list. -/
import Derived.Test.YthofodjklogfgaaQueue12
namespace Go.Proofs.Ythofodjklogfgaa
open Go.RowKit QueueM
attribute [local go_sem] run_store_float

def fval (o : Option Wt) : Value := match o with
  | some x => .tuple #[wagg x, .bool true]
  | none => .tuple #[wagg ⟨0, 0, 0, 0, 0⟩, .bool false]
theorem first_at {left : List Int} {l : List Wt} {i : Nat} (h : i < l.length) (no : ∀ j (hj : j < l.length), j < i → room left l[j] = false) (yes : room left l[i] = true) : first left l = some l[i] := by
  unfold first
  rw [List.find?_eq_some_iff_getElem]
  exact ⟨yes, i, h, rfl, fun j hj => by rw [no j (by omega) hj]; rfl⟩
theorem first_none {left : List Int} {l : List Wt} (no : ∀ j (hj : j < l.length), room left l[j] = false) : first left l = none := by
  unfold first
  rw [List.find?_eq_none]
  intro x hx
  obtain ⟨j, hj, rfl⟩ := List.mem_iff_getElem.1 hx
  rw [no j hj]
  simp
theorem left_at {w : World} {B : Nat} {A : Option Addr} {zs : List Int} (h : Rd w B A (zs.map (Value.int .i64))) {k : Nat} (hk : k < zs.length) : ∃ b o, A = some ⟨b, o, none⟩ ∧ w.cell? ⟨b, o + k, none⟩ = some (.int .i64 (zs.getD k 0)) := by
  obtain ⟨b, o, hA, _, hc⟩ := h.at_ (k := k) (by simpa using hk)
  exact ⟨b, o, hA, by rw [hc]; simp [List.getD, hk]⟩
def FirstPost (w : World) (o : Option Wt) (e : Ending) (w' : World) : Prop := e = .returned (fval o) ∧ Fresh w w'
set_option maxRecDepth 100000 in
set_option maxHeartbeats 8000000 in
theorem first_any (w : World) (B b : Nat) (v : Value) (l : List Wt) (A : Option Addr) (cap : Nat) (zs : List Int) (h : IsQ w B b v l) (hl : l.length ≤ 1000) (hr : ∀ x ∈ l, right x = true) (hA : Rd w w.heap.size A (zs.map (Value.int .i64))) (hz : zs.length ≤ 9223372036854775807) :
    Calls Try.prog 17 #[.pointer (some ⟨b, 0, none⟩), .slice A zs.length cap] w fun e w' => FirstPost w (first zs l) e w' := by
  have HQ := Lib.hid h
  have HA := Lib.hid hA
  have HR := Lib.hid hr
  obtain ⟨A1, c1, rfl, _, _, _⟩ := h.sl.shape
  have hc0 : w.cell? ⟨b, 0, none⟩ = some (.slice A1 l.length c1) := h.blk.cell 0
  have hblt := h.blk.lt
  have HL := Lib.hid h.sl.rd
  clear h hA hr
  go_enter Try.func17, Try.ntmps17
  go_wp2_with fail
  obtain ⟨w0, hw0⟩ : ∃ w0, w.alloc (.cells #[.int .i64 0, .int .i64 0, .int .i64 0, .int .i64 0, .float .f64 0] 28) = w0 := ⟨_, rfl⟩
  rw [hw0]
  have HF0 : Hid (Fresh w w0) := Lib.hid (by rw [← hw0]; exact (Frm.refl _ w).alloc _)
  have BX : Hid (Blk w0 w.heap.size 28 (wcells ⟨0, 0, 0, 0, 0⟩).toArray) := Lib.hid (by rw [← hw0]; exact Blk.new w _ _)
  clear hw0 hc0
  go_loopw [13] (fun v13 wr => ∃ i : Nat, i ≤ l.length ∧ v13 = .int .i64 (i : Int) ∧ (∀ j (hj : j < l.length), j < i → room zs l[j] = false) ∧ Fresh w0 wr) (fun v13 _ => l.length - (intOf v13).toNat)
  case atStart => exact ⟨0, by omega, rfl, fun _ _ h => by omega, Frm.refl _ _⟩
  case round =>
    obtain ⟨i, hi, rfl, hno, hf⟩ := hrel
    have HNO := Lib.hid hno
    have HF := Lib.hid hf
    have hi0 : (0 : Int) ≤ (i : Int) := by omega
    clear hno
    by_cases hlt : i < l.length
    · obtain ⟨bl, ol, rfl, _, p5⟩ := five_at ((HL.out.fresh (Nat.le_refl _) (HF0.out.trans hf)).more (HF0.out.trans hf).size) hlt
      have hrt := (right_iff _).1 (HR.out _ (List.getElem_mem hlt))
      have HAT : Hid (∀ x, x = l[i] → room zs x = true → first zs l = some x) := Lib.hid fun x hx hr => by subst hx; exact first_at hlt HNO.out hr
      have HNX : Hid (∀ x, x = l[i] → room zs x = false → ∀ j (hj : j < l.length), j < i + 1 → room zs l[j] = false) := Lib.hid fun x hx hr j hj hji => by
        rcases Nat.lt_or_ge j i with h | h
        · exact HNO.out j hj h
        · obtain rfl : j = i := by omega
          rw [← hx]; exact hr
      obtain ⟨x, hx⟩ : ∃ x, x = l[i] := ⟨_, rfl⟩
      have HX := Lib.hid hx
      rw [← hx] at p5 hrt
      clear hx
      obtain ⟨xi, xc, xm, xt, xs⟩ := x
      obtain ⟨c0, c1', c2, c3, c4⟩ := p5
      dsimp only at c0 c1' c2 c3 c4 hrt
      obtain ⟨c, rfl⟩ := Int.eq_ofNat_of_zero_le hrt.2.2.1
      have hc0 : (0 : Int) ≤ (c : Int) := by omega
      have hlti : (i : Int) < (l.length : Int) := by omega
      go_wp2_with fail
      obtain ⟨W, hW⟩ : ∃ W, wr.alloc (.cells #[.int .i64 xi, .int .i64 (c : Int), .int .i64 xm, .int .i64 xt, .float .f64 xs] 62) = W := ⟨_, rfl⟩
      rw [hW]
      have FW : Fresh w0 W := by rw [← hW]; exact hf.alloc _
      have BW : Five W wr.heap.size 0 ⟨xi, (c : Int), xm, xt, xs⟩ := by
        have : Blk W wr.heap.size 62 (wcells ⟨xi, (c : Int), xm, xt, xs⟩).toArray := by rw [← hW]; exact Blk.new wr _ _
        exact five_blk this
      have BR : Blk W w.heap.size 28 (wcells ⟨0, 0, 0, 0, 0⟩).toArray := BX.out.frm FW (fun f => f)
      have HFW := Lib.hid (HF0.out.trans FW)
      have HFW0 := Lib.hid FW
      have d0 : ∀ n, (W.drewN n).cell? ⟨wr.heap.size, 0, none⟩ = some (.int .i64 xi) := fun _ => BW.1
      have d1 : ∀ n, (W.drewN n).cell? ⟨wr.heap.size, 1, none⟩ = some (.int .i64 (c : Int)) := fun _ => BW.2.1
      have d2 : ∀ n, (W.drewN n).cell? ⟨wr.heap.size, 2, none⟩ = some (.int .i64 xm) := fun _ => BW.2.2.1
      have d3 : ∀ n, (W.drewN n).cell? ⟨wr.heap.size, 3, none⟩ = some (.int .i64 xt) := fun _ => BW.2.2.2.1
      have d4 : ∀ n, (W.drewN n).cell? ⟨wr.heap.size, 4, none⟩ = some (.float .f64 xs) := fun _ => BW.2.2.2.2
      have r0 : ∀ n, (W.drewN n).cell? ⟨w.heap.size, 0, none⟩ = some (.int .i64 0) := fun _ => BR.cell 0
      have r1 : ∀ n, (W.drewN n).cell? ⟨w.heap.size, 1, none⟩ = some (.int .i64 0) := fun _ => BR.cell 1
      have r2 : ∀ n, (W.drewN n).cell? ⟨w.heap.size, 2, none⟩ = some (.int .i64 0) := fun _ => BR.cell 2
      have r3 : ∀ n, (W.drewN n).cell? ⟨w.heap.size, 3, none⟩ = some (.int .i64 0) := fun _ => BR.cell 3
      have r4 : ∀ n, (W.drewN n).cell? ⟨w.heap.size, 4, none⟩ = some (.float .f64 0) := fun _ => BR.cell 4
      have rz : ∀ n i, (W.drewN n).frozen? ⟨w.heap.size, i, none⟩ = false := fun _ _ => BR.frozen _
      have HBR := Lib.hid BR
      clear BW BR hW FW hf c0 c1' c2 c3 c4 hrt
      by_cases hcl : c < zs.length
      · obtain ⟨bz, oz, rfl, hz1⟩ := left_at ((HA.out.fresh (Nat.le_refl _) HFW.out).more HFW.out.size) hcl
        have z1 : ∀ n, (W.drewN n).cell? ⟨bz, oz + c, none⟩ = some (.int .i64 (zs.getD c 0)) := fun _ => hz1
        have hcli : (c : Int) < (zs.length : Int) := by omega
        have HROOM : Hid (room zs ⟨xi, (c : Int), xm, xt, xs⟩ = decide (xm ≤ zs.getD c 0)) := Lib.hid (by unfold room; simp [hcl])
        generalize zs.getD c 0 = z at z1 HROOM
        clear hz1
        by_cases hm : xm ≤ z
        · have hyes : room zs ⟨xi, (c : Int), xm, xt, xs⟩ = true := by rw [HROOM.out]; simpa using hm
          have HFI := Lib.hid (HAT.out _ HX.out hyes)
          clear hyes
          go_wp2_with fail
          go_quiet (fail)
          rename_i nq
          go_wp2_with fail
          have HFZ : Hid (Fresh w ((((((W.drewN nq).setCell ⟨w.heap.size, 0, none⟩ (.int .i64 xi)).setCell ⟨w.heap.size, 1, none⟩ (.int .i64 (c : Int))).setCell ⟨w.heap.size, 2, none⟩ (.int .i64 xm)).setCell ⟨w.heap.size, 3, none⟩ (.int .i64 xt)).setCell ⟨w.heap.size, 4, none⟩ (.float .f64 xs))) := Lib.hid (by
            exact ((((HFW.out.drewN nq).setCell (p := ⟨w.heap.size, 0, none⟩) (fun h => by simp at h) _).setCell (p := ⟨w.heap.size, 1, none⟩) (fun h => by simp at h) _).setCell (p := ⟨w.heap.size, 2, none⟩) (fun h => by simp at h) _ |>.setCell (p := ⟨w.heap.size, 3, none⟩) (fun h => by simp at h) _).setCell (p := ⟨w.heap.size, 4, none⟩) (fun h => by simp at h) _)
          have BZ : Blk ((((((W.drewN nq).setCell ⟨w.heap.size, 0, none⟩ (.int .i64 xi)).setCell ⟨w.heap.size, 1, none⟩ (.int .i64 (c : Int))).setCell ⟨w.heap.size, 2, none⟩ (.int .i64 xm)).setCell ⟨w.heap.size, 3, none⟩ (.int .i64 xt)).setCell ⟨w.heap.size, 4, none⟩ (.float .f64 xs)) w.heap.size 28 (wcells ⟨xi, (c : Int), xm, xt, xs⟩).toArray := (((((show Blk (W.drewN nq) _ _ _ from HBR.out).set 0 _).set 1 _).set 2 _).set 3 _).set 4 _
          generalize (((((W.drewN nq).setCell ⟨w.heap.size, 0, none⟩ (.int .i64 xi)).setCell ⟨w.heap.size, 1, none⟩ (.int .i64 (c : Int))).setCell ⟨w.heap.size, 2, none⟩ (.int .i64 xm)).setCell ⟨w.heap.size, 3, none⟩ (.int .i64 xt)).setCell ⟨w.heap.size, 4, none⟩ (.float .f64 xs) = Z at HFZ BZ ⊢
          obtain ⟨y0, y1, y2, y3, y4⟩ := five_blk BZ
          dsimp only at y0 y1 y2 y3 y4
          exact bodyPost_ret (v := .tuple #[.agg #[.int .i64 xi, .int .i64 (c : Int), .int .i64 xm, .int .i64 xt, .float .f64 xs], .bool true]) (by simp [results, Try.results17, go_sem, y0, y1, y2, y3, y4]) rfl ⟨by rw [HFI.out]; rfl, HFZ.out⟩
        · have hnot : room zs ⟨xi, (c : Int), xm, xt, xs⟩ = false := by rw [HROOM.out]; simpa using hm
          have HNX2 := Lib.hid (HNX.out _ HX.out hnot)
          clear hnot
          go_wp2_with fail
          go_quiet (fail)
          go_wp2_with fail
          go_roundw
          case rel => exact ⟨i + 1, by omega, by go_num, HNX2.out, HFW0.out.drewN _⟩
          case measure => simp [intOf]; omega
      · have hnot : room zs ⟨xi, (c : Int), xm, xt, xs⟩ = false := by
          unfold room
          have : decide ((c : Int) < (zs.length : Int)) = false := by simp; omega
          rw [this]; rfl
        have HNX2 := Lib.hid (HNX.out _ HX.out hnot)
        have hd1 : decide ((c : Int) < (zs.length : Int)) = false := by simp; omega
        have hd2 : decide (c < zs.length) = false := by simp; omega
        clear hnot
        go_wp2_with fail
        go_quiet (fail)
        go_wp2_with fail
        go_roundw
        case rel => exact ⟨i + 1, by omega, by go_num, HNX2.out, HFW0.out.drewN _⟩
        case measure => simp [intOf]; omega
    · have HFN := Lib.hid (first_none (left := zs) (l := l) (fun j hj => HNO.out j hj (by omega)))
      have hlti : ¬ (i : Int) < (l.length : Int) := by omega
      have BR : Blk wr w.heap.size 28 (wcells ⟨0, 0, 0, 0, 0⟩).toArray := BX.out.frm hf (fun f => f)
      have r0 : wr.cell? ⟨w.heap.size, 0, none⟩ = some (.int .i64 0) := BR.cell 0
      have r1 : wr.cell? ⟨w.heap.size, 1, none⟩ = some (.int .i64 0) := BR.cell 1
      have r2 : wr.cell? ⟨w.heap.size, 2, none⟩ = some (.int .i64 0) := BR.cell 2
      have r3 : wr.cell? ⟨w.heap.size, 3, none⟩ = some (.int .i64 0) := BR.cell 3
      have r4 : wr.cell? ⟨w.heap.size, 4, none⟩ = some (.float .f64 0) := BR.cell 4
      have rz : ∀ i, wr.frozen? ⟨w.heap.size, i, none⟩ = false := fun _ => BR.frozen _
      have HFW := Lib.hid (HF0.out.trans hf)
      have HBR := Lib.hid BR
      clear BR hf
      go_wp2_with fail
      have HFZ : Hid (Fresh w (((((wr.setCell ⟨w.heap.size, 0, none⟩ (.int .i64 0)).setCell ⟨w.heap.size, 1, none⟩ (.int .i64 0)).setCell ⟨w.heap.size, 2, none⟩ (.int .i64 0)).setCell ⟨w.heap.size, 3, none⟩ (.int .i64 0)).setCell ⟨w.heap.size, 4, none⟩ (.float .f64 0))) := Lib.hid (by
        exact (((HFW.out.setCell (p := ⟨w.heap.size, 0, none⟩) (fun h => by simp at h) _).setCell (p := ⟨w.heap.size, 1, none⟩) (fun h => by simp at h) _).setCell (p := ⟨w.heap.size, 2, none⟩) (fun h => by simp at h) _ |>.setCell (p := ⟨w.heap.size, 3, none⟩) (fun h => by simp at h) _).setCell (p := ⟨w.heap.size, 4, none⟩) (fun h => by simp at h) _)
      have BZ : Blk (((((wr.setCell ⟨w.heap.size, 0, none⟩ (.int .i64 0)).setCell ⟨w.heap.size, 1, none⟩ (.int .i64 0)).setCell ⟨w.heap.size, 2, none⟩ (.int .i64 0)).setCell ⟨w.heap.size, 3, none⟩ (.int .i64 0)).setCell ⟨w.heap.size, 4, none⟩ (.float .f64 0)) w.heap.size 28 (wcells ⟨0, 0, 0, 0, 0⟩).toArray := ((((HBR.out.set 0 _).set 1 _).set 2 _).set 3 _).set 4 _
      generalize ((((wr.setCell ⟨w.heap.size, 0, none⟩ (.int .i64 0)).setCell ⟨w.heap.size, 1, none⟩ (.int .i64 0)).setCell ⟨w.heap.size, 2, none⟩ (.int .i64 0)).setCell ⟨w.heap.size, 3, none⟩ (.int .i64 0)).setCell ⟨w.heap.size, 4, none⟩ (.float .f64 0) = Z at HFZ BZ ⊢
      obtain ⟨y0, y1, y2, y3, y4⟩ := five_blk BZ
      dsimp only at y0 y1 y2 y3 y4
      exact bodyPost_ret (v := .tuple #[.agg #[.int .i64 0, .int .i64 0, .int .i64 0, .int .i64 0, .float .f64 0], .bool false]) (by simp [results, Try.results17, go_sem, y0, y1, y2, y3, y4]) rfl ⟨by rw [HFN.out]; rfl, HFZ.out⟩
end Go.Proofs.Ythofodjklogfgaa

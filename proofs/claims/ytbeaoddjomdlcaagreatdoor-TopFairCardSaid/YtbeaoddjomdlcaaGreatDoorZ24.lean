/- Proved here, for the statement TopFairCardSaid: laws that its walk leans on. It holds with no condition. (Put together and shortened by a program out of many texts: Queue12, Queue16, Queue17.) -/
import Derived.Test.YtbeaoddjomdlcaaGreatDoorZ22
import Derived.Test.YtbeaoddjomdlcaaGreatDoorZ23
set_option linter.unusedVariables false
set_option linter.unusedSimpArgs false
set_option maxRecDepth 100000
set_option maxHeartbeats 64000000
namespace Go.Proofs.YtbeaoddjomdlcaaGreatDoor
section
open Go.RowKit QueueM
attribute [local go_sem] run_store_float
theorem IsQ.frm {w w' : World} {B b : Nat} {v : Value} {l : List Wt} {S : Nat → Prop} (h : IsQ w B b v l) (F : Frm S w w') (hb : ¬ S b) (hv : ∀ k, v.ownBlock = some k → ¬ S k) : IsQ w' B b v l := ⟨h.blk.frm F hb, h.ge, h.sl.frm F hv⟩
theorem IsQ.apart {w : World} {B b : Nat} {v : Value} {l : List Wt} {b' : Nat} {v' : Value} {l' : List Wt} {B' : Nat} (h : IsQ w B b v l) (h' : IsQ w B' b' v' l') : v.ownBlock ≠ some b' := h.sl.apart h'.blk (by decide)
theorem IsQ.less {w : World} {B B' b : Nat} {v : Value} {l : List Wt} (h : IsQ w B b v l) (hB : B' ≤ B) : IsQ w B' b v l := ⟨h.blk, Nat.le_trans hB h.ge, h.sl.less hB⟩
structure Two (w : World) (b b' : Nat) (v v' : Value) (L K : List Wt) (wr : World) : Prop where
  one : IsQ wr w.heap.size b v L
  two : IsQ wr w.heap.size b' v' K
  ne : b ≠ b'
  dis : ∀ k, v.ownBlock = some k → v'.ownBlock ≠ some k
  frm : Fresh w wr
theorem Two.symm {w wr : World} {b b' : Nat} {v v' : Value} {L K : List Wt} (h : Two w b b' v v' L K wr) : Two w b' b v' v K L wr := ⟨h.two, h.one, fun e => h.ne e.symm, fun k h1 h2 => h.dis k h2 h1, h.frm⟩
theorem Two.fresh {w wr w2 : World} {b b' : Nat} {v v' : Value} {L K : List Wt} (h : Two w b b' v v' L K wr) (F : Fresh wr w2) : Two w b b' v v' L K w2 := ⟨h.one.fresh F, h.two.fresh F, h.ne, h.dis, h.frm.trans F⟩
theorem Two.step {w wr w2 : World} {b b' : Nat} {v v' : Value} {L L' K : List Wt} (h : Two w b b' v v' L K wr) (s : StepQ wr w.heap.size b v L' w2) : ∃ v2, Two w b b' v2 v' L' K w2 ∧ Frm (fun k => k = b ∨ v.ownBlock = some k) wr w2 := by
  obtain ⟨v2, hq, hf, ho⟩ := s
  refine ⟨v2, ⟨hq, ?_, h.ne, ?_, ?_⟩, hf⟩
  · refine h.two.frm hf (fun hh => hh.elim (fun e => h.ne e.symm) (fun e => h.one.apart h.two e)) (fun k hk hh => hh.elim (fun e => ?_) (fun e => h.dis k e hk))
    subst e
    exact h.two.apart h.one hk
  · intro k h1 h2
    rcases ho with e | ⟨m, h3, h4⟩
    · exact h.dis k (by rw [← e]; exact h1) h2
    · rw [h1] at h3
      injection h3 with h3
      have := (h.two.sl.lt k h2).2
      omega
  · refine h.frm.trans' hf (fun k hk hh => hh.elim (fun e => ?_) (fun e => ?_))
    · have := h.one.ge; omega
    · have := (h.one.sl.lt k e).1; omega
def fval (o : Option Wt) : Value := match o with
  | some x => .tuple #[wagg x, .bool true]
  | none => .tuple #[wagg ⟨0, 0, 0, 0, 0⟩, .bool false]
theorem first_at {left : List Int} {l : List Wt} {i : Nat} (h : i < l.length) (no : ∀ j (hj : j < l.length), j < i → room left l[j] = false) (yes : room left l[i] = true) : first left l = some l[i] := by
  unfold first
  rw [List.find?_eq_some_iff_getElem]
  exact ⟨yes, i, h, rfl, fun j hj => by rw [no j (by omega) hj]; rfl⟩
theorem first_none {left : List Int} {l : List Wt} (no : ∀ j (hj : j < l.length), room left l[j] = false) : first left l = none := by
  unfold first
  rw [List.find?_eq_none]
  intro x hx
  obtain ⟨j, hj, rfl⟩ := List.mem_iff_getElem.1 hx
  rw [no j hj]
  simp
theorem left_at {w : World} {B : Nat} {A : Option Addr} {zs : List Int} (h : Rd w B A (zs.map (Value.int .i64))) {k : Nat} (hk : k < zs.length) : ∃ b o, A = some ⟨b, o, none⟩ ∧ w.cell? ⟨b, o + k, none⟩ = some (.int .i64 (zs.getD k 0)) := by
  obtain ⟨b, o, hA, _, hc⟩ := h.at_ (k := k) (by simpa using hk)
  exact ⟨b, o, hA, by rw [hc]; simp [List.getD, hk]⟩
def FirstPost (w : World) (o : Option Wt) (e : Ending) (w' : World) : Prop := e = .returned (fval o) ∧ Fresh w w'
set_option maxRecDepth 100000 in
theorem first_any (w : World) (B b : Nat) (v : Value) (l : List Wt) (A : Option Addr) (cap : Nat) (zs : List Int) (h : IsQ w B b v l) (hl : l.length ≤ 1000) (hr : ∀ x ∈ l, right x = true) (hA : Rd w w.heap.size A (zs.map (Value.int .i64))) (hz : zs.length ≤ 9223372036854775807) :
    Calls Tryz.prog 62 #[.pointer (some ⟨b, 0, none⟩), .slice A zs.length cap] w fun e w' => FirstPost w (first zs l) e w' := by
  have HQ := zh h
  have HA := zh hA
  have HR := zh hr
  obtain ⟨A1, c1, rfl, _, _, _⟩ := h.sl.shape
  have hc0 : w.cell? ⟨b, 0, none⟩ = some (.slice A1 l.length c1) := h.blk.cell 0
  have hblt := h.blk.lt
  have HL := zh h.sl.rd
  clear h hA hr
  go_in
  go_wp2_with fail
  obtain ⟨w0, hw0⟩ : ∃ w0, w.alloc (.cells #[.int .i64 0, .int .i64 0, .int .i64 0, .int .i64 0, .float .f64 0] 69) = w0 := ⟨_, rfl⟩
  rw [hw0]
  have HF0 : Hid (Fresh w w0) := zh (by rw [← hw0]; exact (Frm.refl _ w).alloc _)
  have BX : Hid (Blk w0 w.heap.size 69 (wcells ⟨0, 0, 0, 0, 0⟩).toArray) := zh (by rw [← hw0]; exact Blk.new w _ _)
  clear hw0 hc0
  go_loopw [13] (fun v13 wr => ∃ i : Nat, i ≤ l.length ∧ v13 = .int .i64 (i : Int) ∧ (∀ j (hj : j < l.length), j < i → room zs l[j] = false) ∧ Fresh w0 wr) (fun v13 _ => l.length - (RowKit.intOf v13).toNat)
  case atStart => exact ⟨0, by omega, rfl, fun _ _ h => by omega, Frm.refl _ _⟩
  case round =>
    obtain ⟨i, hi, rfl, hno, hf⟩ := hrel
    have HNO := zh hno
    have HF := zh hf
    have hi0 : (0 : Int) ≤ (i : Int) := by omega
    clear hno
    by_cases hlt : i < l.length
    · obtain ⟨bl, ol, rfl, _, p5⟩ := five_at ((HL.out.fresh (Nat.le_refl _) (HF0.out.trans hf)).more (HF0.out.trans hf).size) hlt
      have hrt := (right_iff _).1 (HR.out _ (List.getElem_mem hlt))
      have HAT : Hid (∀ x, x = l[i] → room zs x = true → first zs l = some x) := zh fun x hx hr => by subst hx; exact first_at hlt HNO.out hr
      have HNX : Hid (∀ x, x = l[i] → room zs x = false → ∀ j (hj : j < l.length), j < i + 1 → room zs l[j] = false) := zh fun x hx hr j hj hji => by
        rcases Nat.lt_or_ge j i with h | h
        · exact HNO.out j hj h
        · obtain rfl : j = i := by omega
          rw [← hx]; exact hr
      obtain ⟨x, hx⟩ : ∃ x, x = l[i] := ⟨_, rfl⟩
      have HX := zh hx
      rw [← hx] at p5 hrt
      clear hx
      obtain ⟨xi, xc, xm, xt, xs⟩ := x
      obtain ⟨c0, c1', c2, c3, c4⟩ := p5
      dsimp only at c0 c1' c2 c3 c4 hrt
      obtain ⟨c, rfl⟩ := Int.eq_ofNat_of_zero_le hrt.2.2.1
      have hc0 : (0 : Int) ≤ (c : Int) := by omega
      have hlti : (i : Int) < (l.length : Int) := by omega
      go_wp2_with fail
      obtain ⟨W, hW⟩ : ∃ W, wr.alloc (.cells #[.int .i64 xi, .int .i64 (c : Int), .int .i64 xm, .int .i64 xt, .float .f64 xs] 141) = W := ⟨_, rfl⟩
      rw [hW]
      have FW : Fresh w0 W := by rw [← hW]; exact hf.alloc _
      have BW : Five W wr.heap.size 0 ⟨xi, (c : Int), xm, xt, xs⟩ := by
        have : Blk W wr.heap.size 141 (wcells ⟨xi, (c : Int), xm, xt, xs⟩).toArray := by rw [← hW]; exact Blk.new wr _ _
        exact five_blk this
      have BR : Blk W w.heap.size 69 (wcells ⟨0, 0, 0, 0, 0⟩).toArray := BX.out.frm FW (fun f => f)
      have HFW := zh (HF0.out.trans FW)
      have HFW0 := zh FW
      have d0 : ∀ n, (W.drewN n).cell? ⟨wr.heap.size, 0, none⟩ = some (.int .i64 xi) := fun _ => BW.1
      have d1 : ∀ n, (W.drewN n).cell? ⟨wr.heap.size, 1, none⟩ = some (.int .i64 (c : Int)) := fun _ => BW.2.1
      have d2 : ∀ n, (W.drewN n).cell? ⟨wr.heap.size, 2, none⟩ = some (.int .i64 xm) := fun _ => BW.2.2.1
      have d3 : ∀ n, (W.drewN n).cell? ⟨wr.heap.size, 3, none⟩ = some (.int .i64 xt) := fun _ => BW.2.2.2.1
      have d4 : ∀ n, (W.drewN n).cell? ⟨wr.heap.size, 4, none⟩ = some (.float .f64 xs) := fun _ => BW.2.2.2.2
      have r0 : ∀ n, (W.drewN n).cell? ⟨w.heap.size, 0, none⟩ = some (.int .i64 0) := fun _ => BR.cell 0
      have r1 : ∀ n, (W.drewN n).cell? ⟨w.heap.size, 1, none⟩ = some (.int .i64 0) := fun _ => BR.cell 1
      have r2 : ∀ n, (W.drewN n).cell? ⟨w.heap.size, 2, none⟩ = some (.int .i64 0) := fun _ => BR.cell 2
      have r3 : ∀ n, (W.drewN n).cell? ⟨w.heap.size, 3, none⟩ = some (.int .i64 0) := fun _ => BR.cell 3
      have r4 : ∀ n, (W.drewN n).cell? ⟨w.heap.size, 4, none⟩ = some (.float .f64 0) := fun _ => BR.cell 4
      have rz : ∀ n i, (W.drewN n).frozen? ⟨w.heap.size, i, none⟩ = false := fun _ _ => BR.frozen _
      have HBR := zh BR
      clear BW BR hW FW hf c0 c1' c2 c3 c4 hrt
      by_cases hcl : c < zs.length
      · obtain ⟨bz, oz, rfl, hz1⟩ := left_at ((HA.out.fresh (Nat.le_refl _) HFW.out).more HFW.out.size) hcl
        have z1 : ∀ n, (W.drewN n).cell? ⟨bz, oz + c, none⟩ = some (.int .i64 (zs.getD c 0)) := fun _ => hz1
        have hcli : (c : Int) < (zs.length : Int) := by omega
        have HROOM : Hid (room zs ⟨xi, (c : Int), xm, xt, xs⟩ = decide (xm ≤ zs.getD c 0)) := zh (by unfold room; simp [hcl])
        generalize zs.getD c 0 = z at z1 HROOM
        clear hz1
        by_cases hm : xm ≤ z
        · have hyes : room zs ⟨xi, (c : Int), xm, xt, xs⟩ = true := by rw [HROOM.out]; simpa using hm
          have HFI := zh (HAT.out _ HX.out hyes)
          clear hyes
          go_wp2_with fail
          go_quiet (fail)
          rename_i nq
          go_wp2_with fail
          have HFZ : Hid (Fresh w ((((((W.drewN nq).setCell ⟨w.heap.size, 0, none⟩ (.int .i64 xi)).setCell ⟨w.heap.size, 1, none⟩ (.int .i64 (c : Int))).setCell ⟨w.heap.size, 2, none⟩ (.int .i64 xm)).setCell ⟨w.heap.size, 3, none⟩ (.int .i64 xt)).setCell ⟨w.heap.size, 4, none⟩ (.float .f64 xs))) := zh (by
            exact ((((HFW.out.drewN nq).setCell (p := ⟨w.heap.size, 0, none⟩) (fun h => by simp at h) _).setCell (p := ⟨w.heap.size, 1, none⟩) (fun h => by simp at h) _).setCell (p := ⟨w.heap.size, 2, none⟩) (fun h => by simp at h) _ |>.setCell (p := ⟨w.heap.size, 3, none⟩) (fun h => by simp at h) _).setCell (p := ⟨w.heap.size, 4, none⟩) (fun h => by simp at h) _)
          have BZ : Blk ((((((W.drewN nq).setCell ⟨w.heap.size, 0, none⟩ (.int .i64 xi)).setCell ⟨w.heap.size, 1, none⟩ (.int .i64 (c : Int))).setCell ⟨w.heap.size, 2, none⟩ (.int .i64 xm)).setCell ⟨w.heap.size, 3, none⟩ (.int .i64 xt)).setCell ⟨w.heap.size, 4, none⟩ (.float .f64 xs)) w.heap.size 69 (wcells ⟨xi, (c : Int), xm, xt, xs⟩).toArray := (((((show Blk (W.drewN nq) _ _ _ from HBR.out).set 0 _).set 1 _).set 2 _).set 3 _).set 4 _
          generalize (((((W.drewN nq).setCell ⟨w.heap.size, 0, none⟩ (.int .i64 xi)).setCell ⟨w.heap.size, 1, none⟩ (.int .i64 (c : Int))).setCell ⟨w.heap.size, 2, none⟩ (.int .i64 xm)).setCell ⟨w.heap.size, 3, none⟩ (.int .i64 xt)).setCell ⟨w.heap.size, 4, none⟩ (.float .f64 xs) = Z at HFZ BZ ⊢
          obtain ⟨y0, y1, y2, y3, y4⟩ := five_blk BZ
          dsimp only at y0 y1 y2 y3 y4
          exact bodyPost_ret (v := .tuple #[.agg #[.int .i64 xi, .int .i64 (c : Int), .int .i64 xm, .int .i64 xt, .float .f64 xs], .bool true]) (by simp [results, Tryz.results62, go_sem, y0, y1, y2, y3, y4]) rfl ⟨by rw [HFI.out]; rfl, HFZ.out⟩
        · have hnot : room zs ⟨xi, (c : Int), xm, xt, xs⟩ = false := by rw [HROOM.out]; simpa using hm
          have HNX2 := zh (HNX.out _ HX.out hnot)
          clear hnot
          go_wp2_with fail
          go_quiet (fail)
          go_wp2_with fail
          go_roundw
          case rel => exact ⟨i + 1, by omega, by go_num, HNX2.out, HFW0.out.drewN _⟩
          case measure => simp [RowKit.intOf]; omega
      · have hnot : room zs ⟨xi, (c : Int), xm, xt, xs⟩ = false := by
          unfold room
          have : decide ((c : Int) < (zs.length : Int)) = false := by simp; omega
          rw [this]; rfl
        have HNX2 := zh (HNX.out _ HX.out hnot)
        have hd1 : decide ((c : Int) < (zs.length : Int)) = false := by simp; omega
        have hd2 : decide (c < zs.length) = false := by simp; omega
        clear hnot
        go_wp2_with fail
        go_quiet (fail)
        go_wp2_with fail
        go_roundw
        case rel => exact ⟨i + 1, by omega, by go_num, HNX2.out, HFW0.out.drewN _⟩
        case measure => simp [RowKit.intOf]; omega
    · have HFN := zh (first_none (left := zs) (l := l) (fun j hj => HNO.out j hj (by omega)))
      have hlti : ¬ (i : Int) < (l.length : Int) := by omega
      have BR : Blk wr w.heap.size 69 (wcells ⟨0, 0, 0, 0, 0⟩).toArray := BX.out.frm hf (fun f => f)
      have r0 : wr.cell? ⟨w.heap.size, 0, none⟩ = some (.int .i64 0) := BR.cell 0
      have r1 : wr.cell? ⟨w.heap.size, 1, none⟩ = some (.int .i64 0) := BR.cell 1
      have r2 : wr.cell? ⟨w.heap.size, 2, none⟩ = some (.int .i64 0) := BR.cell 2
      have r3 : wr.cell? ⟨w.heap.size, 3, none⟩ = some (.int .i64 0) := BR.cell 3
      have r4 : wr.cell? ⟨w.heap.size, 4, none⟩ = some (.float .f64 0) := BR.cell 4
      have rz : ∀ i, wr.frozen? ⟨w.heap.size, i, none⟩ = false := fun _ => BR.frozen _
      have HFW := zh (HF0.out.trans hf)
      have HBR := zh BR
      clear BR hf
      go_wp2_with fail
      have HFZ : Hid (Fresh w (((((wr.setCell ⟨w.heap.size, 0, none⟩ (.int .i64 0)).setCell ⟨w.heap.size, 1, none⟩ (.int .i64 0)).setCell ⟨w.heap.size, 2, none⟩ (.int .i64 0)).setCell ⟨w.heap.size, 3, none⟩ (.int .i64 0)).setCell ⟨w.heap.size, 4, none⟩ (.float .f64 0))) := zh (by
        exact (((HFW.out.setCell (p := ⟨w.heap.size, 0, none⟩) (fun h => by simp at h) _).setCell (p := ⟨w.heap.size, 1, none⟩) (fun h => by simp at h) _).setCell (p := ⟨w.heap.size, 2, none⟩) (fun h => by simp at h) _ |>.setCell (p := ⟨w.heap.size, 3, none⟩) (fun h => by simp at h) _).setCell (p := ⟨w.heap.size, 4, none⟩) (fun h => by simp at h) _)
      have BZ : Blk (((((wr.setCell ⟨w.heap.size, 0, none⟩ (.int .i64 0)).setCell ⟨w.heap.size, 1, none⟩ (.int .i64 0)).setCell ⟨w.heap.size, 2, none⟩ (.int .i64 0)).setCell ⟨w.heap.size, 3, none⟩ (.int .i64 0)).setCell ⟨w.heap.size, 4, none⟩ (.float .f64 0)) w.heap.size 69 (wcells ⟨0, 0, 0, 0, 0⟩).toArray := ((((HBR.out.set 0 _).set 1 _).set 2 _).set 3 _).set 4 _
      generalize ((((wr.setCell ⟨w.heap.size, 0, none⟩ (.int .i64 0)).setCell ⟨w.heap.size, 1, none⟩ (.int .i64 0)).setCell ⟨w.heap.size, 2, none⟩ (.int .i64 0)).setCell ⟨w.heap.size, 3, none⟩ (.int .i64 0)).setCell ⟨w.heap.size, 4, none⟩ (.float .f64 0) = Z at HFZ BZ ⊢
      obtain ⟨y0, y1, y2, y3, y4⟩ := five_blk BZ
      dsimp only at y0 y1 y2 y3 y4
      exact bodyPost_ret (v := .tuple #[.agg #[.int .i64 0, .int .i64 0, .int .i64 0, .int .i64 0, .float .f64 0], .bool false]) (by simp [results, Tryz.results62, go_sem, y0, y1, y2, y3, y4]) rfl ⟨by rw [HFN.out]; rfl, HFZ.out⟩
structure IsR (w : World) (B b : Nat) (v : Value) (l : List Wt) : Prop where
  blk : Blk w b 63 #[v]
  ge : B ≤ b
  sl : Sl w B 69 5 v l.length (l.flatMap wcells)
theorem right_no {x : Wt} (h : ¬ (1 ≤ x.id ∧ x.id ≤ 28629151 ∧ 0 ≤ x.cls ∧ x.cls ≤ 7 ∧ 1 ≤ x.many ∧ x.many ≤ 600 ∧ 0 ≤ x.time ∧ x.time ≤ 1099511627776)) : right x = false := by
  rcases Bool.eq_false_or_eq_true (right x) with hh | hh
  · exact absurd ((right_iff x).1 hh) h
  · exact hh
theorem refRight_any (x : Wt) (w : World) : Calls Tryz.prog 127 #[wagg x] w fun e w' => e = .returned (.bool (right x)) ∧ Fresh w w' := by
  have HF : Hid (∀ o, Fresh w (w.alloc o)) := zh fun o => (Frm.refl _ w).alloc o
  have HN : Hid (¬ (1 ≤ x.id ∧ x.id ≤ 28629151 ∧ 0 ≤ x.cls ∧ x.cls ≤ 7 ∧ 1 ≤ x.many ∧ x.many ≤ 600 ∧ 0 ≤ x.time ∧ x.time ≤ 1099511627776) → right x = false) := zh right_no
  have HY : Hid ((1 ≤ x.id ∧ x.id ≤ 28629151 ∧ 0 ≤ x.cls ∧ x.cls ≤ 7 ∧ 1 ≤ x.many ∧ x.many ≤ 600 ∧ 0 ≤ x.time ∧ x.time ≤ 1099511627776) → right x = true) := zh (right_iff x).2
  unfold wagg
  generalize hr : right x = r at HN HY ⊢
  clear hr
  obtain ⟨xi, xc, xm, xt, xs⟩ := x
  dsimp only at HN HY ⊢
  by_cases h0 : 1 ≤ xi
  case neg =>
    obtain rfl := HN.out (by omega)
    go_in
    go_wp2_with fail
    go_ret
    exact ⟨ret_bool (by first | rfl | (simp; omega) | simp), HF.out _⟩
  case pos =>
    by_cases h1 : xi ≤ 28629151
    case neg =>
      obtain rfl := HN.out (by omega)
      go_in
      go_wp2_with fail
      go_ret
      exact ⟨ret_bool (by first | rfl | (simp; omega) | simp), HF.out _⟩
    case pos =>
      by_cases h2 : 0 ≤ xc
      case neg =>
        obtain rfl := HN.out (by omega)
        go_in
        go_wp2_with fail
        go_ret
        exact ⟨ret_bool (by first | rfl | (simp; omega) | simp), HF.out _⟩
      case pos =>
        by_cases h3 : xc ≤ 7
        case neg =>
          obtain rfl := HN.out (by omega)
          go_in
          go_wp2_with fail
          go_ret
          exact ⟨ret_bool (by first | rfl | (simp; omega) | simp), HF.out _⟩
        case pos =>
          by_cases h4 : 1 ≤ xm
          case neg =>
            obtain rfl := HN.out (by omega)
            go_in
            go_wp2_with fail
            go_ret
            exact ⟨ret_bool (by first | rfl | (simp; omega) | simp), HF.out _⟩
          case pos =>
            by_cases h5 : xm ≤ 600
            case neg =>
              obtain rfl := HN.out (by omega)
              go_in
              go_wp2_with fail
              go_ret
              exact ⟨ret_bool (by first | rfl | (simp; omega) | simp), HF.out _⟩
            case pos =>
              by_cases h6 : 0 ≤ xt
              case neg =>
                obtain rfl := HN.out (by omega)
                go_in
                go_wp2_with fail
                go_ret
                exact ⟨ret_bool (by first | rfl | (simp; omega) | simp), HF.out _⟩
              case pos =>
                by_cases h7 : xt ≤ 1099511627776
                case neg =>
                  obtain rfl := HN.out (by omega)
                  go_in
                  go_wp2_with fail
                  go_ret
                  exact ⟨ret_bool (by first | rfl | (simp; omega) | simp), HF.out _⟩
                case pos =>
                  obtain rfl := HY.out (by omega)
                  go_in
                  go_wp2_with fail
                  go_ret
                  exact ⟨ret_bool (by first | rfl | (simp; omega) | simp), HF.out _⟩
theorem refPlace_any (w : World) (B b : Nat) (v : Value) (l : List Wt) (id : Int) (h : IsR w B b v l) (hl : l.length ≤ 1000) :
    Calls Tryz.prog 128 #[.pointer (some ⟨b, 0, none⟩), .int .i64 id] w fun e w' => e = .returned (.int .i64 (plc id l)) ∧ w' = w := by
  obtain ⟨A, cap, rfl, _, _, _⟩ := h.sl.shape
  have hc : w.cell? ⟨b, 0, none⟩ = some (.slice A l.length cap) := h.blk.cell 0
  have HR := zh h.sl.rd
  clear h
  go_in
  go_wp2_with fail
  go_loop [5] (fun v5 => ∃ i : Nat, i ≤ l.length ∧ v5 = .int .i64 (i : Int) ∧ (∀ j (hj : j < l.length), j < i → l[j].id ≠ id)) (fun v5 => l.length - (RowKit.intOf v5).toNat)
  case atStart => exact ⟨0, by omega, rfl, fun _ _ h => by omega⟩
  case round =>
    obtain ⟨i, hi, rfl, hno⟩ := hrel
    have HNO := zh hno
    clear hno
    have hi0 : (0 : Int) ≤ (i : Int) := by omega
    by_cases hlt : i < l.length
    · obtain ⟨b', o, rfl, _, p5⟩ := five_at HR.out hlt
      have c0 := p5.1
      obtain ⟨x, hx⟩ : ∃ x, x = l[i] := ⟨_, rfl⟩
      have HX := zh hx
      rw [← hx] at c0
      clear hx p5
      have hlti : (i : Int) < (l.length : Int) := by omega
      by_cases he : x.id = id
      · have heb : (x.id == id) = true := by rw [beq_iff_eq]; exact he
        have HE := zh he
        clear he
        go_wp2_with fail
        go_ret
        exact ⟨ret_i64 (plc_at hlt HNO.out (by rw [← HX.out]; exact HE.out)).symm, rfl⟩
      · have heb : (x.id == id) = false := by rw [beq_eq_false_iff_ne]; exact he
        have HE := zh he
        clear he
        go_wp2_with fail
        go_round
        case rel =>
          refine ⟨i + 1, by omega, by go_num, fun j hj hji => ?_⟩
          rcases Nat.lt_or_ge j i with h | h
          · exact HNO.out j hj h
          · obtain rfl : j = i := by omega
            rw [← HX.out]; exact HE.out
        case measure => simp [RowKit.intOf]; omega
    · have hlti : ¬ (i : Int) < (l.length : Int) := by omega
      go_wp2_with fail
      go_ret
      exact ⟨ret_i64 (plc_none (fun j hj => HNO.out j hj (by omega))).symm, rfl⟩
end
end Go.Proofs.YtbeaoddjomdlcaaGreatDoor

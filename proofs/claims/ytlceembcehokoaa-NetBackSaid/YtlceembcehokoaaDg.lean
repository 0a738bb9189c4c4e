/- Dn8, Dn9. (Put together by mg.py.) -/
import Derived.Test.YtlceembcehokoaaDd
import Derived.Deep.RegionHeld3
import Derived.Test.YtlceembcehokoaaDe
import Derived.Test.YtlceembcehokoaaDf
namespace Go.Proofs.Ytlceembcehokoaa
open Go.RowKit ReadM
set_option linter.unusedVariables false
set_option maxRecDepth 100000

set_option maxHeartbeats 2000000 in
theorem sameInts_eq (w : World) (A B : Option Addr) (ca cb : Nat) (zs : List Int) (hA : Rd w w.heap.size A (ivs zs)) (hB : Rd w w.heap.size B (ivs zs)) (hl : zs.length ≤ 100000) :
    Calls Try.prog 123 #[.slice A zs.length ca, .slice B zs.length cb] w fun e w' => e = .returned (.bool true) ∧ Fresh w w' := by
  have HA := Lib.hid hA
  have HB := Lib.hid hB
  clear hA hB
  go_enter Try.func123, Try.ntmps123
  go_wp2_with fail
  go_loopw [5] (fun v5 wr => ∃ i : Nat, i ≤ zs.length ∧ v5 = .int .i64 (i : Int) ∧ Fresh w wr) (fun v5 _ => zs.length - (intOf v5).toNat)
  case atStart => exact ⟨0, by omega, rfl, Frm.refl _ _⟩
  case round =>
    obtain ⟨i, hi, rfl, hf⟩ := hrel
    have hi0 : (0 : Int) ≤ (i : Int) := by omega
    have HF := Lib.hid hf
    clear hf
    by_cases hlt : i < zs.length
    · have hlti : (i : Int) < (zs.length : Int) := by omega
      obtain ⟨bA, oA, rfl, _, hcA⟩ := (HA.out.fresh (Nat.le_refl _) HF.out).at_ (k := i) (by simpa using hlt)
      obtain ⟨bB, oB, rfl, _, hcB⟩ := (HB.out.fresh (Nat.le_refl _) HF.out).at_ (k := i) (by simpa using hlt)
      rw [List.getElem_map] at hcA hcB
      generalize zs[i] = x at hcA hcB
      have d1 : (x != x) = false := by simp
      go_wp2_with fail
      go_quiet (fail)
      rename_i nq
      have HF2 : Hid (Fresh w (wr.drewN nq)) := Lib.hid (HF.out.drewN nq)
      go_wp2_with fail
      go_roundw
      case rel => exact ⟨i + 1, by omega, by go_num, HF2.out⟩
      case measure => simp [intOf]; omega
    · have hlti : ¬ (i : Int) < (zs.length : Int) := by omega
      go_wp2_with fail
      go_ret
      exact ⟨rfl, HF.out⟩
theorem rd_later {w W' : World} {A : Option Addr} {xs : List Value} (h : Rd w w.heap.size A xs) (F : Fresh w W') : Rd W' W'.heap.size A xs := (h.fresh (Nat.le_refl _) F).more F.size
set_option maxHeartbeats 2000000 in
theorem sameGroup_eq (w : World) (AV AL BV BL : Option Addr) (cv cl dv dl : Nat) (vs ls : List Int) (h1 : Rd w w.heap.size AV (ivs vs)) (h2 : Rd w w.heap.size AL (ivs ls)) (h3 : Rd w w.heap.size BV (ivs vs)) (h4 : Rd w w.heap.size BL (ivs ls)) (hv : vs.length ≤ 1000) (hl : ls.length ≤ 1000) :
    Calls Try.prog 111 #[.agg #[.slice AV vs.length cv, .slice AL ls.length cl], .agg #[.slice BV vs.length dv, .slice BL ls.length dl]] w fun e w' => e = .returned (.bool true) ∧ Fresh w w' := by
  obtain ⟨W, hW⟩ : ∃ W, (w.alloc (.cells #[.slice AV vs.length cv, .slice AL ls.length cl] 25)).alloc (.cells #[.slice BV vs.length dv, .slice BL ls.length dl] 25) = W := ⟨_, rfl⟩
  have hFW : Fresh w W := by rw [← hW]; exact ((Frm.refl _ w).alloc _).alloc _
  have hBX : Blk W w.heap.size 25 #[.slice AV vs.length cv, .slice AL ls.length cl] := by rw [← hW]; exact (Blk.new w _ _).alloc _
  have hBZ : Blk W (w.heap.size + 1) 25 #[.slice BV vs.length dv, .slice BL ls.length dl] := by
    rw [← hW]
    have := Blk.new (w.alloc (.cells #[.slice AV vs.length cv, .slice AL ls.length cl] 25)) 25 #[.slice BV vs.length dv, .slice BL ls.length dl]
    rwa [World.size_alloc] at this
  have HF := Lib.hid hFW
  have BX := Lib.hid hBX
  have BZ := Lib.hid hBZ
  have y0 : W.cell? ⟨w.heap.size, 0, none⟩ = some (.slice AV vs.length cv) := hBX.cell 0
  have x0 : W.cell? ⟨w.heap.size + 1, 0, none⟩ = some (.slice BV vs.length dv) := hBZ.cell 0
  have HC1 := Lib.hid (sameInts_eq W AV BV cv dv vs (rd_later h1 hFW) (rd_later h3 hFW) (by omega))
  have H2 := Lib.hid h2
  have H4 := Lib.hid h4
  clear hFW hBX hBZ h1 h2 h3 h4
  go_enter Try.func111, Try.ntmps111
  go_wp2_with fail
  clear hW
  refine HC1.out.mono ?_
  rintro e w1 ⟨rfl, f1⟩
  have HF1 := Lib.hid (HF.out.trans f1)
  have HC2 := Lib.hid (sameInts_eq w1 AL BL cl dl ls (rd_later H2.out HF1.out) (rd_later H4.out HF1.out) (by omega))
  have z1 : w1.cell? ⟨w.heap.size, 1, none⟩ = some (.slice AL ls.length cl) := (BX.out.frm f1 (fun f => f)).cell 1
  have u1 : w1.cell? ⟨w.heap.size + 1, 1, none⟩ = some (.slice BL ls.length dl) := (BZ.out.frm f1 (fun f => f)).cell 1
  clear f1 x0 y0
  go_wp2_with fail
  refine HC2.out.mono ?_
  rintro e w2 ⟨rfl, f2⟩
  have HF2 := Lib.hid (HF1.out.trans f2)
  clear f2
  go_wp2_with fail
  go_ret
  exact ⟨rfl, HF2.out⟩
set_option maxHeartbeats 4000000 in
theorem sameSnap_eq (w : World) (i t : Int) (AV AL AD BV BL BD : Option Addr) (cv cl cd dv dl dd : Nat) (vs ls : List Int) (ds : List UInt8) (h : RdS w AV AL AD vs ls ds) (k : RdS w BV BL BD vs ls ds) :
    Calls Try.prog 85 #[.agg #[.int .i64 i, .int .i64 t, .slice AV vs.length cv, .slice AL ls.length cl, .slice AD ds.length cd], .agg #[.int .i64 i, .int .i64 t, .slice BV vs.length dv, .slice BL ls.length dl, .slice BD ds.length dd]] w fun e w' => e = .returned (.bool true) ∧ Fresh w w' := by
  obtain ⟨W, hW⟩ : ∃ W, (w.alloc (.cells #[.int .i64 i, .int .i64 t, .slice AV vs.length cv, .slice AL ls.length cl, .slice AD ds.length cd] 28)).alloc (.cells #[.int .i64 i, .int .i64 t, .slice BV vs.length dv, .slice BL ls.length dl, .slice BD ds.length dd] 28) = W := ⟨_, rfl⟩
  have hFW : Fresh w W := by rw [← hW]; exact ((Frm.refl _ w).alloc _).alloc _
  have hBX : Blk W w.heap.size 28 #[.int .i64 i, .int .i64 t, .slice AV vs.length cv, .slice AL ls.length cl, .slice AD ds.length cd] := by rw [← hW]; exact (Blk.new w _ _).alloc _
  have hBZ : Blk W (w.heap.size + 1) 28 #[.int .i64 i, .int .i64 t, .slice BV vs.length dv, .slice BL ls.length dl, .slice BD ds.length dd] := by
    rw [← hW]
    have := Blk.new (w.alloc (.cells #[.int .i64 i, .int .i64 t, .slice AV vs.length cv, .slice AL ls.length cl, .slice AD ds.length cd] 28)) 28 #[.int .i64 i, .int .i64 t, .slice BV vs.length dv, .slice BL ls.length dl, .slice BD ds.length dd]
    rwa [World.size_alloc] at this
  have HF := Lib.hid hFW
  have BX := Lib.hid hBX
  have BZ := Lib.hid hBZ
  have y0 : W.cell? ⟨w.heap.size, 0, none⟩ = some (.int .i64 i) := hBX.cell 0
  have y1 : W.cell? ⟨w.heap.size, 1, none⟩ = some (.int .i64 t) := hBX.cell 1
  have y2 : W.cell? ⟨w.heap.size, 2, none⟩ = some (.slice AV vs.length cv) := hBX.cell 2
  have y3 : W.cell? ⟨w.heap.size, 3, none⟩ = some (.slice AL ls.length cl) := hBX.cell 3
  have y4 : W.cell? ⟨w.heap.size, 4, none⟩ = some (.slice AD ds.length cd) := hBX.cell 4
  have x0 : W.cell? ⟨w.heap.size + 1, 0, none⟩ = some (.int .i64 i) := hBZ.cell 0
  have x1 : W.cell? ⟨w.heap.size + 1, 1, none⟩ = some (.int .i64 t) := hBZ.cell 1
  have x2 : W.cell? ⟨w.heap.size + 1, 2, none⟩ = some (.slice BV vs.length dv) := hBZ.cell 2
  have x3 : W.cell? ⟨w.heap.size + 1, 3, none⟩ = some (.slice BL ls.length dl) := hBZ.cell 3
  have x4 : W.cell? ⟨w.heap.size + 1, 4, none⟩ = some (.slice BD ds.length dd) := hBZ.cell 4
  have HS := Lib.hid (h.fresh hFW)
  have KS := Lib.hid (k.fresh hFW)
  have HGC := Lib.hid (sameGroup_eq W AV AL BV BL cv cl dv dl vs ls HS.out.rv HS.out.rl KS.out.rv KS.out.rl h.vl h.ll)
  clear h k hFW hBX hBZ
  go_enter Try.func85, Try.ntmps85
  go_wp2_with fail
  clear hW
  refine HGC.out.mono ?_
  rintro e w1 ⟨rfl, f1⟩
  have b1 := BX.out.frm f1 (fun f => f)
  have b2 := BZ.out.frm f1 (fun f => f)
  have z0 : w1.cell? ⟨w.heap.size, 0, none⟩ = some (.int .i64 i) := b1.cell 0
  have z1 : w1.cell? ⟨w.heap.size, 1, none⟩ = some (.int .i64 t) := b1.cell 1
  have z4 : w1.cell? ⟨w.heap.size, 4, none⟩ = some (.slice AD ds.length cd) := b1.cell 4
  have u0 : w1.cell? ⟨w.heap.size + 1, 0, none⟩ = some (.int .i64 i) := b2.cell 0
  have u1 : w1.cell? ⟨w.heap.size + 1, 1, none⟩ = some (.int .i64 t) := b2.cell 1
  have u4 : w1.cell? ⟨w.heap.size + 1, 4, none⟩ = some (.slice BD ds.length dd) := b2.cell 4
  have qa : (convert 26 9 (.slice AD ds.length cd)).run Try.prog w1 = .ok (.string (str ds)) w1 := Rc.conv_u cd (HS.out.fresh f1).rd rfl
  have qb : (convert 26 9 (.slice BD ds.length dd)).run Try.prog w1 = .ok (.string (str ds)) w1 := Rc.conv_u dd (KS.out.fresh f1).rd rfl
  have HF1 := Lib.hid (HF.out.trans f1)
  have e1 : (i == i) = true := by simp
  have e2 : (t == t) = true := by simp
  have e3 : ((str ds).toList == (str ds).toList) = true := by simp
  clear f1 b1 b2 y0 y1 y2 y3 y4 x0 x1 x2 x3 x4
  go_wp2_with fail
  go_ret
  exact ⟨by first | rfl | simp, HF1.out⟩
theorem en_of {es fs : List En} (h : es.map eraseE = fs.map eraseE) {i : Nat} (h1 : i < es.length) (h2 : i < fs.length) : es[i].i = fs[i].i ∧ es[i].t = fs[i].t ∧ es[i].k = fs[i].k ∧ es[i].d = fs[i].d := by
  have e : (es.map eraseE)[i]'(by simpa using h1) = (fs.map eraseE)[i]'(by simpa using h2) := by simp only [h]
  rw [List.getElem_map, List.getElem_map] at e
  unfold eraseE at e
  injection e with a b c _ _ d
  exact ⟨a, b, c, d⟩
set_option maxHeartbeats 8000000 in
theorem sameEntries_eq (w : World) (A B : Option Addr) (ca cb : Nat) (es fs : List En) (hA : Rd w w.heap.size A (es.flatMap ecells)) (hB : Rd w w.heap.size B (fs.flatMap ecells)) (hda : ∀ e ∈ es, Rd w w.heap.size e.A (e.d.map bv)) (hdb : ∀ e ∈ fs, Rd w w.heap.size e.A (e.d.map bv))
    (he : es.map eraseE = fs.map eraseE) (hl : es.length ≤ 1000) :
    Calls Try.prog 101 #[.slice A es.length ca, .slice B fs.length cb] w fun e w' => e = .returned (.bool true) ∧ Fresh w w' := by
  have hfl : fs.length = es.length := by have := congrArg List.length he; simpa using this.symm
  have HFL := Lib.hid hfl
  have HA := Lib.hid hA
  have HB := Lib.hid hB
  have HDA := Lib.hid hda
  have HDB := Lib.hid hdb
  have HE := Lib.hid he
  rw [hfl]
  clear hA hB hda hdb he hfl
  go_enter Try.func101, Try.ntmps101
  go_wp2_with fail
  go_loopw [5] (fun v5 wr => ∃ i : Nat, i ≤ es.length ∧ v5 = .int .i64 (i : Int) ∧ Fresh w wr) (fun v5 _ => es.length - (intOf v5).toNat)
  case atStart => exact ⟨0, by omega, rfl, Frm.refl _ _⟩
  case round =>
    obtain ⟨i, hi, rfl, hf⟩ := hrel
    have hi0 : (0 : Int) ≤ (i : Int) := by omega
    have HF := Lib.hid hf
    clear hf
    by_cases hlt : i < es.length
    · have hlti : (i : Int) < (es.length : Int) := by omega
      have hlt2 : i < fs.length := by rw [HFL.out]; exact hlt
      obtain ⟨bA, oA, rfl, _, a0, a1, a2, a3⟩ := four_at (HA.out.fresh (Nat.le_refl _) HF.out) hlt
      obtain ⟨bB, oB, rfl, _, b0, b1, b2, b3⟩ := four_at (HB.out.fresh (Nat.le_refl _) HF.out) hlt2
      obtain ⟨e1, e2, e3, e4⟩ := en_of HE.out hlt hlt2
      have ra := HDA.out _ (List.getElem_mem hlt)
      have rb := HDB.out _ (List.getElem_mem hlt2)
      rw [← e1] at b0
      rw [← e2] at b1
      rw [← e3] at b2
      rw [← e4] at b3 rb
      generalize fs[i].A = EB at b3 rb
      generalize fs[i].c = cB at b3
      generalize es[i] = x at a0 a1 a2 a3 b0 b1 b2 b3 ra rb
      clear e1 e2 e3 e4
      have HRA := Lib.hid (ra.fresh (Nat.le_refl _) HF.out)
      have HRB := Lib.hid (rb.fresh (Nat.le_refl _) HF.out)
      have qa : ∀ n, (convert 26 9 (.slice x.A x.d.length x.c)).run Try.prog (wr.drewN n) = .ok (.string (str x.d)) (wr.drewN n) := fun n => Rc.conv_u x.c (HRA.out.drewN n) rfl
      have qb : ∀ n, (convert 26 9 (.slice EB x.d.length cB)).run Try.prog (wr.drewN n) = .ok (.string (str x.d)) (wr.drewN n) := fun n => Rc.conv_u cB (HRB.out.drewN n) rfl
      have d0 : (x.i != x.i) = false := by simp
      have d1 : (x.t != x.t) = false := by simp
      have d2 : (x.k != x.k) = false := by simp
      have d3 : ((str x.d).toList != (str x.d).toList) = false := by simp
      have d4 : ((str x.d).toList == (str x.d).toList) = true := by simp
      clear ra rb
      go_wp2_with fail
      go_quiet (fail)
      rename_i nq
      have HF2 : Hid (Fresh w (wr.drewN nq)) := Lib.hid (HF.out.drewN nq)
      go_wp2_with fail
      go_roundw
      case rel => exact ⟨i + 1, by omega, by go_num, HF2.out⟩
      case measure => simp [intOf]; omega
    · have hlti : ¬ (i : Int) < (es.length : Int) := by omega
      go_wp2_with fail
      go_ret
      exact ⟨rfl, HF.out⟩
theorem erase_eq {x y : MsgM} (h : erase x = erase y) : (x.kd = y.kd ∧ x.fr = y.fr ∧ x.to = y.to ∧ x.tm = y.tm ∧ x.ix = y.ix ∧ x.lt = y.lt ∧ x.ys = y.ys ∧ x.cm = y.cm ∧ x.hn = y.hn ∧ x.rd = y.rd) ∧ x.es.map eraseE = y.es.map eraseE ∧ x.si = y.si ∧ x.st = y.st ∧ x.vs = y.vs ∧ x.ls = y.ls ∧ x.ds = y.ds := by
  unfold erase at h
  injection h with a1 a2 a3 a4 a5 a6 a7 a8 a9 a10 _ _ a11 a12 a13 _ _ a14 _ _ a15 _ _ a16
  exact ⟨⟨a1, a2, a3, a4, a5, a6, a7, a8, a9, a10⟩, a11, a12, a13, a14, a15, a16⟩
theorem cells_eq {x y : MsgM} (h : erase x = erase y) : mcells y = #[.int .i64 x.kd, .int .i64 x.fr, .int .i64 x.to, .int .i64 x.tm, .int .i64 x.ix, .int .i64 x.lt, .bool x.ys, .int .i64 x.cm, .int .i64 x.hn, .int .i64 x.rd, .slice y.AE y.es.length y.ce, .int .i64 x.si, .int .i64 x.st, .slice y.AV x.vs.length y.cv, .slice y.AL x.ls.length y.cl, .slice y.AD x.ds.length y.cd] := by
  obtain ⟨⟨h1, h2, h3, h4, h5, h6, h7, h8, h9, h10⟩, _, h11, h12, h13, h14, h15⟩ := erase_eq h
  unfold mcells
  rw [h1, h2, h3, h4, h5, h6, h7, h8, h9, h10, h11, h12, h13, h14, h15]
set_option maxHeartbeats 8000000 in
theorem sameMsg12_eq (w : World) (x y : MsgM) (hx : RdM w x) (hy : RdM w y) (he : erase x = erase y) :
    Calls Try.prog 66 #[.agg (mcells x), .agg (mcells y)] w fun e w' => e = .returned (.bool true) ∧ Fresh w w' := by
  obtain ⟨W, hW⟩ : ∃ W, (w.alloc (.cells (mcells x) 30)).alloc (.cells (mcells y) 30) = W := ⟨_, rfl⟩
  have hFW : Fresh w W := by rw [← hW]; exact ((Frm.refl _ w).alloc _).alloc _
  have hBX : Blk W w.heap.size 30 (mcells x) := by rw [← hW]; exact (Blk.new w _ _).alloc _
  have hBZ : Blk W (w.heap.size + 1) 30 (mcells y) := by
    rw [← hW]
    have := Blk.new (w.alloc (.cells (mcells x) 30)) 30 (mcells y)
    rwa [World.size_alloc] at this
  have hce := cells_eq he
  have HEE := Lib.hid (erase_eq he)
  rw [hce] at hBZ hW
  rw [hce]
  have HF := Lib.hid hFW
  have BX := Lib.hid hBX
  have BZ := Lib.hid hBZ
  have HX := Lib.hid hx
  have HY := Lib.hid hy
  have y10 : W.cell? ⟨w.heap.size, 10, none⟩ = some (.slice x.AE x.es.length x.ce) := hBX.cell 10
  have x10 : W.cell? ⟨w.heap.size + 1, 10, none⟩ = some (.slice y.AE y.es.length y.ce) := hBZ.cell 10
  have y11 : W.cell? ⟨w.heap.size, 11, none⟩ = some (.int .i64 x.si) := hBX.cell 11
  have x11 : W.cell? ⟨w.heap.size + 1, 11, none⟩ = some (.int .i64 x.si) := hBZ.cell 11
  have y12 : W.cell? ⟨w.heap.size, 12, none⟩ = some (.int .i64 x.st) := hBX.cell 12
  have x12 : W.cell? ⟨w.heap.size + 1, 12, none⟩ = some (.int .i64 x.st) := hBZ.cell 12
  have y13 : W.cell? ⟨w.heap.size, 13, none⟩ = some (.slice x.AV x.vs.length x.cv) := hBX.cell 13
  have x13 : W.cell? ⟨w.heap.size + 1, 13, none⟩ = some (.slice y.AV x.vs.length y.cv) := hBZ.cell 13
  have y14 : W.cell? ⟨w.heap.size, 14, none⟩ = some (.slice x.AL x.ls.length x.cl) := hBX.cell 14
  have x14 : W.cell? ⟨w.heap.size + 1, 14, none⟩ = some (.slice y.AL x.ls.length y.cl) := hBZ.cell 14
  have y15 : W.cell? ⟨w.heap.size, 15, none⟩ = some (.slice x.AD x.ds.length x.cd) := hBX.cell 15
  have x15 : W.cell? ⟨w.heap.size + 1, 15, none⟩ = some (.slice y.AD x.ds.length y.cd) := hBZ.cell 15
  have HC1 := Lib.hid (sameEntries_eq W x.AE y.AE x.ce y.ce x.es y.es (hx.fresh hFW).re (hy.fresh hFW).re (hx.fresh hFW).rd (hy.fresh hFW).rd HEE.out.2.1 hx.el)
  unfold mcells at hW
  unfold mcells
  clear hFW hBX hBZ hx hy he hce
  go_enter Try.func66, Try.ntmps66
  go_wp2_with fail
  clear hW
  refine HC1.out.mono ?_
  rintro e w1 ⟨rfl, f1⟩
  have HF1 := Lib.hid (HF.out.trans f1)
  have b1 := BX.out.frm f1 (fun f => f)
  have b2 := BZ.out.frm f1 (fun f => f)
  have BX1 := Lib.hid b1
  have BZ1 := Lib.hid b2
  clear f1 y10 x10 y11 x11 y12 x12 y13 x13 y14 x14 y15 x15
  have y11 : w1.cell? ⟨w.heap.size, 11, none⟩ = some (.int .i64 x.si) := b1.cell 11
  have x11 : w1.cell? ⟨w.heap.size + 1, 11, none⟩ = some (.int .i64 x.si) := b2.cell 11
  have y12 : w1.cell? ⟨w.heap.size, 12, none⟩ = some (.int .i64 x.st) := b1.cell 12
  have x12 : w1.cell? ⟨w.heap.size + 1, 12, none⟩ = some (.int .i64 x.st) := b2.cell 12
  have y13 : w1.cell? ⟨w.heap.size, 13, none⟩ = some (.slice x.AV x.vs.length x.cv) := b1.cell 13
  have x13 : w1.cell? ⟨w.heap.size + 1, 13, none⟩ = some (.slice y.AV x.vs.length y.cv) := b2.cell 13
  have y14 : w1.cell? ⟨w.heap.size, 14, none⟩ = some (.slice x.AL x.ls.length x.cl) := b1.cell 14
  have x14 : w1.cell? ⟨w.heap.size + 1, 14, none⟩ = some (.slice y.AL x.ls.length y.cl) := b2.cell 14
  have y15 : w1.cell? ⟨w.heap.size, 15, none⟩ = some (.slice x.AD x.ds.length x.cd) := b1.cell 15
  have x15 : w1.cell? ⟨w.heap.size + 1, 15, none⟩ = some (.slice y.AD x.ds.length y.cd) := b2.cell 15
  have HRY : Hid (RdS w1 y.AV y.AL y.AD x.vs x.ls x.ds) := Lib.hid (by have h := (HY.out.fresh HF1.out).sn; rw [← HEE.out.2.2.2.2.1, ← HEE.out.2.2.2.2.2.1, ← HEE.out.2.2.2.2.2.2] at h; exact h)
  have HC2 := Lib.hid (sameSnap_eq w1 x.si x.st x.AV x.AL x.AD y.AV y.AL y.AD x.cv x.cl x.cd y.cv y.cl y.cd x.vs x.ls x.ds (HX.out.fresh HF1.out).sn HRY.out)
  clear b1 b2
  go_wp2_with fail
  refine HC2.out.mono ?_
  rintro e w2 ⟨rfl, f2⟩
  have HF2 := Lib.hid (HF1.out.trans f2)
  have b1 := BX1.out.frm f2 (fun f => f)
  have b2 := BZ1.out.frm f2 (fun f => f)
  clear f2 y11 x11 y12 x12 y13 x13 y14 x14 y15 x15
  have y0 : w2.cell? ⟨w.heap.size, 0, none⟩ = some (.int .i64 x.kd) := b1.cell 0
  have x0 : w2.cell? ⟨w.heap.size + 1, 0, none⟩ = some (.int .i64 x.kd) := b2.cell 0
  have y1 : w2.cell? ⟨w.heap.size, 1, none⟩ = some (.int .i64 x.fr) := b1.cell 1
  have x1 : w2.cell? ⟨w.heap.size + 1, 1, none⟩ = some (.int .i64 x.fr) := b2.cell 1
  have y2 : w2.cell? ⟨w.heap.size, 2, none⟩ = some (.int .i64 x.to) := b1.cell 2
  have x2 : w2.cell? ⟨w.heap.size + 1, 2, none⟩ = some (.int .i64 x.to) := b2.cell 2
  have y3 : w2.cell? ⟨w.heap.size, 3, none⟩ = some (.int .i64 x.tm) := b1.cell 3
  have x3 : w2.cell? ⟨w.heap.size + 1, 3, none⟩ = some (.int .i64 x.tm) := b2.cell 3
  have y4 : w2.cell? ⟨w.heap.size, 4, none⟩ = some (.int .i64 x.ix) := b1.cell 4
  have x4 : w2.cell? ⟨w.heap.size + 1, 4, none⟩ = some (.int .i64 x.ix) := b2.cell 4
  have y5 : w2.cell? ⟨w.heap.size, 5, none⟩ = some (.int .i64 x.lt) := b1.cell 5
  have x5 : w2.cell? ⟨w.heap.size + 1, 5, none⟩ = some (.int .i64 x.lt) := b2.cell 5
  have y6 : w2.cell? ⟨w.heap.size, 6, none⟩ = some (.bool x.ys) := b1.cell 6
  have x6 : w2.cell? ⟨w.heap.size + 1, 6, none⟩ = some (.bool x.ys) := b2.cell 6
  have y7 : w2.cell? ⟨w.heap.size, 7, none⟩ = some (.int .i64 x.cm) := b1.cell 7
  have x7 : w2.cell? ⟨w.heap.size + 1, 7, none⟩ = some (.int .i64 x.cm) := b2.cell 7
  have y8 : w2.cell? ⟨w.heap.size, 8, none⟩ = some (.int .i64 x.hn) := b1.cell 8
  have x8 : w2.cell? ⟨w.heap.size + 1, 8, none⟩ = some (.int .i64 x.hn) := b2.cell 8
  have y9 : w2.cell? ⟨w.heap.size, 9, none⟩ = some (.int .i64 x.rd) := b1.cell 9
  have x9 : w2.cell? ⟨w.heap.size + 1, 9, none⟩ = some (.int .i64 x.rd) := b2.cell 9
  have d0 : (x.kd == x.kd) = true := by simp
  have d1 : (x.fr == x.fr) = true := by simp
  have d2 : (x.to == x.to) = true := by simp
  have d3 : (x.tm == x.tm) = true := by simp
  have d4 : (x.ix == x.ix) = true := by simp
  have d5 : (x.lt == x.lt) = true := by simp
  have d6 : (x.ys == x.ys) = true := by simp
  have d7 : (x.cm == x.cm) = true := by simp
  have d8 : (x.hn == x.hn) = true := by simp
  have d9 : (x.rd == x.rd) = true := by simp
  clear b1 b2
  go_wp2_with fail
  go_ret
  exact ⟨by first | rfl | simp, HF2.out⟩
set_option maxHeartbeats 4000000 in
theorem sameMsg_eq (w : World) (x y : MsgM) (hx : RdM w x) (hy : RdM w y) (he : erase x = erase y) :
    Calls Try.prog 16 #[.agg (mcells x), .agg (mcells y)] w fun e w' => e = .returned (.bool true) ∧ Fresh w w' := by
  obtain ⟨ca, hca⟩ : ∃ cs : List Value, cs = (mcells x).toList := ⟨_, rfl⟩
  obtain ⟨cb, hcb⟩ : ∃ cs : List Value, cs = (mcells y).toList := ⟨_, rfl⟩
  obtain ⟨W, hW⟩ : ∃ W, (w.alloc (.cells ca.toArray 30)).alloc (.cells cb.toArray 30) = W := ⟨_, rfl⟩
  have hFW : Fresh w W := by rw [← hW]; exact ((Frm.refl _ w).alloc _).alloc _
  have hBX : Blk W w.heap.size 30 ca.toArray := by rw [← hW]; exact (Blk.new w _ _).alloc _
  have hBZ : Blk W (w.heap.size + 1) 30 cb.toArray := by
    rw [← hW]
    have := Blk.new (w.alloc (.cells ca.toArray 30)) 30 cb.toArray
    rwa [World.size_alloc] at this
  have HF := Lib.hid hFW
  have HCL : Hid (W.rangeAt w.heap.size 0 ca) := Lib.hid (by intro j v hv; rw [Nat.zero_add, hBX.cell j]; simpa using hv)
  have HCM : Hid (W.rangeAt (w.heap.size + 1) 0 cb) := Lib.hid (by intro j v hv; rw [Nat.zero_add, hBZ.cell j]; simpa using hv)
  have HCI : Hid ((Try.prog.info? 30).map (·.size) = some ca.length) := Lib.hid (by rw [hca]; kernel_rfl)
  have HCJ : Hid ((Try.prog.info? 30).map (·.size) = some cb.length) := Lib.hid (by rw [hcb]; kernel_rfl)
  have HC : Hid (Calls Try.prog 66 #[.agg ca.toArray, .agg cb.toArray] W fun e w' => e = .returned (.bool true) ∧ Fresh W w') := Lib.hid (by rw [hca, hcb]; exact sameMsg12_eq W x y (hx.fresh hFW) (hy.fresh hFW) he)
  rw [show (mcells x) = ca.toArray by rw [hca], show (mcells y) = cb.toArray by rw [hcb]]
  clear hx hy he hca hcb hFW hBX hBZ
  go_enter Try.func16, Try.ntmps16
  go_wp2_with (first | (with_reducible refine wpList_load_mid rfl 30 (.tmp 2) rfl w.heap.size 0 rfl ca _ HCL.out Try.underlying30 rfl HCI.out ?_) | (with_reducible refine wpList_load_mid rfl 30 (.tmp 3) rfl (w.heap.size + 1) 0 rfl cb _ HCM.out Try.underlying30 rfl HCJ.out ?_))
  clear hW
  refine HC.out.mono ?_
  rintro e w1 ⟨rfl, f1⟩
  have HF1 := Lib.hid (HF.out.trans f1)
  clear f1
  go_wp2_with fail
  go_ret
  exact ⟨rfl, HF1.out⟩
end Go.Proofs.Ytlceembcehokoaa
namespace Go.Proofs.Ytlceembcehokoaa
open Go.RowKit ReadM
set_option linter.unusedVariables false
set_option maxRecDepth 100000


set_option maxHeartbeats 16000000 in
theorem netDecode_any (w : World) (A : Option Addr) (cap : Nat) (b : List UInt8) (hA : Rd w w.heap.size A (b.map bv)) (hl : b.length ≤ 1000000) (hc : b.length ≤ cap) (hm : cap ≤ maxLen) :
    Calls Try.prog 14 #[.slice A b.length cap] w fun e w' => NDPost w (decM b) e w' := by
  by_cases hone : ∃ x, Rc.scan b = ([x], b.length)
  · obtain ⟨x, hx⟩ := hone
    have hxl : x.length ≤ 1000000 := by have := one_len hx; omega
    rw [decM_one hx]
    exact netDecode_one w A cap b x hx hA hl hc hm hxl
  · have HNO := Lib.hid (decM_no hone)
    have hno := no_way hone
    have HA := Lib.hid hA
    obtain ⟨W0, hW0⟩ : ∃ W0, w.alloc (.cells msg0 30) = W0 := ⟨_, rfl⟩
    have HF0 : Hid (Fresh w W0) := Lib.hid (by rw [← hW0]; exact ((Frm.refl _ w).alloc _))
    have BX : Hid (Blk W0 w.heap.size 30 msg0) := Lib.hid (by rw [← hW0]; exact (Blk.new w _ msg0))
    have HSC := Lib.hid (Rc.scan_any W0 A cap b ((HA.out.fresh (Nat.le_refl _) HF0.out).more HF0.out.size) hl hc (by unfold maxLen at hm; omega))
    unfold Rc.ScanPost at HSC
    have hcn : (Rc.scan b).1.length * 8 ≤ b.length := by have h1 := Rc.recs_cnt (Rc.scan b).1; have h2 := Rc.scan_len b; have h3 := (Rc.recs_scan b).2; omega
    obtain ⟨ls, hls⟩ : ∃ l, l = (Rc.scan b).1 := ⟨_, rfl⟩
    obtain ⟨sn, hsn⟩ : ∃ n, n = (Rc.scan b).2 := ⟨_, rfl⟩
    rw [← hls, ← hsn] at HSC
    rw [← hls, ← hsn] at hno
    rw [← hls] at hcn
    obtain ⟨ln, hln⟩ : ∃ n, n = ls.length := ⟨_, rfl⟩
    rw [← hln] at hno hcn
    have HLN := Lib.hid hln
    obtain ⟨bn, hbn⟩ : ∃ n, n = b.length := ⟨_, rfl⟩
    rw [← hbn] at hno hcn hl
    have HBN := Lib.hid hbn
    unfold msg0 at hW0
    rw [← hbn] at HSC
    rw [← hbn]
    clear hA hone hls hsn hln hbn hc
    go_enter Try.func14, Try.ntmps14
    go_wp2_with fail
    first | rw [hW0] | skip
    clear hW0
    refine HSC.out.mono ?_
    rintro e w1 ⟨v1, rfl, hL, f1⟩
    obtain ⟨A4, c4, hv4, _⟩ := hL.shape
    rw [← HLN.out] at hv4
    subst hv4
    have HF1 := Lib.hid (HF0.out.trans f1)
    have BX1 := Lib.hid (BX.out.frm f1 (fun f => f))
    clear hL f1 HSC BX HF0
    by_cases h1 : ln = 1
    · have h2 : sn ≠ bn := by rcases hno with h | h; exact absurd h1 h; exact h
      have d1 : ((ln : Int) != 1) = false := by rw [h1]; rfl
      have d2 : ((sn : Int) != (bn : Int)) = true := by rw [bne_iff_ne]; omega
      have d3 : ((ln : Int) == 1) = true := by rw [h1]; rfl
      have d4 : ((sn : Int) == (bn : Int)) = false := by rw [beq_eq_false_iff_ne]; omega
      clear hno h2 h1
      obtain ⟨zs, hzs⟩ : ∃ zs : List Value, zs = [Value.int .i64 0, .int .i64 0, .int .i64 0, .int .i64 0, .int .i64 0, .int .i64 0, .bool false, .int .i64 0, .int .i64 0, .int .i64 0, .slice none 0 0, .int .i64 0, .int .i64 0, .slice none 0 0, .slice none 0 0, .slice none 0 0] := ⟨_, rfl⟩
      have HCI : Hid ((Try.prog.info? 30).map (·.size) = some zs.length) := Lib.hid (by rw [hzs]; kernel_rfl)
      have HCJ : Hid ((Try.prog.info? 30).map (·.size) = some zs.toArray.size) := Lib.hid (by rw [hzs]; kernel_rfl)
      have HTH : Hid (w1.there w.heap.size 0 zs.toArray.size) := Lib.hid (by rw [hzs]; exact BX1.out.there rfl)
      have HON : Hid (zs.toArray.all (·.oneCell') = true) := Lib.hid (by rw [hzs]; kernel_rfl)
      have HZS := Lib.hid hzs
      clear hzs
      go_wp2_with (refine wpList_store_mid rfl 30 (.tmp 2) (.tmp 28) rfl w.heap.size 0 zs.toArray rfl (by rw [HZS.out]; rfl) HTH.out HCJ.out HON.out ?_)
      have hra : (w1.setCells w.heap.size 0 zs).rangeAt w.heap.size 0 zs := World.rangeAt_setCells_same w1 w.heap.size 0 zs (by have := HTH.out; simpa using this)
      have hld := run_loadVar_mid (P := Try.prog) (w1.setCells w.heap.size 0 zs) w.heap.size 0 30 zs _ hra Try.underlying30 rfl HCI.out
      have HFZ : Fresh w (w1.setCells w.heap.size 0 zs) := HF1.out.trans' (frm_setCells w.heap.size zs 0 w1) (fun k hk e => by omega)
      refine bodyPost_ret (v := .tuple #[.agg zs.toArray, .int .i64 6]) ?_ rfl (nd_no HNO.out (by have e := HZS.out; subst e; rfl) HFZ)
      rw [results_cell_tmp Try.results14]
      show (((asAddr (.pointer (some ⟨w.heap.size, 0, none⟩))).run Try.prog (w1.setCells w.heap.size 0 zs)).andThen fun a w₁ => ((loadVar 30 a).run Try.prog w₁).andThen fun v w₂ => Result.ok (Value.tuple #[v, Value.int .i64 6]) w₂) = _
      simp only [asAddr, Sem.run_pure, Result.andThen_ok, hld]
    · have d1 : ((ln : Int) != 1) = true := by rw [bne_iff_ne]; omega
      have d3 : ((ln : Int) == 1) = false := by rw [beq_eq_false_iff_ne]; omega
      clear hno h1
      obtain ⟨zs, hzs⟩ : ∃ zs : List Value, zs = [Value.int .i64 0, .int .i64 0, .int .i64 0, .int .i64 0, .int .i64 0, .int .i64 0, .bool false, .int .i64 0, .int .i64 0, .int .i64 0, .slice none 0 0, .int .i64 0, .int .i64 0, .slice none 0 0, .slice none 0 0, .slice none 0 0] := ⟨_, rfl⟩
      have HCI : Hid ((Try.prog.info? 30).map (·.size) = some zs.length) := Lib.hid (by rw [hzs]; kernel_rfl)
      have HCJ : Hid ((Try.prog.info? 30).map (·.size) = some zs.toArray.size) := Lib.hid (by rw [hzs]; kernel_rfl)
      have HTH : Hid (w1.there w.heap.size 0 zs.toArray.size) := Lib.hid (by rw [hzs]; exact BX1.out.there rfl)
      have HON : Hid (zs.toArray.all (·.oneCell') = true) := Lib.hid (by rw [hzs]; kernel_rfl)
      have HZS := Lib.hid hzs
      clear hzs
      go_wp2_with (refine wpList_store_mid rfl 30 (.tmp 2) (.tmp 28) rfl w.heap.size 0 zs.toArray rfl (by rw [HZS.out]; rfl) HTH.out HCJ.out HON.out ?_)
      have hra : (w1.setCells w.heap.size 0 zs).rangeAt w.heap.size 0 zs := World.rangeAt_setCells_same w1 w.heap.size 0 zs (by have := HTH.out; simpa using this)
      have hld := run_loadVar_mid (P := Try.prog) (w1.setCells w.heap.size 0 zs) w.heap.size 0 30 zs _ hra Try.underlying30 rfl HCI.out
      have HFZ : Fresh w (w1.setCells w.heap.size 0 zs) := HF1.out.trans' (frm_setCells w.heap.size zs 0 w1) (fun k hk e => by omega)
      refine bodyPost_ret (v := .tuple #[.agg zs.toArray, .int .i64 6]) ?_ rfl (nd_no HNO.out (by have e := HZS.out; subst e; rfl) HFZ)
      rw [results_cell_tmp Try.results14]
      show (((asAddr (.pointer (some ⟨w.heap.size, 0, none⟩))).run Try.prog (w1.setCells w.heap.size 0 zs)).andThen fun a w₁ => ((loadVar 30 a).run Try.prog w₁).andThen fun v w₂ => Result.ok (Value.tuple #[v, Value.int .i64 6]) w₂) = _
      simp only [asAddr, Sem.run_pure, Result.andThen_ok, hld]
set_option maxHeartbeats 16000000 in
theorem refMDecode_any (w : World) (A : Option Addr) (cap : Nat) (b : List UInt8) (hA : Rd w w.heap.size A (b.map bv)) (hl : b.length ≤ 1000000) (hc : b.length ≤ cap) (hm : cap ≤ 140737488351232) :
    Calls Try.prog 15 #[.slice A b.length cap] w fun e w' => NDPost w (decM b) e w' := by
  by_cases hone : ∃ x, Rc.scan b = ([x], b.length)
  · obtain ⟨x, hx⟩ := hone
    have hxl : x.length ≤ 1000000 := by have := one_len hx; omega
    rw [decM_one hx]
    exact refMDecode_one w A cap b x hx hA hl hc hm hxl
  · have HNO := Lib.hid (decM_no hone)
    have hno := no_way hone
    have HA := Lib.hid hA
    obtain ⟨W0, hW0⟩ : ∃ W0, w.alloc (.cells msg0 30) = W0 := ⟨_, rfl⟩
    have HF0 : Hid (Fresh w W0) := Lib.hid (by rw [← hW0]; exact ((Frm.refl _ w).alloc _))
    have BX : Hid (Blk W0 w.heap.size 30 msg0) := Lib.hid (by rw [← hW0]; exact (Blk.new w _ msg0))
    have HSC := Lib.hid (Rc.refScan_any W0 A cap b ((HA.out.fresh (Nat.le_refl _) HF0.out).more HF0.out.size) hl hc hm)
    unfold Rc.ScanPost at HSC
    have hcn : (Rc.scan b).1.length * 8 ≤ b.length := by have h1 := Rc.recs_cnt (Rc.scan b).1; have h2 := Rc.scan_len b; have h3 := (Rc.recs_scan b).2; omega
    obtain ⟨ls, hls⟩ : ∃ l, l = (Rc.scan b).1 := ⟨_, rfl⟩
    obtain ⟨sn, hsn⟩ : ∃ n, n = (Rc.scan b).2 := ⟨_, rfl⟩
    rw [← hls, ← hsn] at HSC
    rw [← hls, ← hsn] at hno
    rw [← hls] at hcn
    obtain ⟨ln, hln⟩ : ∃ n, n = ls.length := ⟨_, rfl⟩
    rw [← hln] at hno hcn
    have HLN := Lib.hid hln
    obtain ⟨bn, hbn⟩ : ∃ n, n = b.length := ⟨_, rfl⟩
    rw [← hbn] at hno hcn hl
    have HBN := Lib.hid hbn
    unfold msg0 at hW0
    rw [← hbn] at HSC
    rw [← hbn]
    clear hA hone hls hsn hln hbn hc
    go_enter Try.func15, Try.ntmps15
    go_wp2_with fail
    first | rw [hW0] | skip
    clear hW0
    refine HSC.out.mono ?_
    rintro e w1 ⟨v1, rfl, hL, f1⟩
    obtain ⟨A4, c4, hv4, _⟩ := hL.shape
    rw [← HLN.out] at hv4
    subst hv4
    have HF1 := Lib.hid (HF0.out.trans f1)
    have BX1 := Lib.hid (BX.out.frm f1 (fun f => f))
    clear hL f1 HSC BX HF0
    by_cases h1 : ln = 1
    · have h2 : sn ≠ bn := by rcases hno with h | h; exact absurd h1 h; exact h
      have d1 : ((ln : Int) != 1) = false := by rw [h1]; rfl
      have d2 : ((sn : Int) != (bn : Int)) = true := by rw [bne_iff_ne]; omega
      have d3 : ((ln : Int) == 1) = true := by rw [h1]; rfl
      have d4 : ((sn : Int) == (bn : Int)) = false := by rw [beq_eq_false_iff_ne]; omega
      clear hno h2 h1
      obtain ⟨zs, hzs⟩ : ∃ zs : List Value, zs = [Value.int .i64 0, .int .i64 0, .int .i64 0, .int .i64 0, .int .i64 0, .int .i64 0, .bool false, .int .i64 0, .int .i64 0, .int .i64 0, .slice none 0 0, .int .i64 0, .int .i64 0, .slice none 0 0, .slice none 0 0, .slice none 0 0] := ⟨_, rfl⟩
      have HCI : Hid ((Try.prog.info? 30).map (·.size) = some zs.length) := Lib.hid (by rw [hzs]; kernel_rfl)
      have HCJ : Hid ((Try.prog.info? 30).map (·.size) = some zs.toArray.size) := Lib.hid (by rw [hzs]; kernel_rfl)
      have HTH : Hid (w1.there w.heap.size 0 zs.toArray.size) := Lib.hid (by rw [hzs]; exact BX1.out.there rfl)
      have HON : Hid (zs.toArray.all (·.oneCell') = true) := Lib.hid (by rw [hzs]; kernel_rfl)
      have HZS := Lib.hid hzs
      clear hzs
      go_wp2_with (refine wpList_store_mid rfl 30 (.tmp 2) (.tmp 30) rfl w.heap.size 0 zs.toArray rfl (by rw [HZS.out]; rfl) HTH.out HCJ.out HON.out ?_)
      have hra : (w1.setCells w.heap.size 0 zs).rangeAt w.heap.size 0 zs := World.rangeAt_setCells_same w1 w.heap.size 0 zs (by have := HTH.out; simpa using this)
      have hld := run_loadVar_mid (P := Try.prog) (w1.setCells w.heap.size 0 zs) w.heap.size 0 30 zs _ hra Try.underlying30 rfl HCI.out
      have HFZ : Fresh w (w1.setCells w.heap.size 0 zs) := HF1.out.trans' (frm_setCells w.heap.size zs 0 w1) (fun k hk e => by omega)
      refine bodyPost_ret (v := .tuple #[.agg zs.toArray, .int .i64 6]) ?_ rfl (nd_no HNO.out (by have e := HZS.out; subst e; rfl) HFZ)
      rw [results_cell_tmp Try.results15]
      show (((asAddr (.pointer (some ⟨w.heap.size, 0, none⟩))).run Try.prog (w1.setCells w.heap.size 0 zs)).andThen fun a w₁ => ((loadVar 30 a).run Try.prog w₁).andThen fun v w₂ => Result.ok (Value.tuple #[v, Value.int .i64 6]) w₂) = _
      simp only [asAddr, Sem.run_pure, Result.andThen_ok, hld]
    · have d1 : ((ln : Int) != 1) = true := by rw [bne_iff_ne]; omega
      have d3 : ((ln : Int) == 1) = false := by rw [beq_eq_false_iff_ne]; omega
      clear hno h1
      obtain ⟨zs, hzs⟩ : ∃ zs : List Value, zs = [Value.int .i64 0, .int .i64 0, .int .i64 0, .int .i64 0, .int .i64 0, .int .i64 0, .bool false, .int .i64 0, .int .i64 0, .int .i64 0, .slice none 0 0, .int .i64 0, .int .i64 0, .slice none 0 0, .slice none 0 0, .slice none 0 0] := ⟨_, rfl⟩
      have HCI : Hid ((Try.prog.info? 30).map (·.size) = some zs.length) := Lib.hid (by rw [hzs]; kernel_rfl)
      have HCJ : Hid ((Try.prog.info? 30).map (·.size) = some zs.toArray.size) := Lib.hid (by rw [hzs]; kernel_rfl)
      have HTH : Hid (w1.there w.heap.size 0 zs.toArray.size) := Lib.hid (by rw [hzs]; exact BX1.out.there rfl)
      have HON : Hid (zs.toArray.all (·.oneCell') = true) := Lib.hid (by rw [hzs]; kernel_rfl)
      have HZS := Lib.hid hzs
      clear hzs
      go_wp2_with (refine wpList_store_mid rfl 30 (.tmp 2) (.tmp 30) rfl w.heap.size 0 zs.toArray rfl (by rw [HZS.out]; rfl) HTH.out HCJ.out HON.out ?_)
      have hra : (w1.setCells w.heap.size 0 zs).rangeAt w.heap.size 0 zs := World.rangeAt_setCells_same w1 w.heap.size 0 zs (by have := HTH.out; simpa using this)
      have hld := run_loadVar_mid (P := Try.prog) (w1.setCells w.heap.size 0 zs) w.heap.size 0 30 zs _ hra Try.underlying30 rfl HCI.out
      have HFZ : Fresh w (w1.setCells w.heap.size 0 zs) := HF1.out.trans' (frm_setCells w.heap.size zs 0 w1) (fun k hk e => by omega)
      refine bodyPost_ret (v := .tuple #[.agg zs.toArray, .int .i64 6]) ?_ rfl (nd_no HNO.out (by have e := HZS.out; subst e; rfl) HFZ)
      rw [results_cell_tmp Try.results15]
      show (((asAddr (.pointer (some ⟨w.heap.size, 0, none⟩))).run Try.prog (w1.setCells w.heap.size 0 zs)).andThen fun a w₁ => ((loadVar 30 a).run Try.prog w₁).andThen fun v w₂ => Result.ok (Value.tuple #[v, Value.int .i64 6]) w₂) = _
      simp only [asAddr, Sem.run_pure, Result.andThen_ok, hld]
/-! ### The law -/
def codeOf : Option MsgM → Int
  | none => 6
  | some _ => 0
def zeroM : MsgM := ⟨0, 0, 0, 0, 0, 0, false, 0, 0, 0, none, 0, [], 0, 0, none, 0, [], none, 0, [], none, 0, []⟩
def contOf : Option MsgM → MsgM
  | none => erase zeroM
  | some c => c
theorem zeroM_rd (w : World) : RdM w zeroM := ⟨Rd.nil _ _ _, (fun e he => by cases he), ⟨Rd.nil _ _ _, Rd.nil _ _ _, Rd.nil _ _ _, by decide, by decide, by decide⟩, by decide, (fun e he => by cases he)⟩
theorem NDPost.two {w w' : World} {r : Option MsgM} {e : Ending} (h : NDPost w r e w') : ∃ (m : MsgM) (y : Int), e = .returned (.tuple #[.agg (mcells m), .int .i64 y]) ∧ RdM w' m ∧ Fresh w w' ∧ y = codeOf r ∧ erase m = contOf r := by
  cases r with
  | none => exact ⟨zeroM, 6, h.1, zeroM_rd w', h.2, rfl, rfl⟩
  | some c =>
    obtain ⟨m, h1, h2, h3, h4⟩ := h
    exact ⟨m, 0, h2, h3, h4, rfl, h1⟩

set_option maxHeartbeats 8000000 in
theorem decodes_any (w : World) (A : Option Addr) (cap : Nat) (b : List UInt8) (hA : Rd w w.heap.size A (b.map bv)) (hc : b.length ≤ cap) (hm : cap ≤ 140737488351232) :
    Calls Try.prog 4 #[.slice A b.length cap] w fun e w' => e = .returned (.bool true) ∧ Fresh w w' := by
  have HA := Lib.hid hA
  have HB := Lib.hid (awake_any w)
  obtain ⟨bn, hbn⟩ : ∃ n, n = b.length := ⟨_, rfl⟩
  have HBN := Lib.hid hbn
  rw [← hbn] at hc ⊢
  clear hA hbn
  by_cases hbig : 100000 < bn
  · have d1 : decide ((100000 : Int) < (bn : Int)) = true := decide_eq_true (by omega)
    have d2 : (100000 : Int) < (bn : Int) := by omega
    go_enter Try.func4, Try.ntmps4
    go_wp2_with fail
    refine HB.out.mono ?_
    rintro e w1 ⟨rfl, f1⟩
    have HF1 := Lib.hid f1
    clear f1
    go_wp2_with fail
    go_ret
    exact ⟨rfl, HF1.out⟩
  · have d1 : decide ((100000 : Int) < (bn : Int)) = false := decide_eq_false (by omega)
    have d2 : ¬ (100000 : Int) < (bn : Int) := by omega
    go_enter Try.func4, Try.ntmps4
    go_wp2_with fail
    refine HB.out.mono ?_
    rintro e w1 ⟨rfl, f1⟩
    have HF1 := Lib.hid f1
    have HN := Lib.hid (netDecode_any w1 A cap b (rd_later HA.out f1) (by rw [← HBN.out]; omega) (by rw [← HBN.out]; exact hc) (by unfold maxLen; omega))
    rw [← HBN.out] at HN
    clear f1
    go_wp2_with fail
    refine HN.out.mono ?_
    rintro e w2 h2
    obtain ⟨m1, y1, rfl, r1, f2, hy1, he1⟩ := h2.two
    have HY1 := Lib.hid hy1
    have HE1 := Lib.hid he1
    have HR1 := Lib.hid r1
    have HF2 := Lib.hid (HF1.out.trans f2)
    clear f2 h2 hy1 he1 r1 HN
    obtain ⟨ca, hca⟩ : ∃ cs : List Value, cs = (mcells m1).toList := ⟨_, rfl⟩
    rw [show (mcells m1) = ca.toArray by rw [hca]]
    have HCA := Lib.hid hca
    obtain ⟨p3, hp3⟩ : ∃ p, w2.heap.size = p := ⟨_, rfl⟩
    obtain ⟨W3, hW3⟩ : ∃ W, w2.alloc (.cells #[.int .i64 0, .int .i64 0, .int .i64 0, .int .i64 0, .int .i64 0, .int .i64 0, .bool false, .int .i64 0, .int .i64 0, .int .i64 0, .slice none 0 0, .int .i64 0, .int .i64 0, .slice none 0 0, .slice none 0 0, .slice none 0 0] 30) = W := ⟨_, rfl⟩
    have HBW3 : Hid (Blk W3 p3 30 #[.int .i64 0, .int .i64 0, .int .i64 0, .int .i64 0, .int .i64 0, .int .i64 0, .bool false, .int .i64 0, .int .i64 0, .int .i64 0, .slice none 0 0, .int .i64 0, .int .i64 0, .slice none 0 0, .slice none 0 0, .slice none 0 0]) := Lib.hid (by rw [← hW3, ← hp3]; exact Blk.new w2 _ _)
    obtain ⟨X3, hX3⟩ : ∃ X, W3.setCells p3 0 ca = X := ⟨_, rfl⟩
    have FX3 : Hid (Fresh w2 X3) := Lib.hid (by
      have F1 : Fresh w2 W3 := by rw [← hW3]; exact ((Frm.refl _ w2).alloc _)
      rw [← hX3]
      exact F1.trans' (frm_setCells p3 ca 0 W3) (fun k hk e => by omega))
    have HBX3 : Hid (Blk X3 p3 30 ca.toArray) := Lib.hid (by rw [← hX3]; exact blk_setAll HBW3.out (by rw [hca]; rfl))
    have HFX3 := Lib.hid (HF2.out.trans FX3.out)
    have HR1X3 : Hid (RdM X3 m1) := Lib.hid (HR1.out.fresh FX3.out)
    have HTH3 : Hid (W3.there p3 0 ca.toArray.size) := Lib.hid (by rw [hca]; exact HBW3.out.there rfl)
    have HTI3 : Hid ((Try.prog.info? 30).map (·.size) = some ca.toArray.size) := Lib.hid (by rw [hca]; kernel_rfl)
    have HTO3 : Hid (ca.toArray.all (·.oneCell') = true) := Lib.hid (by rw [hca]; kernel_rfl)
    clear hca HBW3
    have HD := Lib.hid (refMDecode_any X3 A cap b (rd_later HA.out HFX3.out) (by rw [← HBN.out]; omega) (by rw [← HBN.out]; exact hc) hm)
    rw [← HBN.out] at HD
    go_wp2_with (first | (with_reducible refine wpList_store_mid rfl 30 (.tmp 4) (.tmp 21) rfl p3 0 ca.toArray rfl rfl HTH3.out HTI3.out HTO3.out ?_) | (rw [hW3, hp3]; with_reducible refine wpList_store_mid rfl 30 (.tmp 4) (.tmp 21) rfl p3 0 ca.toArray rfl rfl HTH3.out HTI3.out HTO3.out ?_) | (rw [hp3, hW3]; with_reducible refine wpList_store_mid rfl 30 (.tmp 4) (.tmp 21) rfl p3 0 ca.toArray rfl rfl HTH3.out HTI3.out HTO3.out ?_) | (rw [hW3]; with_reducible refine wpList_store_mid rfl 30 (.tmp 4) (.tmp 21) rfl p3 0 ca.toArray rfl rfl HTH3.out HTI3.out HTO3.out ?_) | (rw [hp3]; with_reducible refine wpList_store_mid rfl 30 (.tmp 4) (.tmp 21) rfl p3 0 ca.toArray rfl rfl HTH3.out HTI3.out HTO3.out ?_))
    clear hX3 hW3 hp3
    refine HD.out.mono ?_
    rintro e w4 h4
    obtain ⟨m2, y2, rfl, r2, f4, hy2, he2⟩ := h4.two
    have HYE : y1 = y2 := by rw [HY1.out, hy2]
    subst HYE
    have HEE : Hid (erase m1 = erase m2) := Lib.hid (by rw [HE1.out, he2])
    have HR2 := Lib.hid r2
    have HF4 := Lib.hid (HFX3.out.trans f4)
    have HR14 := Lib.hid (HR1X3.out.fresh f4)
    have HB4 := Lib.hid (HBX3.out.frm f4 (fun f => f))
    have HP4 : Hid (p3 < w4.heap.size) := Lib.hid HB4.out.lt
    clear f4 h4 hy2 he2 r2 HD
    obtain ⟨cb, hcb⟩ : ∃ cs : List Value, cs = (mcells m2).toList := ⟨_, rfl⟩
    rw [show (mcells m2) = cb.toArray by rw [hcb]]
    have HCB := Lib.hid hcb
    obtain ⟨p5, hp5⟩ : ∃ p, w4.heap.size = p := ⟨_, rfl⟩
    obtain ⟨W5, hW5⟩ : ∃ W, w4.alloc (.cells #[.int .i64 0, .int .i64 0, .int .i64 0, .int .i64 0, .int .i64 0, .int .i64 0, .bool false, .int .i64 0, .int .i64 0, .int .i64 0, .slice none 0 0, .int .i64 0, .int .i64 0, .slice none 0 0, .slice none 0 0, .slice none 0 0] 30) = W := ⟨_, rfl⟩
    have HBW5 : Hid (Blk W5 p5 30 #[.int .i64 0, .int .i64 0, .int .i64 0, .int .i64 0, .int .i64 0, .int .i64 0, .bool false, .int .i64 0, .int .i64 0, .int .i64 0, .slice none 0 0, .int .i64 0, .int .i64 0, .slice none 0 0, .slice none 0 0, .slice none 0 0]) := Lib.hid (by rw [← hW5, ← hp5]; exact Blk.new w4 _ _)
    obtain ⟨X5, hX5⟩ : ∃ X, W5.setCells p5 0 cb = X := ⟨_, rfl⟩
    have FX5 : Hid (Fresh w4 X5) := Lib.hid (by
      have F1 : Fresh w4 W5 := by rw [← hW5]; exact ((Frm.refl _ w4).alloc _)
      rw [← hX5]
      exact F1.trans' (frm_setCells p5 cb 0 W5) (fun k hk e => by omega))
    have HBX5 : Hid (Blk X5 p5 30 cb.toArray) := Lib.hid (by rw [← hX5]; exact blk_setAll HBW5.out (by rw [hcb]; rfl))
    have HFX5 := Lib.hid (HF4.out.trans FX5.out)
    have HR1X5b : Hid (RdM X5 m2) := Lib.hid (HR2.out.fresh FX5.out)
    have HTH5 : Hid (W5.there p5 0 cb.toArray.size) := Lib.hid (by rw [hcb]; exact HBW5.out.there rfl)
    have HTI5 : Hid ((Try.prog.info? 30).map (·.size) = some cb.toArray.size) := Lib.hid (by rw [hcb]; kernel_rfl)
    have HTO5 : Hid (cb.toArray.all (·.oneCell') = true) := Lib.hid (by rw [hcb]; kernel_rfl)
    clear hcb HBW5
    have HR1X5 : Hid (RdM X5 m1) := Lib.hid (HR14.out.fresh FX5.out)
    have HB5 := Lib.hid (HB4.out.frm FX5.out (fun f => f))
    have HCL : Hid (X5.rangeAt p3 0 ca) := Lib.hid (by intro j v hv; rw [Nat.zero_add, HB5.out.cell j]; simpa using hv)
    have HCM : Hid (X5.rangeAt p5 0 cb) := Lib.hid (by intro j v hv; rw [Nat.zero_add, HBX5.out.cell j]; simpa using hv)
    have HCI : Hid ((Try.prog.info? 30).map (·.size) = some ca.length) := Lib.hid (by rw [HCA.out]; kernel_rfl)
    have HCJ : Hid ((Try.prog.info? 30).map (·.size) = some cb.length) := Lib.hid (by rw [HCB.out]; kernel_rfl)
    have HSM : Hid (Calls Try.prog 16 #[.agg ca.toArray, .agg cb.toArray] X5 fun e w' => e = .returned (.bool true) ∧ Fresh X5 w') := Lib.hid (by rw [HCA.out, HCB.out]; exact sameMsg_eq X5 m1 m2 HR1X5.out HR1X5b.out HEE.out)
    have hyy : (y1 == y1) = true := by simp
    go_wp2_with (first | (with_reducible refine wpList_store_mid rfl 30 (.tmp 6) (.tmp 26) rfl p5 0 cb.toArray rfl rfl HTH5.out HTI5.out HTO5.out ?_) | (rw [hW5, hp5]; with_reducible refine wpList_store_mid rfl 30 (.tmp 6) (.tmp 26) rfl p5 0 cb.toArray rfl rfl HTH5.out HTI5.out HTO5.out ?_) | (rw [hp5, hW5]; with_reducible refine wpList_store_mid rfl 30 (.tmp 6) (.tmp 26) rfl p5 0 cb.toArray rfl rfl HTH5.out HTI5.out HTO5.out ?_) | (rw [hW5]; with_reducible refine wpList_store_mid rfl 30 (.tmp 6) (.tmp 26) rfl p5 0 cb.toArray rfl rfl HTH5.out HTI5.out HTO5.out ?_) | (rw [hp5]; with_reducible refine wpList_store_mid rfl 30 (.tmp 6) (.tmp 26) rfl p5 0 cb.toArray rfl rfl HTH5.out HTI5.out HTO5.out ?_) | (with_reducible refine wpList_load_mid rfl 30 (.tmp 4) rfl p3 0 rfl ca _ HCL.out Try.underlying30 rfl HCI.out ?_) | (with_reducible refine wpList_load_mid rfl 30 (.tmp 6) rfl p5 0 rfl cb _ HCM.out Try.underlying30 rfl HCJ.out ?_) | (rw [show W5.setCells p5 0 cb.toArray.toList = X5 from hX5]; with_reducible refine wpList_load_mid rfl 30 (.tmp 4) rfl p3 0 rfl ca _ HCL.out Try.underlying30 rfl HCI.out ?_) | (rw [hX5]; with_reducible refine wpList_load_mid rfl 30 (.tmp 4) rfl p3 0 rfl ca _ HCL.out Try.underlying30 rfl HCI.out ?_))
    clear hX5 hW5 hp5
    refine HSM.out.mono ?_
    rintro e w6 ⟨rfl, f6⟩
    have HF6 := Lib.hid (HFX5.out.trans f6)
    clear f6
    go_wp2_with fail
    go_ret
    exact ⟨by first | rfl | simp, HF6.out⟩
theorem decodes_walk (w : World) (A : Option Addr) (cap : Nat) (bs : List UInt8) (hb : IsBytes w A cap bs) (hr : cap ≤ 140737488351232) :
    Calls Try.prog 4 #[.slice A bs.length cap] w fun e w' => e = .returned (.bool true) ∧ Below w.heap.size w w' :=
  (decodes_any w A cap bs hb.rd hb.le hr).mono fun e w' h => ⟨h.1, Fresh.below h.2⟩
end Go.Proofs.Ytlceembcehokoaa

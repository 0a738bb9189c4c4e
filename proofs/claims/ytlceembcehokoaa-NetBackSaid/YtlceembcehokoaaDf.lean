/- Dn7. (Put together by mg.py.) -/
import Derived.Test.YtlceembcehokoaaDd
import Derived.Laws.ResultCell
namespace Go.Proofs.Ytlceembcehokoaa
open Go.RowKit ReadM
set_option linter.unusedVariables false
set_option maxRecDepth 100000

theorem info_en7 : (Try.prog.info? 70).map (fun i => (i.zero, i.size, i.bytes)) = some (some (.agg #[.int .i64 0, .int .i64 0, .int .i64 0, .slice none 0 0]), 4, 48) := by kernel_rfl

set_option maxHeartbeats 32000000 in
theorem refMDecode_one (w : World) (A : Option Addr) (cap : Nat) (b x : List UInt8) (hsc : Rc.scan b = ([x], b.length)) (hA : Rd w w.heap.size A (b.map bv)) (hl : b.length ≤ 1000000) (hc : b.length ≤ cap) (hm : cap ≤ 140737488351232) (hxl : x.length ≤ 1000000) :
    Calls Try.prog 15 #[.slice A b.length cap] w fun e w' => NDPost w (decX x) e w' := by
  have HA := Lib.hid hA
  obtain ⟨W0, hW0⟩ : ∃ W0, w.alloc (.cells msg0 30) = W0 := ⟨_, rfl⟩
  have HF0 : Hid (Fresh w W0) := Lib.hid (by rw [← hW0]; exact ((Frm.refl _ w).alloc _))
  have BX : Hid (Blk W0 w.heap.size 30 msg0) := Lib.hid (by rw [← hW0]; exact (Blk.new w _ msg0))
  unfold msg0 at hW0
  clear hA
  go_enter Try.func15, Try.ntmps15
  go_wp2_with fail
  first | rw [hW0] | skip
  clear hW0
  have HSC := Rc.refScan_any W0 A cap b ((HA.out.fresh (Nat.le_refl _) HF0.out).more HF0.out.size) (by omega) (by omega) hm
  unfold Rc.ScanPost at HSC
  rw [hsc] at HSC
  refine HSC.mono ?_
  rintro e w1 ⟨v1, rfl, hL, f1⟩
  obtain ⟨bl, ol, capl, A1, c1, rfl, k1, hle1, hm1, hr1⟩ := lists_one hL
  have HR1 := Lib.hid hr1
  have HF1 := Lib.hid (HF0.out.trans f1)
  have BX1 := Lib.hid (BX.out.frm f1 (fun f => f))
  clear hL hr1 f1 HSC BX HF0
  dsimp only
  obtain ⟨g, hg⟩ : ∃ g, g = w1.heap.size := ⟨_, rfl⟩
  obtain ⟨W1, hW1⟩ : ∃ W1, w1.alloc (.cells #[.slice A1 x.length c1, .int .i64 0, .bool false] 93) = W1 := ⟨_, rfl⟩
  have HDa : Hid (MD w g (x, false) W1) := Lib.hid (by
    have F1 : Fresh w1 W1 := by rw [← hW1]; exact ((Frm.refl _ w1).alloc _)
    have hgs : w.heap.size < w1.heap.size := BX1.out.lt
    refine ⟨⟨x, 0, ⟨A1, c1, ?_, ?_, hle1, hm1, Nat.le_refl _⟩, Nat.zero_le _, by omega, fun _ => by simp⟩, by omega, BX1.out.frm F1 (fun f => f), HF1.out.trans F1⟩
    · rw [← hW1, hg]
      exact Blk.new w1 _ _
    · have h1 := (HR1.out.fresh (Nat.le_refl _) F1).more (B' := g) (by omega)
      exact h1)
  go_upto_region 5 with fail
  rw [← hg]
  first | rw [hW1] | skip
  clear hW1 hg HR1 HF1 BX1 HA
  obtain ⟨⟨a0, t0⟩, h0⟩ : ∃ y, rdn 10 (x, false) = y := ⟨_, rfl⟩
  obtain ⟨⟨a1, t1⟩, h1⟩ : ∃ y, rdn 15 t0 = y := ⟨_, rfl⟩
  obtain ⟨⟨a2, t2⟩, h2⟩ : ∃ y, rdn 15 t1 = y := ⟨_, rfl⟩
  obtain ⟨⟨a3, t3⟩, h3⟩ : ∃ y, rdn 1099511627776 t2 = y := ⟨_, rfl⟩
  obtain ⟨⟨a4, t4⟩, h4⟩ : ∃ y, rdi t3 = y := ⟨_, rfl⟩
  obtain ⟨⟨a5, t5⟩, h5⟩ : ∃ y, rdn 1099511627776 t4 = y := ⟨_, rfl⟩
  obtain ⟨⟨a6, t6⟩, h6⟩ : ∃ y, rdn 1 t5 = y := ⟨_, rfl⟩
  obtain ⟨⟨a7, t7⟩, h7⟩ : ∃ y, rdn 1099511627776 t6 = y := ⟨_, rfl⟩
  obtain ⟨⟨a8, t8⟩, h8⟩ : ∃ y, rdi t7 = y := ⟨_, rfl⟩
  obtain ⟨⟨a9, t9⟩, h9⟩ : ∃ y, rdn 1099511627776 t8 = y := ⟨_, rfl⟩
  obtain ⟨⟨a10, t10⟩, h10⟩ : ∃ y, rdn 8 t9 = y := ⟨_, rfl⟩
  have HHD : Hid (readH (x, false) = (⟨a0, a1, a2, a3, a4, a5, a6, a7, a8, a9, a10⟩, t10)) := Lib.hid (by
    unfold readH
    dsimp only
    rw [h0]
    dsimp only
    rw [h1]
    dsimp only
    rw [h2]
    dsimp only
    rw [h3]
    dsimp only
    rw [h4]
    dsimp only
    rw [h5]
    dsimp only
    rw [h6]
    dsimp only
    rw [h7]
    dsimp only
    rw [h8]
    dsimp only
    rw [h9]
    dsimp only
    rw [h10])
  have ha0 : a0 ≤ 10 := by have := rdn_le 10 (x, false); rw [h0] at this; exact this
  have ha1 : a1 ≤ 15 := by have := rdn_le 15 t0; rw [h1] at this; exact this
  have ha2 : a2 ≤ 15 := by have := rdn_le 15 t1; rw [h2] at this; exact this
  have ha3 : a3 ≤ 1099511627776 := by have := rdn_le 1099511627776 t2; rw [h3] at this; exact this
  have ha5 : a5 ≤ 1099511627776 := by have := rdn_le 1099511627776 t4; rw [h5] at this; exact this
  have ha6 : a6 ≤ 1 := by have := rdn_le 1 t5; rw [h6] at this; exact this
  have ha7 : a7 ≤ 1099511627776 := by have := rdn_le 1099511627776 t6; rw [h7] at this; exact this
  have ha9 : a9 ≤ 1099511627776 := by have := rdn_le 1099511627776 t8; rw [h9] at this; exact this
  have ha10 : a10 ≤ 8 := by have := rdn_le 8 t9; rw [h10] at this; exact this
  have hw0 : IntKind.i64.wrap (a0 : Int) = (a0 : Int) := IntWalk.i64_in _ (by omega)
  have hw1 : IntKind.i64.wrap (a1 : Int) = (a1 : Int) := IntWalk.i64_in _ (by omega)
  have hw2 : IntKind.i64.wrap (a2 : Int) = (a2 : Int) := IntWalk.i64_in _ (by omega)
  have hw3 : IntKind.i64.wrap (a3 : Int) = (a3 : Int) := IntWalk.i64_in _ (by omega)
  have hw5 : IntKind.i64.wrap (a5 : Int) = (a5 : Int) := IntWalk.i64_in _ (by omega)
  have hw7 : IntKind.i64.wrap (a7 : Int) = (a7 : Int) := IntWalk.i64_in _ (by omega)
  have hw9 : IntKind.i64.wrap (a9 : Int) = (a9 : Int) := IntWalk.i64_in _ (by omega)
  have H0 := Lib.hid h0
  have H1 := Lib.hid h1
  have H2 := Lib.hid h2
  have H3 := Lib.hid h3
  have H4 := Lib.hid h4
  have H5 := Lib.hid h5
  have H6 := Lib.hid h6
  have H7 := Lib.hid h7
  have H8 := Lib.hid h8
  have H9 := Lib.hid h9
  have H10 := Lib.hid h10
  have hyq : ((a6 : Int) == 1) = decide (a6 = 1) := by rw [Bool.eq_iff_iff, beq_iff_eq, decide_eq_true_eq]; omega
  clear h0 h1 h2 h3 h4 h5 h6 h7 h8 h9 h10
  go_wp2_with fail
  refine (HDa.out.num 10 H0.out).mono ?_
  rintro e wb ⟨rfl, hn, _⟩
  have HDb := Lib.hid hn
  clear hn HDa
  go_wp2_with fail
  refine (HDb.out.num 15 H1.out).mono ?_
  rintro e wc ⟨rfl, hn, _⟩
  have HDc := Lib.hid hn
  clear hn HDb
  go_wp2_with fail
  refine (HDc.out.num 15 H2.out).mono ?_
  rintro e wd ⟨rfl, hn, _⟩
  have HDd := Lib.hid hn
  clear hn HDc
  go_wp2_with fail
  refine (HDd.out.num 1099511627776 H3.out).mono ?_
  rintro e we ⟨rfl, hn, _⟩
  have HDe := Lib.hid hn
  clear hn HDd
  obtain ⟨W5, hW5⟩ : ∃ W, we.alloc (.cells #[.int .i64 0, .int .i64 0, .int .i64 0, .int .i64 0, .int .i64 0, .int .i64 0, .bool false, .int .i64 0, .int .i64 0, .int .i64 0, .slice none 0 0, .int .i64 0, .int .i64 0, .slice none 0 0, .slice none 0 0, .slice none 0 0] 30) = W := ⟨_, rfl⟩
  obtain ⟨q, hq⟩ : ∃ q, we.heap.size = q := ⟨_, rfl⟩
  have HD5 : Hid (MD w g t3 W5) := Lib.hid (by rw [← hW5]; exact HDe.out.fresh ((Frm.refl _ we).alloc _))
  have HQ5 : Hid (BoxT g q 30 msg0 W5) := Lib.hid ⟨by rw [← hq]; exact HDe.out.glt, by rw [← hW5, ← hq]; exact Blk.new we _ _⟩
  have HTH5 : Hid (W5.there q 0 (#[.int .i64 (a0 : Int), .int .i64 (a1 : Int), .int .i64 (a2 : Int), .int .i64 (a3 : Int), .int .i64 0, .int .i64 0, .bool false, .int .i64 0, .int .i64 0, .int .i64 0, .slice none 0 0, .int .i64 0, .int .i64 0, .slice none 0 0, .slice none 0 0, .slice none 0 0] : Array Value).size) := Lib.hid (HQ5.out.2.there rfl)
  have HI5 : Hid ((Try.prog.info? 30).map (·.size) = some (#[.int .i64 (a0 : Int), .int .i64 (a1 : Int), .int .i64 (a2 : Int), .int .i64 (a3 : Int), .int .i64 0, .int .i64 0, .bool false, .int .i64 0, .int .i64 0, .int .i64 0, .slice none 0 0, .int .i64 0, .int .i64 0, .slice none 0 0, .slice none 0 0, .slice none 0 0] : Array Value).size) := Lib.hid (by kernel_rfl)
  have HO5 : Hid ((#[.int .i64 (a0 : Int), .int .i64 (a1 : Int), .int .i64 (a2 : Int), .int .i64 (a3 : Int), .int .i64 0, .int .i64 0, .bool false, .int .i64 0, .int .i64 0, .int .i64 0, .slice none 0 0, .int .i64 0, .int .i64 0, .slice none 0 0, .slice none 0 0, .slice none 0 0] : Array Value).all (·.oneCell') = true) := Lib.hid (by kernel_rfl)
  obtain ⟨W, hW⟩ : ∃ W, W5.setCells q 0 (#[.int .i64 (a0 : Int), .int .i64 (a1 : Int), .int .i64 (a2 : Int), .int .i64 (a3 : Int), .int .i64 0, .int .i64 0, .bool false, .int .i64 0, .int .i64 0, .int .i64 0, .slice none 0 0, .int .i64 0, .int .i64 0, .slice none 0 0, .slice none 0 0, .slice none 0 0] : Array Value).toList = W := ⟨_, rfl⟩
  have FW : Frm (fun j => j = q) W5 W := by
    have := frm_setCells q (#[.int .i64 (a0 : Int), .int .i64 (a1 : Int), .int .i64 (a2 : Int), .int .i64 (a3 : Int), .int .i64 0, .int .i64 0, .bool false, .int .i64 0, .int .i64 0, .int .i64 0, .slice none 0 0, .int .i64 0, .int .i64 0, .slice none 0 0, .slice none 0 0, .slice none 0 0] : Array Value).toList 0 W5
    have e : (fun k => q = k) = (fun k => k = q) := by funext k; exact propext eq_comm
    rw [e, hW] at this
    exact this
  have HD3 : Hid (MD w g t3 W) := Lib.hid (HD5.out.write HQ5.out.1 FW)
  have HB3 : Hid (BoxT g q 30 #[.int .i64 (a0 : Int), .int .i64 (a1 : Int), .int .i64 (a2 : Int), .int .i64 (a3 : Int), .int .i64 0, .int .i64 0, .bool false, .int .i64 0, .int .i64 0, .int .i64 0, .slice none 0 0, .int .i64 0, .int .i64 0, .slice none 0 0, .slice none 0 0, .slice none 0 0] W) := Lib.hid ⟨HQ5.out.1, by rw [← hW]; exact blk_all HQ5.out.2 _ rfl⟩
  clear FW
  go_wp2_with (first | (with_reducible refine wpList_store_mid rfl 30 (.tmp 7) (.tmp 48) rfl q 0 #[.int .i64 (a0 : Int), .int .i64 (a1 : Int), .int .i64 (a2 : Int), .int .i64 (a3 : Int), .int .i64 0, .int .i64 0, .bool false, .int .i64 0, .int .i64 0, .int .i64 0, .slice none 0 0, .int .i64 0, .int .i64 0, .slice none 0 0, .slice none 0 0, .slice none 0 0] rfl rfl HTH5.out HI5.out HO5.out ?_) | (rw [hW5, hq]; with_reducible refine wpList_store_mid rfl 30 (.tmp 7) (.tmp 48) rfl q 0 #[.int .i64 (a0 : Int), .int .i64 (a1 : Int), .int .i64 (a2 : Int), .int .i64 (a3 : Int), .int .i64 0, .int .i64 0, .bool false, .int .i64 0, .int .i64 0, .int .i64 0, .slice none 0 0, .int .i64 0, .int .i64 0, .slice none 0 0, .slice none 0 0, .slice none 0 0] rfl rfl HTH5.out HI5.out HO5.out ?_) | (rw [hq, hW5]; with_reducible refine wpList_store_mid rfl 30 (.tmp 7) (.tmp 48) rfl q 0 #[.int .i64 (a0 : Int), .int .i64 (a1 : Int), .int .i64 (a2 : Int), .int .i64 (a3 : Int), .int .i64 0, .int .i64 0, .bool false, .int .i64 0, .int .i64 0, .int .i64 0, .slice none 0 0, .int .i64 0, .int .i64 0, .slice none 0 0, .slice none 0 0, .slice none 0 0] rfl rfl HTH5.out HI5.out HO5.out ?_) | (rw [hW5]; with_reducible refine wpList_store_mid rfl 30 (.tmp 7) (.tmp 48) rfl q 0 #[.int .i64 (a0 : Int), .int .i64 (a1 : Int), .int .i64 (a2 : Int), .int .i64 (a3 : Int), .int .i64 0, .int .i64 0, .bool false, .int .i64 0, .int .i64 0, .int .i64 0, .slice none 0 0, .int .i64 0, .int .i64 0, .slice none 0 0, .slice none 0 0, .slice none 0 0] rfl rfl HTH5.out HI5.out HO5.out ?_) | (rw [hq]; with_reducible refine wpList_store_mid rfl 30 (.tmp 7) (.tmp 48) rfl q 0 #[.int .i64 (a0 : Int), .int .i64 (a1 : Int), .int .i64 (a2 : Int), .int .i64 (a3 : Int), .int .i64 0, .int .i64 0, .bool false, .int .i64 0, .int .i64 0, .int .i64 0, .slice none 0 0, .int .i64 0, .int .i64 0, .slice none 0 0, .slice none 0 0, .slice none 0 0] rfl rfl HTH5.out HI5.out HO5.out ?_))
  first | rw [hW] | skip
  clear hW hW5 hq HDe HD5 HQ5 HTH5 HI5 HO5
  refine (HD3.out.int H4.out).mono ?_
  rintro e w4 ⟨rfl, h4, f4⟩
  have HR4 := Lib.hid (HD3.out.boxOn (by decide) HB3.out f4)
  have y4 : w4.cell? ⟨q, 4, none⟩ = some (.int .i64 0) := HR4.out.2.cell 4
  have z4 : w4.frozen? ⟨q, 4, none⟩ = false := HR4.out.2.frozen 4
  obtain ⟨V4, hV4⟩ : ∃ V, w4.setCell ⟨q, 4, none⟩ (.int .i64 a4) = V := ⟨_, rfl⟩
  have FS4 : Frm (fun j => j = q) w4 V4 := by rw [← hV4]; exact (Frm.refl (fun j => j = q) w4).setCell (p := ⟨q, 4, none⟩) (fun _ => rfl) _
  have HD4 : Hid (MD w g t4 V4) := Lib.hid (h4.write HR4.out.1 FS4)
  have HB4 : Hid (BoxT g q 30 #[.int .i64 (a0 : Int), .int .i64 (a1 : Int), .int .i64 (a2 : Int), .int .i64 (a3 : Int), .int .i64 a4, .int .i64 0, .bool false, .int .i64 0, .int .i64 0, .int .i64 0, .slice none 0 0, .int .i64 0, .int .i64 0, .slice none 0 0, .slice none 0 0, .slice none 0 0] V4) := Lib.hid (by
    refine ⟨HR4.out.1, ?_⟩
    rw [← hV4]
    exact HR4.out.2.set 4 _)
  clear h4 f4 FS4 HR4 HD3 HB3
  go_wp2_with fail
  clear hV4 y4 z4
  refine (HD4.out.num 1099511627776 H5.out).mono ?_
  rintro e w5 ⟨rfl, h5, f5⟩
  have HR5 := Lib.hid (HD4.out.boxOn (by decide) HB4.out f5)
  have y5 : w5.cell? ⟨q, 5, none⟩ = some (.int .i64 0) := HR5.out.2.cell 5
  have z5 : w5.frozen? ⟨q, 5, none⟩ = false := HR5.out.2.frozen 5
  obtain ⟨V5, hV5⟩ : ∃ V, w5.setCell ⟨q, 5, none⟩ (.int .i64 (a5 : Int)) = V := ⟨_, rfl⟩
  have FS5 : Frm (fun j => j = q) w5 V5 := by rw [← hV5]; exact (Frm.refl (fun j => j = q) w5).setCell (p := ⟨q, 5, none⟩) (fun _ => rfl) _
  have HD5 : Hid (MD w g t5 V5) := Lib.hid (h5.write HR5.out.1 FS5)
  have HB5 : Hid (BoxT g q 30 #[.int .i64 (a0 : Int), .int .i64 (a1 : Int), .int .i64 (a2 : Int), .int .i64 (a3 : Int), .int .i64 a4, .int .i64 (a5 : Int), .bool false, .int .i64 0, .int .i64 0, .int .i64 0, .slice none 0 0, .int .i64 0, .int .i64 0, .slice none 0 0, .slice none 0 0, .slice none 0 0] V5) := Lib.hid (by
    refine ⟨HR5.out.1, ?_⟩
    rw [← hV5]
    exact HR5.out.2.set 5 _)
  clear h5 f5 FS5 HR5 HD4 HB4
  go_wp2_with fail
  clear hV5 y5 z5
  refine (HD5.out.num 1 H6.out).mono ?_
  rintro e w6 ⟨rfl, h6, f6⟩
  have HR6 := Lib.hid (HD5.out.boxOn (by decide) HB5.out f6)
  have y6 : w6.cell? ⟨q, 6, none⟩ = some (.bool false) := HR6.out.2.cell 6
  have z6 : w6.frozen? ⟨q, 6, none⟩ = false := HR6.out.2.frozen 6
  obtain ⟨V6, hV6⟩ : ∃ V, w6.setCell ⟨q, 6, none⟩ (.bool (decide (a6 = 1))) = V := ⟨_, rfl⟩
  have FS6 : Frm (fun j => j = q) w6 V6 := by rw [← hV6]; exact (Frm.refl (fun j => j = q) w6).setCell (p := ⟨q, 6, none⟩) (fun _ => rfl) _
  have HD6 : Hid (MD w g t6 V6) := Lib.hid (h6.write HR6.out.1 FS6)
  have HB6 : Hid (BoxT g q 30 #[.int .i64 (a0 : Int), .int .i64 (a1 : Int), .int .i64 (a2 : Int), .int .i64 (a3 : Int), .int .i64 a4, .int .i64 (a5 : Int), .bool (decide (a6 = 1)), .int .i64 0, .int .i64 0, .int .i64 0, .slice none 0 0, .int .i64 0, .int .i64 0, .slice none 0 0, .slice none 0 0, .slice none 0 0] V6) := Lib.hid (by
    refine ⟨HR6.out.1, ?_⟩
    rw [← hV6]
    exact HR6.out.2.set 6 _)
  clear h6 f6 FS6 HR6 HD5 HB5
  go_wp2_with fail
  clear hV6 y6 z6
  refine (HD6.out.num 1099511627776 H7.out).mono ?_
  rintro e w7 ⟨rfl, h7, f7⟩
  have HR7 := Lib.hid (HD6.out.boxOn (by decide) HB6.out f7)
  have y7 : w7.cell? ⟨q, 7, none⟩ = some (.int .i64 0) := HR7.out.2.cell 7
  have z7 : w7.frozen? ⟨q, 7, none⟩ = false := HR7.out.2.frozen 7
  obtain ⟨V7, hV7⟩ : ∃ V, w7.setCell ⟨q, 7, none⟩ (.int .i64 (a7 : Int)) = V := ⟨_, rfl⟩
  have FS7 : Frm (fun j => j = q) w7 V7 := by rw [← hV7]; exact (Frm.refl (fun j => j = q) w7).setCell (p := ⟨q, 7, none⟩) (fun _ => rfl) _
  have HD7 : Hid (MD w g t7 V7) := Lib.hid (h7.write HR7.out.1 FS7)
  have HB7 : Hid (BoxT g q 30 #[.int .i64 (a0 : Int), .int .i64 (a1 : Int), .int .i64 (a2 : Int), .int .i64 (a3 : Int), .int .i64 a4, .int .i64 (a5 : Int), .bool (decide (a6 = 1)), .int .i64 (a7 : Int), .int .i64 0, .int .i64 0, .slice none 0 0, .int .i64 0, .int .i64 0, .slice none 0 0, .slice none 0 0, .slice none 0 0] V7) := Lib.hid (by
    refine ⟨HR7.out.1, ?_⟩
    rw [← hV7]
    exact HR7.out.2.set 7 _)
  clear h7 f7 FS7 HR7 HD6 HB6
  go_wp2_with fail
  clear hV7 y7 z7
  refine (HD7.out.int H8.out).mono ?_
  rintro e w8 ⟨rfl, h8, f8⟩
  have HR8 := Lib.hid (HD7.out.boxOn (by decide) HB7.out f8)
  have y8 : w8.cell? ⟨q, 8, none⟩ = some (.int .i64 0) := HR8.out.2.cell 8
  have z8 : w8.frozen? ⟨q, 8, none⟩ = false := HR8.out.2.frozen 8
  obtain ⟨V8, hV8⟩ : ∃ V, w8.setCell ⟨q, 8, none⟩ (.int .i64 a8) = V := ⟨_, rfl⟩
  have FS8 : Frm (fun j => j = q) w8 V8 := by rw [← hV8]; exact (Frm.refl (fun j => j = q) w8).setCell (p := ⟨q, 8, none⟩) (fun _ => rfl) _
  have HD8 : Hid (MD w g t8 V8) := Lib.hid (h8.write HR8.out.1 FS8)
  have HB8 : Hid (BoxT g q 30 #[.int .i64 (a0 : Int), .int .i64 (a1 : Int), .int .i64 (a2 : Int), .int .i64 (a3 : Int), .int .i64 a4, .int .i64 (a5 : Int), .bool (decide (a6 = 1)), .int .i64 (a7 : Int), .int .i64 a8, .int .i64 0, .slice none 0 0, .int .i64 0, .int .i64 0, .slice none 0 0, .slice none 0 0, .slice none 0 0] V8) := Lib.hid (by
    refine ⟨HR8.out.1, ?_⟩
    rw [← hV8]
    exact HR8.out.2.set 8 _)
  clear h8 f8 FS8 HR8 HD7 HB7
  go_wp2_with fail
  clear hV8 y8 z8
  refine (HD8.out.num 1099511627776 H9.out).mono ?_
  rintro e w9 ⟨rfl, h9, f9⟩
  have HR9 := Lib.hid (HD8.out.boxOn (by decide) HB8.out f9)
  have y9 : w9.cell? ⟨q, 9, none⟩ = some (.int .i64 0) := HR9.out.2.cell 9
  have z9 : w9.frozen? ⟨q, 9, none⟩ = false := HR9.out.2.frozen 9
  obtain ⟨V9, hV9⟩ : ∃ V, w9.setCell ⟨q, 9, none⟩ (.int .i64 (a9 : Int)) = V := ⟨_, rfl⟩
  have FS9 : Frm (fun j => j = q) w9 V9 := by rw [← hV9]; exact (Frm.refl (fun j => j = q) w9).setCell (p := ⟨q, 9, none⟩) (fun _ => rfl) _
  have HD9 : Hid (MD w g t9 V9) := Lib.hid (h9.write HR9.out.1 FS9)
  have HB9 : Hid (BoxT g q 30 #[.int .i64 (a0 : Int), .int .i64 (a1 : Int), .int .i64 (a2 : Int), .int .i64 (a3 : Int), .int .i64 a4, .int .i64 (a5 : Int), .bool (decide (a6 = 1)), .int .i64 (a7 : Int), .int .i64 a8, .int .i64 (a9 : Int), .slice none 0 0, .int .i64 0, .int .i64 0, .slice none 0 0, .slice none 0 0, .slice none 0 0] V9) := Lib.hid (by
    refine ⟨HR9.out.1, ?_⟩
    rw [← hV9]
    exact HR9.out.2.set 9 _)
  clear h9 f9 FS9 HR9 HD8 HB8
  go_wp2_with fail
  clear hV9 y9 z9
  refine (HD9.out.num 8 H10.out).mono ?_
  rintro e w10 ⟨rfl, h10, f10⟩
  have HD10 := Lib.hid h10
  have HB10 := Lib.hid (HD9.out.boxOn (by decide) HB9.out f10)
  clear h10 f10 HD9 HB9 hyq
  go_wp2_with fail
  obtain ⟨hd, hhd⟩ : ∃ hd : HdM, hd = ⟨a0, a1, a2, a3, a4, a5, a6, a7, a8, a9, a10⟩ := ⟨_, rfl⟩
  obtain ⟨B, hB⟩ : ∃ B, B = w10.heap.size := ⟨_, rfl⟩
  have HLI : Hid (LR w B g q hd [] (.slice none 0 0) t10 w10) := Lib.hid (by
    rw [hB, hhd]
    exact ⟨HD10.out, HB10.out, Sl.nil _ _ _ _, (fun e he => by cases he), Nat.le_refl _, HB10.out.2.lt⟩)
  have HHE := Lib.hid hhd
  clear HD10 HB10 hB hhd
  obtain ⟨ie, hie, hze0, hze1, hze2⟩ := info_parts info_en7
  go_loopw [9] (fun v9 wr => ∃ (i : Nat) (l : List En) (v : Value) (z : RS), i ≤ a10 ∧ v9 = .int .u64 (i : Int) ∧ l.length = i ∧ readEs a10 [] t10 = readEs (a10 - i) (l.map eraseE) z ∧ LR w B g q hd l v z wr) (fun v9 _ => a10 - (intOf v9).toNat)
  case atStart => exact ⟨0, [], _, t10, by omega, rfl, rfl, rfl, HLI.out⟩
  case round =>
    clear HLI
    obtain ⟨i, l, v, z, hin, rfl, hli, hre, hI⟩ := hrel
    have hi0 : (0 : Int) ≤ (i : Int) := by omega
    have HLN := Lib.hid hli
    have hll : l.length ≤ 8 := by omega
    have HRD := Lib.hid hre
    have HI := Lib.hid hI
    clear hli hre hI
    by_cases hlt : i < a10
    · have hlti : (i : Int) < (a10 : Int) := by omega
      obtain ⟨⟨b0, u0⟩, k0⟩ : ∃ y, rdn 1099511627776 z = y := ⟨_, rfl⟩
      obtain ⟨⟨b1, u1⟩, k1'⟩ : ∃ y, rdn 1099511627776 u0 = y := ⟨_, rfl⟩
      obtain ⟨⟨b2, u2⟩, k2⟩ : ∃ y, rdn 7 u1 = y := ⟨_, rfl⟩
      obtain ⟨⟨dd, u3⟩, k3⟩ : ∃ y, rdt 4096 u2 = y := ⟨_, rfl⟩
      have HRE : Hid (readE z = (⟨(b0 : Int), (b1 : Int), (b2 : Int), none, 0, dd⟩, u3)) := Lib.hid (by
        unfold readE
        dsimp only
        rw [k0]
        dsimp only
        rw [k1']
        dsimp only
        rw [k2]
        dsimp only
        rw [k3])
      have hdd : dd.length ≤ 4096 := by have := rdt_le (most := 4096) (by omega) u2; rw [k3] at this; dsimp only at this; omega
      have hb0 : b0 ≤ 1099511627776 := by have := rdn_le 1099511627776 z; rw [k0] at this; exact this
      have hb1 : b1 ≤ 1099511627776 := by have := rdn_le 1099511627776 u0; rw [k1'] at this; exact this
      have hb2 : b2 ≤ 7 := by have := rdn_le 7 u1; rw [k2] at this; exact this
      have hx0 : IntKind.i64.wrap (b0 : Int) = (b0 : Int) := IntWalk.i64_in _ (by omega)
      have hx1 : IntKind.i64.wrap (b1 : Int) = (b1 : Int) := IntWalk.i64_in _ (by omega)
      have hx2 : IntKind.i64.wrap (b2 : Int) = (b2 : Int) := IntWalk.i64_in _ (by omega)
      have K0 := Lib.hid k0
      have K1 := Lib.hid k1'
      have K2 := Lib.hid k2
      have K3 := Lib.hid k3
      clear k0 k1' k2 k3
      go_wp2_with fail
      refine (HI.out.nd.num 1099511627776 K0.out).mono ?_
      rintro e x0 ⟨rfl, hn, fn⟩
      have HI0 := Lib.hid (HI.out.read hn fn)
      clear hn fn HI
      go_wp2_with fail
      refine (HI0.out.nd.num 1099511627776 K1.out).mono ?_
      rintro e x1 ⟨rfl, hn, fn⟩
      have HI1 := Lib.hid (HI0.out.read hn fn)
      clear hn fn HI0
      go_wp2_with fail
      refine (HI1.out.nd.num 7 K2.out).mono ?_
      rintro e x2 ⟨rfl, hn, fn⟩
      have HI2 := Lib.hid (HI1.out.read hn fn)
      clear hn fn HI1
      obtain ⟨WE, hWE⟩ : ∃ W, x2.alloc (.cells #[.int .i64 0, .int .i64 0, .int .i64 0, .slice none 0 0] 70) = W := ⟨_, rfl⟩
      obtain ⟨qe, hqe⟩ : ∃ q, x2.heap.size = q := ⟨_, rfl⟩
      have HQE : Hid (EBox B g qe v #[.int .i64 0, .int .i64 0, .int .i64 0, .slice none 0 0] WE) := Lib.hid (by rw [← hWE, ← hqe]; exact HI2.out.newbox _)
      have HIE0 : Hid (LR w B g q hd l v u2 WE) := Lib.hid (by rw [← hWE]; exact HI2.out.fresh ((Frm.refl _ x2).alloc _))
      have HTHE : Hid (WE.there qe 0 (#[.int .i64 (b0 : Int), .int .i64 (b1 : Int), .int .i64 (b2 : Int), .slice none 0 0] : Array Value).size) := Lib.hid (HQE.out.1.2.there rfl)
      have HIE : Hid ((Try.prog.info? 70).map (·.size) = some (#[.int .i64 (b0 : Int), .int .i64 (b1 : Int), .int .i64 (b2 : Int), .slice none 0 0] : Array Value).size) := Lib.hid (by kernel_rfl)
      have HOE : Hid ((#[.int .i64 (b0 : Int), .int .i64 (b1 : Int), .int .i64 (b2 : Int), .slice none 0 0] : Array Value).all (·.oneCell') = true) := Lib.hid (by kernel_rfl)
      obtain ⟨X, hX⟩ : ∃ W, WE.setCells qe 0 (#[.int .i64 (b0 : Int), .int .i64 (b1 : Int), .int .i64 (b2 : Int), .slice none 0 0] : Array Value).toList = W := ⟨_, rfl⟩
      have HIN : Hid (LR w B g q hd l v u2 X) := Lib.hid (by rw [← hX]; exact (HIE0.out.stored HQE.out [.int .i64 (b0 : Int), .int .i64 (b1 : Int), .int .i64 (b2 : Int), .slice none 0 0] rfl).1)
      have HX : Hid (EBox B g qe v #[.int .i64 (b0 : Int), .int .i64 (b1 : Int), .int .i64 (b2 : Int), .slice none 0 0] X) := Lib.hid (by rw [← hX]; exact (HIE0.out.stored HQE.out [.int .i64 (b0 : Int), .int .i64 (b1 : Int), .int .i64 (b2 : Int), .slice none 0 0] rfl).2)
      have HTX := Lib.hid (dText X g g u2 4096 (by omega) HIN.out.nd.rdr)
      unfold DText at HTX
      rw [K3.out] at HTX
      clear HI2 HIE0 HQE
      go_wp2_with (first | (with_reducible refine wpList_store_mid rfl 70 (.tmp 10) (.tmp 87) rfl qe 0 #[.int .i64 (b0 : Int), .int .i64 (b1 : Int), .int .i64 (b2 : Int), .slice none 0 0] rfl rfl HTHE.out HIE.out HOE.out ?_) | (rw [hWE, hqe]; with_reducible refine wpList_store_mid rfl 70 (.tmp 10) (.tmp 87) rfl qe 0 #[.int .i64 (b0 : Int), .int .i64 (b1 : Int), .int .i64 (b2 : Int), .slice none 0 0] rfl rfl HTHE.out HIE.out HOE.out ?_) | (rw [hqe, hWE]; with_reducible refine wpList_store_mid rfl 70 (.tmp 10) (.tmp 87) rfl qe 0 #[.int .i64 (b0 : Int), .int .i64 (b1 : Int), .int .i64 (b2 : Int), .slice none 0 0] rfl rfl HTHE.out HIE.out HOE.out ?_) | (rw [hWE]; with_reducible refine wpList_store_mid rfl 70 (.tmp 10) (.tmp 87) rfl qe 0 #[.int .i64 (b0 : Int), .int .i64 (b1 : Int), .int .i64 (b2 : Int), .slice none 0 0] rfl rfl HTHE.out HIE.out HOE.out ?_) | (rw [hqe]; with_reducible refine wpList_store_mid rfl 70 (.tmp 10) (.tmp 87) rfl qe 0 #[.int .i64 (b0 : Int), .int .i64 (b1 : Int), .int .i64 (b2 : Int), .slice none 0 0] rfl rfl HTHE.out HIE.out HOE.out ?_))
      first | rw [hX] | skip
      clear hX hWE hqe HTHE HIE HOE
      refine HTX.out.mono ?_
      rintro e wt ⟨vt, rfl, hst, hrt, ft⟩
      obtain ⟨AD, cd, rfl, _⟩ := hst.shape
      have HIt := Lib.hid (HIN.out.read (HIN.out.nd.read hrt ft) ft)
      have HXt := Lib.hid (HIN.out.boxOn HX.out ft)
      have yt : wt.cell? ⟨qe, 3, none⟩ = some (.slice none 0 0) := HXt.out.1.2.cell 3
      have zt : wt.frozen? ⟨qe, 3, none⟩ = false := HXt.out.1.2.frozen 3
      obtain ⟨Vt, hVt⟩ : ∃ V, wt.setCell ⟨qe, 3, none⟩ (.slice AD dd.length cd) = V := ⟨_, rfl⟩
      have HIv : Hid (LR w B g q hd l v u3 Vt) := Lib.hid (by rw [← hVt]; exact (HIt.out.poked HXt.out 3 _).1)
      have HXv : Hid (EBox B g qe v #[.int .i64 (b0 : Int), .int .i64 (b1 : Int), .int .i64 (b2 : Int), .slice AD dd.length cd] Vt) := Lib.hid (by rw [← hVt]; exact (HIt.out.poked HXt.out 3 _).2)
      have HDt : Hid (Sl Vt X.heap.size 5 1 (.slice AD dd.length cd) dd.length (dd.map bv)) := Lib.hid (by
        rw [← hVt]
        exact hst.frm ((Frm.refl (fun k => k = qe) wt).setCell (p := ⟨qe, 3, none⟩) (fun _ => rfl) _) (fun k hk e => by subst e; exact hst.apart HXt.out.1.2 (by decide) hk))
      have HXZ := Lib.hid HIN.out.sz
      obtain ⟨AE, cE, hvE, _⟩ := HIv.out.sl.shape
      have y10 : Vt.cell? ⟨q, 10, none⟩ = some (.slice AE l.length cE) := by rw [← hvE]; exact HIv.out.box.2.cell 10
      have q0 : Vt.cell? ⟨qe, 0, none⟩ = some (.int .i64 (b0 : Int)) := HXv.out.1.2.cell 0
      have q1 : Vt.cell? ⟨qe, 1, none⟩ = some (.int .i64 (b1 : Int)) := HXv.out.1.2.cell 1
      have q2 : Vt.cell? ⟨qe, 2, none⟩ = some (.int .i64 (b2 : Int)) := HXv.out.1.2.cell 2
      have q3 : Vt.cell? ⟨qe, 3, none⟩ = some (.slice AD dd.length cd) := HXv.out.1.2.cell 3
      have HVE := Lib.hid hvE
      clear hvE
      clear hst hrt ft HIN HX HIt HXt HTX
      have HIa : Hid (LR w B g q hd l v u3 (Vt.alloc (.cells #[.int .i64 (b0 : Int), .int .i64 (b1 : Int), .int .i64 (b2 : Int), .slice AD dd.length cd] 70))) := Lib.hid (HIv.out.fresh ((Frm.refl _ Vt).alloc _))
      have HSA : Hid (Sl (Vt.alloc (.cells #[.int .i64 (b0 : Int), .int .i64 (b1 : Int), .int .i64 (b2 : Int), .slice AD dd.length cd] 70)) B 70 4 (.slice AE l.length cE) l.length (l.flatMap ecells)) := Lib.hid (by rw [← HVE.out]; exact HIa.out.sl)
      have HRA := Lib.hid (rd_new Vt [.int .i64 (b0 : Int), .int .i64 (b1 : Int), .int .i64 (b2 : Int), .slice AD dd.length cd] 70)
      have HEA : Hid (EDat (Vt.alloc (.cells #[.int .i64 (b0 : Int), .int .i64 (b1 : Int), .int .i64 (b2 : Int), .slice AD dd.length cd] 70)) B ⟨(b0 : Int), (b1 : Int), (b2 : Int), AD, cd, dd⟩) := Lib.hid ⟨(HDt.out.less HXZ.out).alloc _, hdd⟩
      have HBA : Hid (Blk (Vt.alloc (.cells #[.int .i64 (b0 : Int), .int .i64 (b1 : Int), .int .i64 (b2 : Int), .slice AD dd.length cd] 70)) q 30 (hcells hd (.slice AE l.length cE))) := Lib.hid (by rw [← HVE.out]; exact HIa.out.box.2)
      have HQB := Lib.hid HIa.out.qB
      clear HDt HXZ HIv HXv
      go_wp2_with (at_builtin; refine wpList_append_sl _ rfl (.tmp 92) (.tmp 94) _ rfl B 70 ie _ 4 48 Try.underlying22 hie hze0 hze1 hze2 rfl (by omega) _ l.length _ rfl HSA.out _ _ 1 _ [.int .i64 (b0 : Int), .int .i64 (b1 : Int), .int .i64 (b2 : Int), .slice AD dd.length cd] rfl (by rfl) HRA.out (fun u hu => by simp at hu; rcases hu with rfl | rfl | rfl | rfl <;> rfl) (by unfold maxLen; omega) (by omega) HIa.out.sz ?_; intro v5 w5 hs5 hf5 ha5; have HS5 := Lib.hid hs5; have HF5 := Lib.hid hf5; have b5 := HBA.out.frm hf5 (fun e => by have := (HSA.out.lt _ e).1; have := HQB.out; omega); have y5 : w5.cell? ⟨q, 10, none⟩ = some (.slice AE l.length cE) := b5.cell 10; have z5 : w5.frozen? ⟨q, 10, none⟩ = false := b5.frozen 10; obtain ⟨A5, c5, rfl, _⟩ := hs5.shape; clear hs5 hf5 ha5 b5)
      have HGR := Lib.hid (HIa.out.grow HEA.out HS5.out (by rw [HVE.out]; exact HF5.out))
      have HNX : Hid (readEs (a10 - i) (l.map eraseE) z = readEs (a10 - (i + 1)) ((l ++ [(⟨(b0 : Int), (b1 : Int), (b2 : Int), AD, cd, dd⟩ : En)]).map eraseE) u3) := Lib.hid (by
        rw [show a10 - i = (a10 - (i + 1)) + 1 by omega, readEs, HRE.out, List.map_append]
        rfl)
      go_roundw
      case rel => exact ⟨i + 1, l ++ [⟨(b0 : Int), (b1 : Int), (b2 : Int), AD, cd, dd⟩], _, u3, by omega, by go_num, by rw [List.length_append, HLN.out]; rfl, by rw [HRD.out, HNX.out], HGR.out⟩
      case measure => simp [intOf]; omega
    · obtain rfl : i = a10 := by omega
      obtain ⟨AE, cE, rfl, _⟩ := HI.out.sl.shape
      have HREZ : Hid (readEs hd.n [] t10 = (l.map eraseE, z)) := Lib.hid (by rw [HHE.out]; show readEs i [] t10 = _; rw [HRD.out, Nat.sub_self]; rfl)
      rw [← HHE.out] at HHD
      obtain ⟨⟨ts, t11⟩, kt⟩ : ∃ y, rdt 65536 z = y := ⟨_, rfl⟩
      have hts : ts.length ≤ 65536 := by have := rdt_le (most := 65536) (by omega) z; rw [kt] at this; dsimp only at this; omega
      have HTX := Lib.hid (dText wr g g z 65536 (by omega) HI.out.nd.rdr)
      unfold DText at HTX
      rw [kt] at HTX
      have KT := Lib.hid kt
      obtain ⟨tn, htn⟩ : ∃ n, n = ts.length := ⟨_, rfl⟩
      have HTN := Lib.hid htn
      clear kt htn HRD
      go_wp2_with fail
      refine HTX.out.mono ?_
      rintro e wt0 ⟨vt, rfl, hst, hrt, ft⟩
      obtain ⟨AS, cS, hvt, hcS, hmS, _⟩ := hst.shape
      rw [← HTN.out] at hvt
      subst hvt
      have HIt := Lib.hid (HI.out.read (HI.out.nd.read hrt ft) ft)
      have HSt := Lib.hid hst
      have HWH := Lib.hid (dWhole wt0 g g t11 HIt.out.nd.rdr)
      obtain ⟨wh, hwh⟩ : ∃ b, b = wholeS t11 := ⟨_, rfl⟩
      rw [← hwh] at HWH
      have HWW := Lib.hid hwh
      clear hst hrt ft HI HTX hwh
      go_wp2_with fail
      refine HWH.out.mono ?_
      rintro e wt ⟨rfl, nn, hwt⟩
      have fd : Fresh wt0 wt := by rw [hwt]; exact (Frm.refl _ wt0).drewN nn
      have HLI := Lib.hid (HIt.out.fresh fd)
      have HLK0 := Lib.hid (HLI.out.lk hll)
      have HRS : Hid (Rd wt wt.heap.size AS (ts.map bv)) := Lib.hid (HSt.out.fresh fd).rd
      have HKD := Lib.hid (refDecodeS_any wt AS cS ts HRS.out (by omega) hcS hmS)
      rw [← HTN.out] at HKD
      have HSB := Lib.hid HLI.out.sz
      clear hwt fd HWH HIt HSt hcS hmS
      cases wh with
      | false =>
        have HLK := HLK0
        obtain ⟨zs, hzs⟩ : ∃ zs : List Value, zs = [Value.int .i64 0, .int .i64 0, .int .i64 0, .int .i64 0, .int .i64 0, .int .i64 0, .bool false, .int .i64 0, .int .i64 0, .int .i64 0, .slice none 0 0, .int .i64 0, .int .i64 0, .slice none 0 0, .slice none 0 0, .slice none 0 0] := ⟨_, rfl⟩
        have HCI : Hid ((Try.prog.info? 30).map (·.size) = some zs.length) := Lib.hid (by rw [hzs]; kernel_rfl)
        have HCJ : Hid ((Try.prog.info? 30).map (·.size) = some zs.toArray.size) := Lib.hid (by rw [hzs]; kernel_rfl)
        have HTH : Hid (wt.there w.heap.size 0 zs.toArray.size) := Lib.hid (by rw [hzs]; exact HLK.out.res.there rfl)
        have HON : Hid (zs.toArray.all (·.oneCell') = true) := Lib.hid (by rw [hzs]; kernel_rfl)
        have HZS := Lib.hid hzs
        clear hzs
        go_wp2_with (first | (refine wpList_store_mid rfl 30 (.tmp 2) (.tmp 103) rfl w.heap.size 0 zs.toArray rfl (by rw [HZS.out]; rfl) HTH.out HCJ.out HON.out ?_))

        have hra : (wt.setCells w.heap.size 0 zs).rangeAt w.heap.size 0 zs := World.rangeAt_setCells_same wt w.heap.size 0 zs (by have := HTH.out; simpa using this)
        have hld := run_loadVar_mid (P := Try.prog) (wt.setCells w.heap.size 0 zs) w.heap.size 0 30 zs _ hra Try.underlying30 rfl HCI.out
        have HFZ : Fresh w (wt.setCells w.heap.size 0 zs) := HLK.out.frm.trans' (frm_setCells w.heap.size zs 0 wt) (fun k hk e => by omega)
        refine bodyPost_ret (v := .tuple #[.agg zs.toArray, .int .i64 6]) ?_ rfl (nd_no (decX_half HHD.out HREZ.out KT.out HWW.out.symm) (by have e := HZS.out; subst e; rfl) HFZ)
        rw [results_cell_tmp Try.results15]
        show (((asAddr (.pointer (some ⟨w.heap.size, 0, none⟩))).run Try.prog (wt.setCells w.heap.size 0 zs)).andThen fun a w₁ => ((loadVar 30 a).run Try.prog w₁).andThen fun v w₂ => Result.ok (Value.tuple #[v, Value.int .i64 6]) w₂) = _
        simp only [asAddr, Sem.run_pure, Result.andThen_ok, hld]
      | true =>
        by_cases hz : tn = 0
        · have hz1 : ¬ (0 : Int) < (tn : Int) := by omega
          have HSO : Hid (snapOf ts = some sc0) := Lib.hid (by unfold snapOf; rw [if_pos (by rw [← HTN.out]; exact hz)])
          obtain ⟨m, hm⟩ : ∃ m, m = msgAt hd l AE cE sc0 none 0 none 0 none 0 := ⟨_, rfl⟩
          have HLK : Hid (LK w B g q m wt) := Lib.hid (by rw [hm]; exact HLK0.out)
          have HM : Hid (erase m = msgOf hd (l.map eraseE) sc0) := Lib.hid (by rw [hm]; rfl)
          have HDP : Hid (rightD m = rightP m) := Lib.hid (by rw [hm]; exact rightD_emp)
          clear hm hz HKD HLK0 HLI
          obtain ⟨cs, hcs⟩ : ∃ cs : List Value, cs = (mcells m).toList := ⟨_, rfl⟩
          have HCL : Hid (wt.rangeAt q 0 cs) := Lib.hid (by rw [hcs]; intro j v hv; rw [Nat.zero_add, HLK.out.box.2.cell j]; simpa using hv)
          have HCI : Hid ((Try.prog.info? 30).map (·.size) = some cs.length) := Lib.hid (by rw [hcs]; kernel_rfl)
          have HRT : Hid (Calls Try.prog 43 #[.agg cs.toArray] wt fun e w' => e = .returned (.bool (rightD m)) ∧ Fresh wt w') := Lib.hid (by rw [hcs]; exact refRight_any wt m HLK.out.rdm)
          have HCS := Lib.hid hcs
          obtain ⟨rp, hrp⟩ : ∃ b, b = rightP m := ⟨_, rfl⟩
          rw [HDP.out, ← hrp] at HRT
          have HRP := Lib.hid hrp
          clear hcs hrp
          go_wp2_with (first | (with_reducible refine wpList_load_mid rfl 30 (.tmp 7) rfl q 0 rfl cs _ HCL.out Try.underlying30 rfl HCI.out ?_) )

          refine HRT.out.mono ?_
          rintro e w9 ⟨rfl, f9⟩
          have HLK9 := Lib.hid (HLK.out.fresh f9)
          clear HLK HRT
          have HLK := HLK9
          have HCL9 : Hid (w9.rangeAt q 0 cs) := Lib.hid (by rw [HCS.out]; intro j v hv; rw [Nat.zero_add, HLK.out.box.2.cell j]; simpa using hv)
          clear HLK9 f9 HCL
          have HCL := HCL9
          clear HCL9
          cases rp with
          | false =>
            clear HCL HCI HCS
            obtain ⟨zs, hzs⟩ : ∃ zs : List Value, zs = [Value.int .i64 0, .int .i64 0, .int .i64 0, .int .i64 0, .int .i64 0, .int .i64 0, .bool false, .int .i64 0, .int .i64 0, .int .i64 0, .slice none 0 0, .int .i64 0, .int .i64 0, .slice none 0 0, .slice none 0 0, .slice none 0 0] := ⟨_, rfl⟩
            have HCI : Hid ((Try.prog.info? 30).map (·.size) = some zs.length) := Lib.hid (by rw [hzs]; kernel_rfl)
            have HCJ : Hid ((Try.prog.info? 30).map (·.size) = some zs.toArray.size) := Lib.hid (by rw [hzs]; kernel_rfl)
            have HTH : Hid (w9.there w.heap.size 0 zs.toArray.size) := Lib.hid (by rw [hzs]; exact HLK.out.res.there rfl)
            have HON : Hid (zs.toArray.all (·.oneCell') = true) := Lib.hid (by rw [hzs]; kernel_rfl)
            have HZS := Lib.hid hzs
            clear hzs
            go_wp2_with (first | (refine wpList_store_mid rfl 30 (.tmp 2) (.tmp 121) rfl w.heap.size 0 zs.toArray rfl (by rw [HZS.out]; rfl) HTH.out HCJ.out HON.out ?_))

            have hra : (w9.setCells w.heap.size 0 zs).rangeAt w.heap.size 0 zs := World.rangeAt_setCells_same w9 w.heap.size 0 zs (by have := HTH.out; simpa using this)
            have hld := run_loadVar_mid (P := Try.prog) (w9.setCells w.heap.size 0 zs) w.heap.size 0 30 zs _ hra Try.underlying30 rfl HCI.out
            have HFZ : Fresh w (w9.setCells w.heap.size 0 zs) := HLK.out.frm.trans' (frm_setCells w.heap.size zs 0 w9) (fun k hk e => by omega)
            refine bodyPost_ret (v := .tuple #[.agg zs.toArray, .int .i64 6]) ?_ rfl (nd_no (decX_wrong HHD.out HREZ.out KT.out HSO.out HM.out HRP.out.symm) (by have e := HZS.out; subst e; rfl) HFZ)
            rw [results_cell_tmp Try.results15]
            show (((asAddr (.pointer (some ⟨w.heap.size, 0, none⟩))).run Try.prog (w9.setCells w.heap.size 0 zs)).andThen fun a w₁ => ((loadVar 30 a).run Try.prog w₁).andThen fun v w₂ => Result.ok (Value.tuple #[v, Value.int .i64 6]) w₂) = _
            simp only [asAddr, Sem.run_pure, Result.andThen_ok, hld]
          | true =>
            have HCJ : Hid ((Try.prog.info? 30).map (·.size) = some cs.toArray.size) := Lib.hid (by rw [HCS.out]; kernel_rfl)
            have HTH : Hid (w9.there w.heap.size 0 cs.toArray.size) := Lib.hid (by rw [HCS.out]; exact HLK.out.res.there rfl)
            have HON : Hid (cs.toArray.all (·.oneCell') = true) := Lib.hid (by rw [HCS.out]; kernel_rfl)
            go_wp2_with (first | (with_reducible refine wpList_load_mid rfl 30 (.tmp 7) rfl q 0 rfl cs _ HCL.out Try.underlying30 rfl HCI.out ?_) | (with_reducible refine wpList_store_mid rfl 30 (.tmp 2) (.tmp 122) rfl w.heap.size 0 cs.toArray rfl rfl HTH.out HCJ.out HON.out ?_))
            have hra : (w9.setCells w.heap.size 0 cs).rangeAt w.heap.size 0 cs := World.rangeAt_setCells_same w9 w.heap.size 0 cs (by have := HTH.out; simpa using this)
            have hld := run_loadVar_mid (P := Try.prog) (w9.setCells w.heap.size 0 cs) w.heap.size 0 30 cs _ hra Try.underlying30 rfl HCI.out
            have HFZ : Fresh w (w9.setCells w.heap.size 0 cs) := HLK.out.frm.trans' (frm_setCells w.heap.size cs 0 w9) (fun k hk e => by omega)
            refine bodyPost_ret (v := .tuple #[.agg cs.toArray, .int .i64 0]) ?_ rfl (nd_yes (decX_right HHD.out HREZ.out KT.out HSO.out HWW.out.symm HM.out HRP.out.symm) (by have e := HCS.out; subst e; rfl) (HLK.out.out cs) HFZ)
            rw [results_cell_tmp Try.results15]
            show (((asAddr (.pointer (some ⟨w.heap.size, 0, none⟩))).run Try.prog (w9.setCells w.heap.size 0 cs)).andThen fun a w₁ => ((loadVar 30 a).run Try.prog w₁).andThen fun v w₂ => Result.ok (Value.tuple #[v, Value.int .i64 0]) w₂) = _
            simp only [asAddr, Sem.run_pure, Result.andThen_ok, hld]
        · have hz1 : (0 : Int) < (tn : Int) := by omega
          rcases hdec : decS ts with _ | c
          · have HSO : Hid (snapOf ts = none) := Lib.hid (by unfold snapOf; rw [if_neg (by rw [← HTN.out]; exact hz), hdec])
            rw [hdec] at HKD
            unfold KDPost at HKD
            clear hz hdec HLI
            go_wp2_with fail
            refine HKD.out.mono ?_
            rintro e w5 ⟨rfl, f5⟩
            have HLK5 := Lib.hid (HLK0.out.fresh f5)
            have HSB5 : Hid (B ≤ w5.heap.size) := Lib.hid (by have := f5.size; have := HSB.out; omega)
            clear HLK0 f5 HKD
            unfold snap0
            obtain ⟨ss, hss⟩ : ∃ ss : List Value, ss = [Value.int .i64 0, .int .i64 0, .slice none 0 0, .slice none 0 0, .slice none 0 0] := ⟨_, rfl⟩
            have HSS := Lib.hid hss
            obtain ⟨p, hp⟩ : ∃ p, w5.heap.size = p := ⟨_, rfl⟩
            obtain ⟨W6, hW6⟩ : ∃ W, w5.alloc (.cells ([Value.int .i64 0, .int .i64 0, .slice none 0 0, .slice none 0 0, .slice none 0 0]).toArray 28) = W := ⟨_, rfl⟩
            have HB6 : Hid (Blk W6 p 28 ([Value.int .i64 0, .int .i64 0, .slice none 0 0, .slice none 0 0, .slice none 0 0]).toArray) := Lib.hid (by rw [← hW6, ← hp]; exact Blk.new w5 _ _)
            have HT6 : Hid (W6.there p 0 ss.toArray.size) := Lib.hid (by rw [hss]; exact HB6.out.there rfl)
            have HI6 : Hid ((Try.prog.info? 28).map (·.size) = some ss.toArray.size) := Lib.hid (by rw [hss]; kernel_rfl)
            have HO6 : Hid (ss.toArray.all (·.oneCell') = true) := Lib.hid (by rw [hss]; kernel_rfl)
            obtain ⟨X6, hX6⟩ : ∃ X, W6.setCells p 0 ss = X := ⟨_, rfl⟩
            have HLK6 : Hid (LK w B g q (msgAt hd l AE cE sc0 none 0 none 0 none 0) X6) := Lib.hid (by rw [← hX6]; exact (HLK5.out.fresh (w' := W6) (by rw [← hW6]; exact ((Frm.refl _ w5).alloc _))).side HB6.out (by rw [← hp]; exact HSB5.out) ss)
            clear hss HLK5
            have HLK := HLK6
            obtain ⟨zs, hzs⟩ : ∃ zs : List Value, zs = [Value.int .i64 0, .int .i64 0, .int .i64 0, .int .i64 0, .int .i64 0, .int .i64 0, .bool false, .int .i64 0, .int .i64 0, .int .i64 0, .slice none 0 0, .int .i64 0, .int .i64 0, .slice none 0 0, .slice none 0 0, .slice none 0 0] := ⟨_, rfl⟩
            have HCI : Hid ((Try.prog.info? 30).map (·.size) = some zs.length) := Lib.hid (by rw [hzs]; kernel_rfl)
            have HCJ : Hid ((Try.prog.info? 30).map (·.size) = some zs.toArray.size) := Lib.hid (by rw [hzs]; kernel_rfl)
            have HTH : Hid (X6.there w.heap.size 0 zs.toArray.size) := Lib.hid (by rw [hzs]; exact HLK.out.res.there rfl)
            have HON : Hid (zs.toArray.all (·.oneCell') = true) := Lib.hid (by rw [hzs]; kernel_rfl)
            have HZS := Lib.hid hzs
            clear hzs
            go_wp2_with (first | (refine wpList_store_mid rfl 30 (.tmp 2) (.tmp 114) rfl w.heap.size 0 zs.toArray rfl (by rw [HZS.out]; rfl) HTH.out HCJ.out HON.out ?_) | (rw [show W6.setCells p 0 ss.toArray.toList = X6 from hX6]; refine wpList_store_mid rfl 30 (.tmp 2) (.tmp 114) rfl w.heap.size 0 zs.toArray rfl (by rw [HZS.out]; rfl) HTH.out HCJ.out HON.out ?_) | (rw [hX6]; refine wpList_store_mid rfl 30 (.tmp 2) (.tmp 114) rfl w.heap.size 0 zs.toArray rfl (by rw [HZS.out]; rfl) HTH.out HCJ.out HON.out ?_) | (refine wpList_store_mid rfl 28 (.tmp 13) (.tmp 110) rfl p 0 ss.toArray rfl (by rw [HSS.out]; rfl) HT6.out HI6.out HO6.out ?_) | (rw [hW6, hp]; refine wpList_store_mid rfl 28 (.tmp 13) (.tmp 110) rfl p 0 ss.toArray rfl (by rw [HSS.out]; rfl) HT6.out HI6.out HO6.out ?_) | (rw [hp, hW6]; refine wpList_store_mid rfl 28 (.tmp 13) (.tmp 110) rfl p 0 ss.toArray rfl (by rw [HSS.out]; rfl) HT6.out HI6.out HO6.out ?_) | (rw [hW6]; refine wpList_store_mid rfl 28 (.tmp 13) (.tmp 110) rfl p 0 ss.toArray rfl (by rw [HSS.out]; rfl) HT6.out HI6.out HO6.out ?_) | (rw [hp]; refine wpList_store_mid rfl 28 (.tmp 13) (.tmp 110) rfl p 0 ss.toArray rfl (by rw [HSS.out]; rfl) HT6.out HI6.out HO6.out ?_))
            clear hX6 hW6 hp
            have hra : (X6.setCells w.heap.size 0 zs).rangeAt w.heap.size 0 zs := World.rangeAt_setCells_same X6 w.heap.size 0 zs (by have := HTH.out; simpa using this)
            have hld := run_loadVar_mid (P := Try.prog) (X6.setCells w.heap.size 0 zs) w.heap.size 0 30 zs _ hra Try.underlying30 rfl HCI.out
            have HFZ : Fresh w (X6.setCells w.heap.size 0 zs) := HLK.out.frm.trans' (frm_setCells w.heap.size zs 0 X6) (fun k hk e => by omega)
            refine bodyPost_ret (v := .tuple #[.agg zs.toArray, .int .i64 6]) ?_ rfl (nd_no (decX_bad HHD.out HREZ.out KT.out HSO.out) (by have e := HZS.out; subst e; rfl) HFZ)
            rw [results_cell_tmp Try.results15]
            show (((asAddr (.pointer (some ⟨w.heap.size, 0, none⟩))).run Try.prog (X6.setCells w.heap.size 0 zs)).andThen fun a w₁ => ((loadVar 30 a).run Try.prog w₁).andThen fun v w₂ => Result.ok (Value.tuple #[v, Value.int .i64 6]) w₂) = _
            simp only [asAddr, Sem.run_pure, Result.andThen_ok, hld]
          · have HSO : Hid (snapOf ts = some c) := Lib.hid (by unfold snapOf; rw [if_neg (by rw [← HTN.out]; exact hz), hdec])
            obtain ⟨AV0, hAV0⟩ : ∃ n : Nat, n = 0 := ⟨_, rfl⟩
            have HDR := Lib.hid (decS_right hdec)
            have HDEC := Lib.hid hdec
            rw [hdec] at HKD
            unfold KDPost at HKD
            clear hz hdec HLI hAV0 AV0
            go_wp2_with fail
            refine HKD.out.mono ?_
            rintro e w5 ⟨AV, cv, AL, cl, AD, cd, rfl, hsl, f5⟩
            have HSL5 := Lib.hid (show SlS w5 B AV cv AL cl AD cd c.vs c.ls c.ds from ⟨hsl.v.less HSB.out, hsl.l.less HSB.out, hsl.d.less HSB.out, hsl.q1, hsl.q2, hsl.q3⟩)
            have HLK5 := Lib.hid (HLK0.out.fresh f5)
            have HSB5 : Hid (B ≤ w5.heap.size) := Lib.hid (by have := f5.size; have := HSB.out; omega)
            clear HLK0 f5 HKD hsl
            obtain ⟨ss, hss⟩ : ∃ ss : List Value, ss = [Value.int .i64 (c.i : Int), .int .i64 (c.t : Int), .slice AV c.vs.length cv, .slice AL c.ls.length cl, .slice AD c.ds.length cd] := ⟨_, rfl⟩
            have HSS := Lib.hid hss
            obtain ⟨p, hp⟩ : ∃ p, w5.heap.size = p := ⟨_, rfl⟩
            obtain ⟨W6, hW6⟩ : ∃ W, w5.alloc (.cells ([Value.int .i64 0, .int .i64 0, .slice none 0 0, .slice none 0 0, .slice none 0 0]).toArray 28) = W := ⟨_, rfl⟩
            have HB6 : Hid (Blk W6 p 28 ([Value.int .i64 0, .int .i64 0, .slice none 0 0, .slice none 0 0, .slice none 0 0]).toArray) := Lib.hid (by rw [← hW6, ← hp]; exact Blk.new w5 _ _)
            have HT6 : Hid (W6.there p 0 ss.toArray.size) := Lib.hid (by rw [hss]; exact HB6.out.there rfl)
            have HI6 : Hid ((Try.prog.info? 28).map (·.size) = some ss.toArray.size) := Lib.hid (by rw [hss]; kernel_rfl)
            have HO6 : Hid (ss.toArray.all (·.oneCell') = true) := Lib.hid (by rw [hss]; kernel_rfl)
            obtain ⟨X6, hX6⟩ : ∃ X, W6.setCells p 0 ss = X := ⟨_, rfl⟩
            have HLK6 : Hid (LK w B g q (msgAt hd l AE cE sc0 none 0 none 0 none 0) X6) := Lib.hid (by rw [← hX6]; exact (HLK5.out.fresh (w' := W6) (by rw [← hW6]; exact ((Frm.refl _ w5).alloc _))).side HB6.out (by rw [← hp]; exact HSB5.out) ss)
            clear hss HLK5
            have HSL6 : Hid (SlS X6 B AV cv AL cl AD cd c.vs c.ls c.ds) := Lib.hid (by rw [← hX6]; exact (HSL5.out.frm (by rw [← hW6]; exact ((Frm.refl (fun _ => False) w5).alloc _)) (fun _ _ _ f => f)).side HB6.out ss)
            have HCLp : Hid (X6.rangeAt p 0 ss) := Lib.hid (by rw [← hX6]; exact World.rangeAt_setCells_same W6 p 0 ss (by have := HT6.out; simpa using this))
            have HIp : Hid ((Try.prog.info? 28).map (·.size) = some ss.length) := Lib.hid (by rw [HSS.out]; kernel_rfl)
            have HT7 : Hid (X6.there q 11 ss.toArray.size) := Lib.hid (by rw [HSS.out]; exact there_part HLK6.out.box.2 11 5 (Nat.le_refl 16))
            obtain ⟨m, hm⟩ : ∃ m, m = msgAt hd l AE cE c AV cv AL cl AD cd := ⟨_, rfl⟩
            obtain ⟨X7, hX7⟩ : ∃ X, X6.setCells q 11 ss = X := ⟨_, rfl⟩
            have HLK : Hid (LK w B g q m X7) := Lib.hid (by rw [← hX7, hm, HSS.out]; exact HLK6.out.snap HSL6.out)
            have HM : Hid (erase m = msgOf hd (l.map eraseE) c) := Lib.hid (by rw [hm]; rfl)
            have HDP : Hid (rightD m = rightP m) := Lib.hid (by rw [hm]; exact rightD_dec HDEC.out)
            clear hm HLK6 HSL6 HSL5
            obtain ⟨cs, hcs⟩ : ∃ cs : List Value, cs = (mcells m).toList := ⟨_, rfl⟩
            have HCL : Hid (X7.rangeAt q 0 cs) := Lib.hid (by rw [hcs]; intro j v hv; rw [Nat.zero_add, HLK.out.box.2.cell j]; simpa using hv)
            have HCI : Hid ((Try.prog.info? 30).map (·.size) = some cs.length) := Lib.hid (by rw [hcs]; kernel_rfl)
            have HRT : Hid (Calls Try.prog 43 #[.agg cs.toArray] X7 fun e w' => e = .returned (.bool (rightD m)) ∧ Fresh X7 w') := Lib.hid (by rw [hcs]; exact refRight_any X7 m HLK.out.rdm)
            have HCS := Lib.hid hcs
            obtain ⟨rp, hrp⟩ : ∃ b, b = rightP m := ⟨_, rfl⟩
            rw [HDP.out, ← hrp] at HRT
            have HRP := Lib.hid hrp
            clear hcs hrp
            go_wp2_with (first | (with_reducible refine wpList_load_mid rfl 30 (.tmp 7) rfl q 0 rfl cs _ HCL.out Try.underlying30 rfl HCI.out ?_) | (rw [show X6.setCells q 11 ss.toArray.toList = X7 from hX7]; (with_reducible refine wpList_load_mid rfl 30 (.tmp 7) rfl q 0 rfl cs _ HCL.out Try.underlying30 rfl HCI.out ?_)) | (rw [hX7]; (with_reducible refine wpList_load_mid rfl 30 (.tmp 7) rfl q 0 rfl cs _ HCL.out Try.underlying30 rfl HCI.out ?_)) | (refine wpList_store_mid rfl 28 (.tmp 13) (.tmp 110) rfl p 0 ss.toArray rfl (by rw [HSS.out]; rfl) HT6.out HI6.out HO6.out ?_) | (rw [hW6, hp]; refine wpList_store_mid rfl 28 (.tmp 13) (.tmp 110) rfl p 0 ss.toArray rfl (by rw [HSS.out]; rfl) HT6.out HI6.out HO6.out ?_) | (rw [hp, hW6]; refine wpList_store_mid rfl 28 (.tmp 13) (.tmp 110) rfl p 0 ss.toArray rfl (by rw [HSS.out]; rfl) HT6.out HI6.out HO6.out ?_) | (rw [hW6]; refine wpList_store_mid rfl 28 (.tmp 13) (.tmp 110) rfl p 0 ss.toArray rfl (by rw [HSS.out]; rfl) HT6.out HI6.out HO6.out ?_) | (rw [hp]; refine wpList_store_mid rfl 28 (.tmp 13) (.tmp 110) rfl p 0 ss.toArray rfl (by rw [HSS.out]; rfl) HT6.out HI6.out HO6.out ?_) | (with_reducible refine wpList_load_mid rfl 28 (.tmp 13) rfl p 0 rfl ss _ HCLp.out Try.underlying28 rfl HIp.out ?_) | (with_reducible refine wpList_store_mid rfl 28 (.tmp 116) (.tmp 115) rfl q 11 ss.toArray rfl rfl HT7.out HI6.out HO6.out ?_))
            clear hX6 hX7 hW6 hp
            refine HRT.out.mono ?_
            rintro e w9 ⟨rfl, f9⟩
            have HLK9 := Lib.hid (HLK.out.fresh f9)
            clear HLK HRT
            have HLK := HLK9
            have HCL9 : Hid (w9.rangeAt q 0 cs) := Lib.hid (by rw [HCS.out]; intro j v hv; rw [Nat.zero_add, HLK.out.box.2.cell j]; simpa using hv)
            clear HLK9 f9 HCL
            have HCL := HCL9
            clear HCL9
            cases rp with
            | false =>
              clear HCL HCI HCS
              obtain ⟨zs, hzs⟩ : ∃ zs : List Value, zs = [Value.int .i64 0, .int .i64 0, .int .i64 0, .int .i64 0, .int .i64 0, .int .i64 0, .bool false, .int .i64 0, .int .i64 0, .int .i64 0, .slice none 0 0, .int .i64 0, .int .i64 0, .slice none 0 0, .slice none 0 0, .slice none 0 0] := ⟨_, rfl⟩
              have HCI : Hid ((Try.prog.info? 30).map (·.size) = some zs.length) := Lib.hid (by rw [hzs]; kernel_rfl)
              have HCJ : Hid ((Try.prog.info? 30).map (·.size) = some zs.toArray.size) := Lib.hid (by rw [hzs]; kernel_rfl)
              have HTH : Hid (w9.there w.heap.size 0 zs.toArray.size) := Lib.hid (by rw [hzs]; exact HLK.out.res.there rfl)
              have HON : Hid (zs.toArray.all (·.oneCell') = true) := Lib.hid (by rw [hzs]; kernel_rfl)
              have HZS := Lib.hid hzs
              clear hzs
              go_wp2_with (first | (refine wpList_store_mid rfl 30 (.tmp 2) (.tmp 121) rfl w.heap.size 0 zs.toArray rfl (by rw [HZS.out]; rfl) HTH.out HCJ.out HON.out ?_))

              have hra : (w9.setCells w.heap.size 0 zs).rangeAt w.heap.size 0 zs := World.rangeAt_setCells_same w9 w.heap.size 0 zs (by have := HTH.out; simpa using this)
              have hld := run_loadVar_mid (P := Try.prog) (w9.setCells w.heap.size 0 zs) w.heap.size 0 30 zs _ hra Try.underlying30 rfl HCI.out
              have HFZ : Fresh w (w9.setCells w.heap.size 0 zs) := HLK.out.frm.trans' (frm_setCells w.heap.size zs 0 w9) (fun k hk e => by omega)
              refine bodyPost_ret (v := .tuple #[.agg zs.toArray, .int .i64 6]) ?_ rfl (nd_no (decX_wrong HHD.out HREZ.out KT.out HSO.out HM.out HRP.out.symm) (by have e := HZS.out; subst e; rfl) HFZ)
              rw [results_cell_tmp Try.results15]
              show (((asAddr (.pointer (some ⟨w.heap.size, 0, none⟩))).run Try.prog (w9.setCells w.heap.size 0 zs)).andThen fun a w₁ => ((loadVar 30 a).run Try.prog w₁).andThen fun v w₂ => Result.ok (Value.tuple #[v, Value.int .i64 6]) w₂) = _
              simp only [asAddr, Sem.run_pure, Result.andThen_ok, hld]
            | true =>
              have HCJ : Hid ((Try.prog.info? 30).map (·.size) = some cs.toArray.size) := Lib.hid (by rw [HCS.out]; kernel_rfl)
              have HTH : Hid (w9.there w.heap.size 0 cs.toArray.size) := Lib.hid (by rw [HCS.out]; exact HLK.out.res.there rfl)
              have HON : Hid (cs.toArray.all (·.oneCell') = true) := Lib.hid (by rw [HCS.out]; kernel_rfl)
              go_wp2_with (first | (with_reducible refine wpList_load_mid rfl 30 (.tmp 7) rfl q 0 rfl cs _ HCL.out Try.underlying30 rfl HCI.out ?_) | (with_reducible refine wpList_store_mid rfl 30 (.tmp 2) (.tmp 122) rfl w.heap.size 0 cs.toArray rfl rfl HTH.out HCJ.out HON.out ?_))
              have hra : (w9.setCells w.heap.size 0 cs).rangeAt w.heap.size 0 cs := World.rangeAt_setCells_same w9 w.heap.size 0 cs (by have := HTH.out; simpa using this)
              have hld := run_loadVar_mid (P := Try.prog) (w9.setCells w.heap.size 0 cs) w.heap.size 0 30 cs _ hra Try.underlying30 rfl HCI.out
              have HFZ : Fresh w (w9.setCells w.heap.size 0 cs) := HLK.out.frm.trans' (frm_setCells w.heap.size cs 0 w9) (fun k hk e => by omega)
              refine bodyPost_ret (v := .tuple #[.agg cs.toArray, .int .i64 0]) ?_ rfl (nd_yes (decX_right HHD.out HREZ.out KT.out HSO.out HWW.out.symm HM.out HRP.out.symm) (by have e := HCS.out; subst e; rfl) (HLK.out.out cs) HFZ)
              rw [results_cell_tmp Try.results15]
              show (((asAddr (.pointer (some ⟨w.heap.size, 0, none⟩))).run Try.prog (w9.setCells w.heap.size 0 cs)).andThen fun a w₁ => ((loadVar 30 a).run Try.prog w₁).andThen fun v w₂ => Result.ok (Value.tuple #[v, Value.int .i64 0]) w₂) = _
              simp only [asAddr, Sem.run_pure, Result.andThen_ok, hld]

end Go.Proofs.Ytlceembcehokoaa

/- Proved here, for the statement ClientOnceSaid: laws that its walk leans on. It holds with no condition. (Put together and shortened by a program out of many texts: On43, On41.) -/
import Derived.Test.YtnmokpbomeamfaaGreatZ19
set_option linter.unusedVariables false
set_option maxRecDepth 100000
set_option maxHeartbeats 64000000
namespace Go.Proofs.YtnmokpbomeamfaaGreat
section
open Go.RowKit ReadM
attribute [local go_sem] run_store_float in
theorem refDecode18_any (w : World) (A : Option Addr) (cap : Nat) (bs : List UInt8) (hA : Rd w w.heap.size A (bs.map bv)) (hl : bs.length ≤ 1000000) (hc : bs.length ≤ cap) (hm : cap ≤ maxLen) :
 Calls Tryz.prog 45 #[.slice A bs.length cap] w fun e w' => CmdPost w bs e w' := by
 obtain ⟨i1, hi1, hz1, hz2, hz3⟩ := info_parts info_int
 obtain ⟨i4, hi4, hw0, hw1, hw2⟩ := info_parts info_f64
 obtain ⟨W0, hW0⟩ : ∃ W0, w.alloc (.cells #[.int .i64 0, .string ⟨#[]⟩, .int .i64 0, .int .i64 0, .int .i64 0, .int .i64 0, .float .f64 0, .string ⟨#[]⟩, .int .i64 0, .slice none 0 0, .slice none 0 0] 95) = W0 := ⟨_, rfl⟩
 have F0 : Fresh w W0 := by rw [← hW0]; exact ((za _ w).alloc _)
 have b0 : Blk W0 w.heap.size 95 cz0.toArray := by rw [← hW0]; exact (Blk.new w _ _)
 obtain ⟨g, hg⟩ : ∃ g, g = W0.heap.size := ⟨_, rfl⟩
 obtain ⟨W1, hW1⟩ : ∃ W1, W0.alloc (.cells #[.slice A bs.length cap, .int .i64 0, .bool false] 100) = W1 := ⟨_, rfl⟩
 have F1 : Fresh W0 W1 := by rw [← hW1]; exact ((za _ W0).alloc _)
 have HD1 : Hid (D0 w g (bs, false) W1) := zh (by
  have hgs : w.heap.size < W0.heap.size := b0.lt
  refine ⟨⟨bs, 0, ⟨A, cap, ?_, ?_, hc, hm, zf _⟩, zF _, by omega, fun _ => by simp⟩, by omega, b0.frm F1 (fun f => f), F0.trans F1⟩
  ·rw [← hW1, hg]
   exact Blk.new W0 _ _
  ·have h1 := (hA.fresh (zf _) (F0.trans F1)).more (B' := g) (by omega)
   exact h1)
 obtain ⟨⟨x1, s1⟩, h1⟩ : ∃ y, rdn 9 (bs, false) = y := ⟨_, rfl⟩
 obtain ⟨⟨x2, s2⟩, h2⟩ : ∃ y, rdt 16 s1 = y := ⟨_, rfl⟩
 obtain ⟨⟨x3, s3⟩, h3⟩ : ∃ y, rdn 9999 s2 = y := ⟨_, rfl⟩
 obtain ⟨⟨x4, s4⟩, h4⟩ : ∃ y, rdn 9999 s3 = y := ⟨_, rfl⟩
 obtain ⟨⟨x5, s5⟩, h5⟩ : ∃ y, rdn 9999 s4 = y := ⟨_, rfl⟩
 obtain ⟨⟨x6, s6⟩, h6⟩ : ∃ y, rdn 1099511627776 s5 = y := ⟨_, rfl⟩
 obtain ⟨⟨x7, s7⟩, h7⟩ : ∃ y, rdn 18446744073709551615 s6 = y := ⟨_, rfl⟩
 obtain ⟨⟨x8, s8⟩, h8⟩ : ∃ y, rdt 16 s7 = y := ⟨_, rfl⟩
 obtain ⟨⟨x9, s9⟩, h9⟩ : ∃ y, rdn 9999 s8 = y := ⟨_, rfl⟩
 obtain ⟨⟨x10, s10⟩, h10⟩ : ∃ y, rdn 16 s9 = y := ⟨_, rfl⟩
 obtain ⟨⟨gs, s11⟩, h11⟩ : ∃ y, rmany (rdni 9999) x10 s10 = y := ⟨_, rfl⟩
 obtain ⟨⟨x12, s12⟩, h12⟩ : ∃ y, rdn 16 s11 = y := ⟨_, rfl⟩
 obtain ⟨⟨ps, s13⟩, h13⟩ : ∃ y, rmany rdf x12 s12 = y := ⟨_, rfl⟩
 have HDS : Hid (cmdS (bs, false) = (⟨(x1 : Int), x2, (x3 : Int), (x4 : Int), (x5 : Int), (x6 : Int), FareM.of x7, x8, (x9 : Int), gs, ps⟩, s13)) := zh (by
  unfold cmdS
  simp only [h1, h2, h3, h4, h5, h6, h7, h8, h9, h10, h11, h12, h13])
 have HBS : Hid (CmB ⟨(x1 : Int), x2, (x3 : Int), (x4 : Int), (x5 : Int), (x6 : Int), FareM.of x7, x8, (x9 : Int), gs, ps⟩) := zh (by have := cmdS_ok (bs, false); rw [HDS.out] at this; exact this)
 have hx1 : x1 ≤ 9 := by have := rdn_le 9 (bs, false); rw [h1] at this; exact this
 have hw1 : IntKind.i64.wrap (x1 : Int) = (x1 : Int) := zm _ (by omega)
 have hx3 : x3 ≤ 9999 := by have := rdn_le 9999 s2; rw [h3] at this; exact this
 have hw3 : IntKind.i64.wrap (x3 : Int) = (x3 : Int) := zm _ (by omega)
 have hx4 : x4 ≤ 9999 := by have := rdn_le 9999 s3; rw [h4] at this; exact this
 have hw4 : IntKind.i64.wrap (x4 : Int) = (x4 : Int) := zm _ (by omega)
 have hx5 : x5 ≤ 9999 := by have := rdn_le 9999 s4; rw [h5] at this; exact this
 have hw5 : IntKind.i64.wrap (x5 : Int) = (x5 : Int) := zm _ (by omega)
 have hx6 : x6 ≤ 1099511627776 := by have := rdn_le 1099511627776 s5; rw [h6] at this; exact this
 have hw6 : IntKind.i64.wrap (x6 : Int) = (x6 : Int) := zm _ (by omega)
 have hx7 : x7 ≤ 18446744073709551615 := by have := rdn_le 18446744073709551615 s6; rw [h7] at this; exact this
 have hx9 : x9 ≤ 9999 := by have := rdn_le 9999 s8; rw [h9] at this; exact this
 have hw9 : IntKind.i64.wrap (x9 : Int) = (x9 : Int) := zm _ (by omega)
 have hx10 : x10 ≤ 16 := by have := rdn_le 16 s9; rw [h10] at this; exact this
 have hx12 : x12 ≤ 16 := by have := rdn_le 16 s11; rw [h12] at this; exact this
 have H1 := zh h1
 have H2 := zh h2
 have H3 := zh h3
 have H4 := zh h4
 have H5 := zh h5
 have H6 := zh h6
 have H7 := zh h7
 have H8 := zh h8
 have H9 := zh h9
 have H10 := zh h10
 have H11 := zh h11
 have H12 := zh h12
 have H13 := zh h13
 clear hA F0 F1 b0 h1 h2 h3 h4 h5 h6 h7 h8 h9 h10 h11 h12 h13
 go_in
 go_upto_region 2 with fail
 try rw [hW0]
 rw [← hg]
 try rw [hW1]
 clear hW0 hW1 hg
 go_wp2_with fail
 refine (HD1.out.num 9 H1.out).mono ?_
 rintro e wa ⟨rfl, ha⟩
 have HDa := zh ha
 clear ha
 go_wp2_with fail
 refine (HDa.out.text H2.out).mono ?_
 rintro e wb ⟨⟨A2, c2, rfl, hcv⟩, hb⟩
 have HDb := zh hb
 obtain ⟨W5, hW5⟩ : ∃ W, wb.alloc (.cells #[.int .i64 0, .string ⟨#[]⟩, .int .i64 0, .int .i64 0, .int .i64 0, .int .i64 0, .float .f64 0, .string ⟨#[]⟩, .int .i64 0, .slice none 0 0, .slice none 0 0] 95) = W := ⟨_, rfl⟩
 obtain ⟨q, hq⟩ : ∃ q, wb.heap.size = q := ⟨_, rfl⟩
 have HD5 : Hid (D0 w g s2 W5) := zh (by rw [← hW5]; exact hb.fresh ((za _ wb).alloc _))
 have HQ5 : Hid (DC w g q s2 cz0 W5) := zh ⟨HD5.out, by rw [← hq]; exact hb.rdr.lt, by rw [← hW5, ← hq]; exact Blk.new wb _ _⟩
 obtain ⟨zs, hzs⟩ : ∃ zs : List Value, zs = [.int .i64 (x1 : Int), .string (str x2), .int .i64 0, .int .i64 0, .int .i64 0, .int .i64 0, .float .f64 0, .string ⟨#[]⟩, .int .i64 0, .slice none 0 0, .slice none 0 0] := ⟨_, rfl⟩
 have HTH : Hid (W5.there q 0 zs.toArray.size) := zh (by rw [hzs]; exact HQ5.out.box.there rfl)
 have HI : Hid ((Tryz.prog.info? 95).map (·.size) = some zs.toArray.size) := zh (by rw [hzs]; kernel_rfl)
 have HO : Hid (zs.toArray.all (·.oneCell') = true) := zh (by rw [hzs]; kernel_rfl)
 have HZS := zh hzs
 obtain ⟨W, hW⟩ : ∃ W, W5.setCells q 0 zs.toArray.toList = W := ⟨_, rfl⟩
 have FW : Frm (fun j => j = q) W5 W := by
  have := jE q zs.toArray.toList 0 W5
  have e : (fun k => q = k) = (fun k => k = q) := by funext k; exact propext eq_comm
  rw [e, hW] at this
  exact this
 have HDW : Hid (DC w g q s2 zs W) := zh (by
  have h1 := HQ5.out.gq
  have h2 := HQ5.out.d.low
  refine ⟨⟨HD5.out.rdr.frm FW (by omega) (fun k hk e => by omega), h2, HD5.out.res.frm FW (by omega), HD5.out.frm.trans' FW (fun k hk e => by omega)⟩, h1, ?_⟩
  rw [← hW]
  exact jG HQ5.out.box (by rw [hzs]; rfl))
 clear hb HD1 HDa FW hzs
 go_wp2_with (first | (refine zd rfl 95 (.tmp 5) (.tmp 20) rfl q 0 zs.toArray rfl (by rw [HZS.out]; rfl) HTH.out HI.out HO.out ?_) | (rw [hW5, hq]; refine zd rfl 95 (.tmp 5) (.tmp 20) rfl q 0 zs.toArray rfl (by rw [HZS.out]; rfl) HTH.out HI.out HO.out ?_) | (rw [hq, hW5]; refine zd rfl 95 (.tmp 5) (.tmp 20) rfl q 0 zs.toArray rfl (by rw [HZS.out]; rfl) HTH.out HI.out HO.out ?_) | (rw [hW5]; refine zd rfl 95 (.tmp 5) (.tmp 20) rfl q 0 zs.toArray rfl (by rw [HZS.out]; rfl) HTH.out HI.out HO.out ?_) | (rw [hq]; refine zd rfl 95 (.tmp 5) (.tmp 20) rfl q 0 zs.toArray rfl (by rw [HZS.out]; rfl) HTH.out HI.out HO.out ?_))
 try rw [hW]
 rw [HZS.out] at HDW
 clear hW hW5 hq hw1 hcv HDb HTH HI HO HZS HQ5 HD5
 go_wp2_with fail
 refine (HDW.out.num 9999 H3.out).mono ?_
 rintro e r3 ⟨rfl, hr3, _⟩
 have y3 : r3.cell? ⟨q, 2, none⟩ = some (.int .i64 0) := hr3.box.cell 2
 have z3 : r3.frozen? ⟨q, 2, none⟩ = false := hr3.box.frozen 2
 obtain ⟨V3, hV3⟩ : ∃ V, r3.setCell ⟨q, 2, none⟩ (.int .i64 (x3 : Int)) = V := ⟨_, rfl⟩
 have HV3 : Hid (DC w g q s3 [.int .i64 (x1 : Int), .string (str x2), .int .i64 (x3 : Int), .int .i64 0, .int .i64 0, .int .i64 0, .float .f64 0, .string ⟨#[]⟩, .int .i64 0, .slice none 0 0, .slice none 0 0] V3) := zh (by rw [← hV3]; exact hr3.set 2 _)
 clear hr3 HDW
 go_upto_region 4 with fail
 try rw [hV3]
 clear hV3 y3 z3
 go_wp2_with fail
 refine (HV3.out.num 9999 H4.out).mono ?_
 rintro e r4 ⟨rfl, hr4, _⟩
 have y4 : r4.cell? ⟨q, 3, none⟩ = some (.int .i64 0) := hr4.box.cell 3
 have z4 : r4.frozen? ⟨q, 3, none⟩ = false := hr4.box.frozen 3
 obtain ⟨V4, hV4⟩ : ∃ V, r4.setCell ⟨q, 3, none⟩ (.int .i64 (x4 : Int)) = V := ⟨_, rfl⟩
 have HV4 : Hid (DC w g q s4 [.int .i64 (x1 : Int), .string (str x2), .int .i64 (x3 : Int), .int .i64 (x4 : Int), .int .i64 0, .int .i64 0, .float .f64 0, .string ⟨#[]⟩, .int .i64 0, .slice none 0 0, .slice none 0 0] V4) := zh (by rw [← hV4]; exact hr4.set 3 _)
 clear hr4 HV3
 go_upto_region 5 with fail
 try rw [hV4]
 clear hV4 y4 z4
 go_wp2_with fail
 refine (HV4.out.num 9999 H5.out).mono ?_
 rintro e r5 ⟨rfl, hr5, _⟩
 have y5 : r5.cell? ⟨q, 4, none⟩ = some (.int .i64 0) := hr5.box.cell 4
 have z5 : r5.frozen? ⟨q, 4, none⟩ = false := hr5.box.frozen 4
 obtain ⟨V5, hV5⟩ : ∃ V, r5.setCell ⟨q, 4, none⟩ (.int .i64 (x5 : Int)) = V := ⟨_, rfl⟩
 have HV5 : Hid (DC w g q s5 [.int .i64 (x1 : Int), .string (str x2), .int .i64 (x3 : Int), .int .i64 (x4 : Int), .int .i64 (x5 : Int), .int .i64 0, .float .f64 0, .string ⟨#[]⟩, .int .i64 0, .slice none 0 0, .slice none 0 0] V5) := zh (by rw [← hV5]; exact hr5.set 4 _)
 clear hr5 HV4
 go_upto_region 6 with fail
 try rw [hV5]
 clear hV5 y5 z5
 go_wp2_with fail
 refine (HV5.out.num 1099511627776 H6.out).mono ?_
 rintro e r6 ⟨rfl, hr6, _⟩
 have y6 : r6.cell? ⟨q, 5, none⟩ = some (.int .i64 0) := hr6.box.cell 5
 have z6 : r6.frozen? ⟨q, 5, none⟩ = false := hr6.box.frozen 5
 obtain ⟨V6, hV6⟩ : ∃ V, r6.setCell ⟨q, 5, none⟩ (.int .i64 (x6 : Int)) = V := ⟨_, rfl⟩
 have HV6 : Hid (DC w g q s6 [.int .i64 (x1 : Int), .string (str x2), .int .i64 (x3 : Int), .int .i64 (x4 : Int), .int .i64 (x5 : Int), .int .i64 (x6 : Int), .float .f64 0, .string ⟨#[]⟩, .int .i64 0, .slice none 0 0, .slice none 0 0] V6) := zh (by rw [← hV6]; exact hr6.set 5 _)
 clear hr6 HV5
 go_upto_region 7 with fail
 try rw [hV6]
 clear hV6 y6 z6
 go_wp2_with fail
 refine (HV6.out.num 18446744073709551615 H7.out).mono ?_
 rintro e r7 ⟨rfl, hr7, _⟩
 have hof := refOf_any x7 (by omega)
 have y7 : r7.cell? ⟨q, 6, none⟩ = some (.float .f64 0) := hr7.box.cell 6
 have z7 : r7.frozen? ⟨q, 6, none⟩ = false := hr7.box.frozen 6
 obtain ⟨V7, hV7⟩ : ∃ V, r7.setCell ⟨q, 6, none⟩ (.float .f64 (FareM.of x7)) = V := ⟨_, rfl⟩
 have HV7 : Hid (DC w g q s7 [.int .i64 (x1 : Int), .string (str x2), .int .i64 (x3 : Int), .int .i64 (x4 : Int), .int .i64 (x5 : Int), .int .i64 (x6 : Int), .float .f64 (FareM.of x7), .string ⟨#[]⟩, .int .i64 0, .slice none 0 0, .slice none 0 0] V7) := zh (by rw [← hV7]; exact hr7.set 6 _)
 clear hr7 HV6
 go_wp2_with fail
 refine (hof _).mono ?_
 rintro e w7 ⟨rfl, rfl⟩
 clear hof
 go_upto_region 8 with fail
 try rw [hV7]
 clear hV7 y7 z7
 go_wp2_with fail
 refine (HV7.out.text H8.out).mono ?_
 rintro e r8 ⟨⟨A8, c8, rfl, hcv⟩, hr8⟩
 have y8 : r8.cell? ⟨q, 7, none⟩ = some (.string ⟨#[]⟩) := hr8.box.cell 7
 have z8 : r8.frozen? ⟨q, 7, none⟩ = false := hr8.box.frozen 7
 obtain ⟨V8, hV8⟩ : ∃ V, r8.setCell ⟨q, 7, none⟩ (.string (str x8)) = V := ⟨_, rfl⟩
 have HV8 : Hid (DC w g q s8 [.int .i64 (x1 : Int), .string (str x2), .int .i64 (x3 : Int), .int .i64 (x4 : Int), .int .i64 (x5 : Int), .int .i64 (x6 : Int), .float .f64 (FareM.of x7), .string (str x8), .int .i64 0, .slice none 0 0, .slice none 0 0] V8) := zh (by rw [← hV8]; exact hr8.set 7 _)
 clear hr8 HV7
 go_upto_region 9 with fail
 try rw [hV8]
 clear hV8 y8 z8 hcv
 go_wp2_with fail
 refine (HV8.out.num 9999 H9.out).mono ?_
 rintro e r9 ⟨rfl, hr9, _⟩
 have y9 : r9.cell? ⟨q, 8, none⟩ = some (.int .i64 0) := hr9.box.cell 8
 have z9 : r9.frozen? ⟨q, 8, none⟩ = false := hr9.box.frozen 8
 obtain ⟨V9, hV9⟩ : ∃ V, r9.setCell ⟨q, 8, none⟩ (.int .i64 (x9 : Int)) = V := ⟨_, rfl⟩
 have HV9 : Hid (DC w g q s9 [.int .i64 (x1 : Int), .string (str x2), .int .i64 (x3 : Int), .int .i64 (x4 : Int), .int .i64 (x5 : Int), .int .i64 (x6 : Int), .float .f64 (FareM.of x7), .string (str x8), .int .i64 (x9 : Int), .slice none 0 0, .slice none 0 0] V9) := zh (by rw [← hV9]; exact hr9.set 8 _)
 clear hr9 HV8
 go_upto_region 10 with fail
 try rw [hV9]
 clear hV9 y9 z9
 go_wp2_with fail
 refine (HV9.out.num 16 H10.out).mono ?_
 rintro e r10 ⟨rfl, hr10, _⟩
 have HDl := zh hr10
 clear hr10 HV9
 go_wp2_with fail
 have HGV : Hid (Sl r10 (q + 1) 3 1 (.slice none 0 0) 0 (ivs [])) := zh (Sl.nil _ _ _ _)
 go_loopw [7] (fun v7 wr => ∃ (k : Nat) (acc : List Int) (s : RS) (gv : Value), k ≤ x10 ∧ v7 = .int .u64 (k : Int) ∧ rmany (rdni 9999) k s10 = (acc, s) ∧ DC w g q s [.int .i64 (x1 : Int), .string (str x2), .int .i64 (x3 : Int), .int .i64 (x4 : Int), .int .i64 (x5 : Int), .int .i64 (x6 : Int), .float .f64 (FareM.of x7), .string (str x8), .int .i64 (x9 : Int), gv, .slice none 0 0] wr ∧ Sl wr (q + 1) 3 1 gv k (ivs acc)) (fun v7 _ => x10 - (intOf v7).toNat)
 case atStart => exact ⟨0, [], s10, .slice none 0 0, by omega, rfl, rfl, HDl.out, HGV.out⟩
 case round =>
  obtain ⟨k, acc, s, gv, hkl, rfl, hac, hdc, hsl⟩ := hrel
  have hk0 : (0 : Int) ≤ (k : Int) := by omega
  obtain ⟨A6, c6, rfl, _⟩ := hsl.shape
  have HAC := zh hac
  have HDC := zh hdc
  have HSL := zh hsl
  clear hac hdc hsl
  by_cases hlt : k < x10
  ·have hlti : (k : Int) < (x10 : Int) := by omega
   have d1 : decide ((k : Int) < (x10 : Int)) = true := zc hlti
   obtain ⟨⟨n, t⟩, hn⟩ : ∃ y, rdn 9999 s = y := ⟨_, rfl⟩
   have hnx : n ≤ 9999 := by have := rdn_le 9999 s; rw [hn] at this; exact this
   have hwn : IntKind.i64.wrap (n : Int) = (n : Int) := zm _ (by omega)
   have HRM : Hid (rmany (rdni 9999) (k + 1) s10 = (acc ++ [(n : Int)], t)) := zh (by
    show ((rmany (rdni 9999) k s10).1 ++ [(rdni 9999 (rmany (rdni 9999) k s10).2).1], (rdni 9999 (rmany (rdni 9999) k s10).2).2) = _
    rw [HAC.out]
    unfold rdni
    dsimp only
    rw [hn])
   have HNU := zh ((HDC.out.fresh (za _ wr).drew).num 9999 hn)
   have y0 : wr.drew.cell? ⟨q, 9, none⟩ = some (.slice A6 k c6) := HDC.out.box.cell 9
   have HSD := zh HSL.out.drew
   clear hn
   go_upto_region 14 with fail
   refine zj (S := (fun _ => True)) (by kernel_rfl) (trivial) (fun hHeld => ?_)
   iterate 2 ((first | refine ztn (v := ?_) (zo rfl) ?_ | refine ztz (v := ?_) (zo rfl) ?_); try simp only [Act.put, zT, zZ, zS])
   (refine zt 3 (v := ?_) (zo rfl) ?_; try simp only [Act.put, zT, zZ, zS])
   refine zr2 2 4 (zo rfl) (zo rfl) (fun K hK => ?_) (fun K hK => ?_)
   ·go_simp
    refine hK.out _ _ (trivial) (fun hHeld => ?_)
    clear hK K
    try simp only [Act.put, zT, zZ, zS]
    refine zr1 4 (zo rfl) (fun K hK => ?_)
    go_simp
    refine (HNU.out).mono ?_
    rintro e w2 ⟨rfl, hd2, f2⟩
    have HD2 := zh hd2
    have HS2 := zh (HSD.out.frm f2 (fun k' hk' e => by have h1 := (HSD.out.lt _ hk').1; have h2 := HDC.out.gq; omega))
    have y2 : w2.cell? ⟨q, 9, none⟩ = some (.slice A6 k c6) := hd2.box.cell 9
    have HDV : Hid (DC w g q t [.int .i64 (x1 : Int), .string (str x2), .int .i64 (x3 : Int), .int .i64 (x4 : Int), .int .i64 (x5 : Int), .int .i64 (x6 : Int), .float .f64 (FareM.of x7), .string (str x8), .int .i64 (x9 : Int), .slice A6 k c6, .slice none 0 0] (w2.alloc (.cells #[.int .i64 (n : Int)] 3))) := zh (hd2.fresh ((za _ w2).alloc _))
    have y3 : (w2.alloc (.cells #[.int .i64 (n : Int)] 3)).cell? ⟨q, 9, none⟩ = some (.slice A6 k c6) := HDV.out.box.cell 9
    have HSV := zh (HS2.out.alloc (.cells #[.int .i64 (n : Int)] 3))
    have RV : Hid (Rd (w2.alloc (.cells #[.int .i64 (n : Int)] 3)) (w2.heap.size + 1) (some ⟨w2.heap.size, 0, none⟩) [.int .i64 (n : Int)]) := zh (qE w2 _ _)
    have hqs : q + 1 ≤ (w2.alloc (.cells #[.int .i64 (n : Int)] 3)).heap.size := by have := HDV.out.box.lt; omega
    clear hd2 f2
    refine hK.out _ _ (trivial) (fun hHeld => ?_)
    clear hK K
    try simp only [Act.put, zT, zZ, zS]
    (refine ztn (v := ?_) (zo rfl) ?_; try simp only [Act.put, zT, zZ, zS])
    refine zr1 6 (zo rfl) (fun K hK => ?_)
    go_simp
    refine hK.out _ _ (trivial) (fun hHeld => ?_)
    clear hK K
    try simp only [Act.put, zT, zZ, zS]
    refine zr1 7 (zo rfl) (fun K hK => ?_)
    refine jF (by rfl) (.tmp 59) (.tmp 63) _ (by rfl) (q + 1) 3 i1 _ 1 8 Tryz.underlying26 hi1 hz1 hz2 hz3 rfl (by omega) (.slice A6 k c6) k (ivs acc) (by simp [Act.eval, Act.put]) HSV.out (w2.heap.size + 1) (some ⟨w2.heap.size, 0, none⟩) 1 1 [.int .i64 (n : Int)] (by simp [Act.eval, Act.put]) rfl RV.out (fun u hu => by simp at hu; subst hu; rfl) (by unfold maxLen; omega) (by omega) hqs ?_
    intro v1 wa hs1 hf1 _
    obtain ⟨A8, c8, rfl, _⟩ := hs1.shape
    have HDA := zh (HDV.out.far hf1 (fun k' hk' => (HSV.out.lt _ hk').1))
    have HS1 := zh hs1
    have y4 : wa.cell? ⟨q, 9, none⟩ = some (.slice A6 k c6) := HDA.out.box.cell 9
    have z4 : wa.frozen? ⟨q, 9, none⟩ = false := HDA.out.box.frozen 9
    clear hs1 hf1
    refine hK.out _ _ (trivial) (fun hHeld => ?_)
    clear hK K
    try simp only [Act.put, zT, zZ, zS]
    iterate 2 (refine ztn (v := ?_) (zo rfl) ?_; try simp only [Act.put, zT, zZ, zS])
    refine zr1 10 (zo rfl) (fun K hK => ?_)
    go_simp
    refine hK.out _ _ (trivial) (fun hHeld => ?_)
    clear hK K
    try simp only [Act.put, zT, zZ, zS]
    refine wpAnyH_done (by kernel_rfl) ?_ _
    have HDB := zh (HDA.out.set 9 (.slice A8 (k + 1) c8))
    have HSB : Hid (Sl (wa.setCell ⟨q, 9, none⟩ (.slice A8 (k + 1) c8)) (q + 1) 3 1 (.slice A8 (k + 1) c8) (k + 1) (ivs (acc ++ [(n : Int)]))) := zh (by have h1 := HS1.out.frm ((za (fun k => k = q) wa).setCell (p := ⟨q, 9, none⟩) (fun _ => rfl) (.slice A8 (k + 1) c8)) (fun k' hk' e => by have h1 := (HS1.out.lt _ hk').1; omega); unfold ivs at h1 ⊢; rw [zn]; exact h1)
    clear y4 z4
    go_wp2_with fail
    go_roundw
    case rel => exact ⟨k + 1, acc ++ [(n : Int)], t, .slice A8 (k + 1) c8, by omega, by go_num, HRM.out, HDB.out, HSB.out⟩
    case measure => simp [intOf]; omega
   ·go_simp
    refine (HNU.out).mono ?_
    rintro e w2 ⟨rfl, hd2, f2⟩
    have HD2 := zh hd2
    have HS2 := zh (HSD.out.frm f2 (fun k' hk' e => by have h1 := (HSD.out.lt _ hk').1; have h2 := HDC.out.gq; omega))
    have y2 : w2.cell? ⟨q, 9, none⟩ = some (.slice A6 k c6) := hd2.box.cell 9
    have HDV : Hid (DC w g q t [.int .i64 (x1 : Int), .string (str x2), .int .i64 (x3 : Int), .int .i64 (x4 : Int), .int .i64 (x5 : Int), .int .i64 (x6 : Int), .float .f64 (FareM.of x7), .string (str x8), .int .i64 (x9 : Int), .slice A6 k c6, .slice none 0 0] (w2.alloc (.cells #[.int .i64 (n : Int)] 3))) := zh (hd2.fresh ((za _ w2).alloc _))
    have y3 : (w2.alloc (.cells #[.int .i64 (n : Int)] 3)).cell? ⟨q, 9, none⟩ = some (.slice A6 k c6) := HDV.out.box.cell 9
    have HSV := zh (HS2.out.alloc (.cells #[.int .i64 (n : Int)] 3))
    have RV : Hid (Rd (w2.alloc (.cells #[.int .i64 (n : Int)] 3)) (w2.heap.size + 1) (some ⟨w2.heap.size, 0, none⟩) [.int .i64 (n : Int)]) := zh (qE w2 _ _)
    have hqs : q + 1 ≤ (w2.alloc (.cells #[.int .i64 (n : Int)] 3)).heap.size := by have := HDV.out.box.lt; omega
    clear hd2 f2
    refine hK.out _ _ (trivial) (fun hHeld => ?_)
    clear hK K
    try simp only [Act.put, zT, zZ, zS]
    (refine zt 5 (v := ?_) (zo rfl) ?_; try simp only [Act.put, zT, zZ, zS])
    refine zr2 2 6 (zo rfl) (zo rfl) (fun K hK => ?_) (fun K hK => ?_)
    ·go_simp
     refine hK.out _ _ (trivial) (fun hHeld => ?_)
     clear hK K
     try simp only [Act.put, zT, zZ, zS]
     refine zr1 6 (zo rfl) (fun K hK => ?_)
     go_simp
     refine hK.out _ _ (trivial) (fun hHeld => ?_)
     clear hK K
     try simp only [Act.put, zT, zZ, zS]
     refine zr1 7 (zo rfl) (fun K hK => ?_)
     refine jF (by rfl) (.tmp 59) (.tmp 63) _ (by rfl) (q + 1) 3 i1 _ 1 8 Tryz.underlying26 hi1 hz1 hz2 hz3 rfl (by omega) (.slice A6 k c6) k (ivs acc) (by simp [Act.eval, Act.put]) HSV.out (w2.heap.size + 1) (some ⟨w2.heap.size, 0, none⟩) 1 1 [.int .i64 (n : Int)] (by simp [Act.eval, Act.put]) rfl RV.out (fun u hu => by simp at hu; subst hu; rfl) (by unfold maxLen; omega) (by omega) hqs ?_
     intro v1 wa hs1 hf1 _
     obtain ⟨A8, c8, rfl, _⟩ := hs1.shape
     have HDA := zh (HDV.out.far hf1 (fun k' hk' => (HSV.out.lt _ hk').1))
     have HS1 := zh hs1
     have y4 : wa.cell? ⟨q, 9, none⟩ = some (.slice A6 k c6) := HDA.out.box.cell 9
     have z4 : wa.frozen? ⟨q, 9, none⟩ = false := HDA.out.box.frozen 9
     clear hs1 hf1
     refine hK.out _ _ (trivial) (fun hHeld => ?_)
     clear hK K
     try simp only [Act.put, zT, zZ, zS]
     iterate 2 (refine ztn (v := ?_) (zo rfl) ?_; try simp only [Act.put, zT, zZ, zS])
     refine zr1 10 (zo rfl) (fun K hK => ?_)
     go_simp
     refine hK.out _ _ (trivial) (fun hHeld => ?_)
     clear hK K
     try simp only [Act.put, zT, zZ, zS]
     refine wpAnyH_done (by kernel_rfl) ?_ _
     have HDB := zh (HDA.out.set 9 (.slice A8 (k + 1) c8))
     have HSB : Hid (Sl (wa.setCell ⟨q, 9, none⟩ (.slice A8 (k + 1) c8)) (q + 1) 3 1 (.slice A8 (k + 1) c8) (k + 1) (ivs (acc ++ [(n : Int)]))) := zh (by have h1 := HS1.out.frm ((za (fun k => k = q) wa).setCell (p := ⟨q, 9, none⟩) (fun _ => rfl) (.slice A8 (k + 1) c8)) (fun k' hk' e => by have h1 := (HS1.out.lt _ hk').1; omega); unfold ivs at h1 ⊢; rw [zn]; exact h1)
     clear y4 z4
     go_wp2_with fail
     go_roundw
     case rel => exact ⟨k + 1, acc ++ [(n : Int)], t, .slice A8 (k + 1) c8, by omega, by go_num, HRM.out, HDB.out, HSB.out⟩
     case measure => simp [intOf]; omega
    ·go_simp
     refine hK.out _ _ (trivial) (fun hHeld => ?_)
     clear hK K
     try simp only [Act.put, zT, zZ, zS]
     refine zr1 2 (zo rfl) (fun K hK => ?_)
     go_simp
     refine hK.out _ _ (trivial) (fun hHeld => ?_)
     clear hK K
     try simp only [Act.put, zT, zZ, zS]
     refine zr1 7 (zo rfl) (fun K hK => ?_)
     refine jF (by rfl) (.tmp 59) (.tmp 63) _ (by rfl) (q + 1) 3 i1 _ 1 8 Tryz.underlying26 hi1 hz1 hz2 hz3 rfl (by omega) (.slice A6 k c6) k (ivs acc) (by simp [Act.eval, Act.put]) HSV.out (w2.heap.size + 1) (some ⟨w2.heap.size, 0, none⟩) 1 1 [.int .i64 (n : Int)] (by simp [Act.eval, Act.put]) rfl RV.out (fun u hu => by simp at hu; subst hu; rfl) (by unfold maxLen; omega) (by omega) hqs ?_
     intro v1 wa hs1 hf1 _
     obtain ⟨A8, c8, rfl, _⟩ := hs1.shape
     have HDA := zh (HDV.out.far hf1 (fun k' hk' => (HSV.out.lt _ hk').1))
     have HS1 := zh hs1
     have y4 : wa.cell? ⟨q, 9, none⟩ = some (.slice A6 k c6) := HDA.out.box.cell 9
     have z4 : wa.frozen? ⟨q, 9, none⟩ = false := HDA.out.box.frozen 9
     clear hs1 hf1
     refine hK.out _ _ (trivial) (fun hHeld => ?_)
     clear hK K
     try simp only [Act.put, zT, zZ, zS]
     iterate 2 (refine ztn (v := ?_) (zo rfl) ?_; try simp only [Act.put, zT, zZ, zS])
     refine zr1 10 (zo rfl) (fun K hK => ?_)
     go_simp
     refine hK.out _ _ (trivial) (fun hHeld => ?_)
     clear hK K
     try simp only [Act.put, zT, zZ, zS]
     refine wpAnyH_done (by kernel_rfl) ?_ _
     have HDB := zh (HDA.out.set 9 (.slice A8 (k + 1) c8))
     have HSB : Hid (Sl (wa.setCell ⟨q, 9, none⟩ (.slice A8 (k + 1) c8)) (q + 1) 3 1 (.slice A8 (k + 1) c8) (k + 1) (ivs (acc ++ [(n : Int)]))) := zh (by have h1 := HS1.out.frm ((za (fun k => k = q) wa).setCell (p := ⟨q, 9, none⟩) (fun _ => rfl) (.slice A8 (k + 1) c8)) (fun k' hk' e => by have h1 := (HS1.out.lt _ hk').1; omega); unfold ivs at h1 ⊢; rw [zn]; exact h1)
     clear y4 z4
     go_wp2_with fail
     go_roundw
     case rel => exact ⟨k + 1, acc ++ [(n : Int)], t, .slice A8 (k + 1) c8, by omega, by go_num, HRM.out, HDB.out, HSB.out⟩
     case measure => simp [intOf]; omega
  ·have hlti : ¬ (k : Int) < (x10 : Int) := by omega
   have d1 : decide ((k : Int) < (x10 : Int)) = false := zb hlti
   have HG : Hid (gs = acc ∧ s11 = s) := zh (by have h1 := HAC.out; rw [show k = x10 by omega, H11.out] at h1; injection h1 with h2 h3; exact ⟨h2, h3⟩)
   have HGL : Hid (k = gs.length) := zh (by have h1 := rmany_len (rdni 9999) k s10; rw [HAC.out] at h1; rw [HG.out.1]; exact h1.symm)
   obtain ⟨rfl, rfl⟩ := HG.out
   clear HG HAC
   clear HDl HGV
   go_wp2_with fail
   refine (HDC.out.num 16 H12.out).mono ?_
   rintro e r12 ⟨rfl, hd12, f12⟩
   have HDm := zh hd12
   have HSm := zh (HSL.out.frm f12 (fun k' hk' e => by have h1 := (HSL.out.lt _ hk').1; have h2 := HDC.out.gq; omega))
   have HPV : Hid (Sl r12 (q + 1) 90 1 (.slice none 0 0) 0 (([] : List Nat).map fv)) := zh (Sl.nil _ _ _ _)
   clear hd12 f12 HDC HSL
   go_wp2_with fail
   go_loopw [8] (fun v8 wr => ∃ (j : Nat) (acc : List Nat) (t : RS) (pv : Value), j ≤ x12 ∧ v8 = .int .u64 (j : Int) ∧ rmany rdf j s12 = (acc, t) ∧ DC w g q t [.int .i64 (x1 : Int), .string (str x2), .int .i64 (x3 : Int), .int .i64 (x4 : Int), .int .i64 (x5 : Int), .int .i64 (x6 : Int), .float .f64 (FareM.of x7), .string (str x8), .int .i64 (x9 : Int), .slice A6 k c6, pv] wr ∧ Sl wr (q + 1) 3 1 (.slice A6 k c6) k (ivs gs) ∧ Sl wr (q + 1) 90 1 pv j (acc.map fv)) (fun v8 _ => x12 - (intOf v8).toNat)
   case atStart => exact ⟨0, [], s12, .slice none 0 0, by omega, rfl, rfl, HDm.out, HSm.out, HPV.out⟩
   case round =>
    obtain ⟨j, acc, s, pv, hjl, rfl, hac, hdc, hgl, hsl⟩ := hrel
    have hj0 : (0 : Int) ≤ (j : Int) := by omega
    obtain ⟨A7, c7, rfl, hp1, hp2, _⟩ := hsl.shape
    have HAC := zh hac
    have HDC := zh hdc
    have HSL := zh hsl
    have HGS := zh hgl
    clear hac hdc hsl hgl
    by_cases hlt : j < x12
    ·have hlti : (j : Int) < (x12 : Int) := by omega
     have d1 : decide ((j : Int) < (x12 : Int)) = true := zc hlti
     obtain ⟨⟨n, t⟩, hn⟩ : ∃ y, rdn 18446744073709551615 s = y := ⟨_, rfl⟩
     have hnx : n ≤ 18446744073709551615 := by have := rdn_le 18446744073709551615 s; rw [hn] at this; exact this
     have HRM : Hid (rmany rdf (j + 1) s12 = (acc ++ [FareM.of n], t)) := zh (by
      show ((rmany rdf j s12).1 ++ [(rdf (rmany rdf j s12).2).1], (rdf (rmany rdf j s12).2).2) = _
      rw [HAC.out]
      unfold rdf
      dsimp only
      rw [hn])
     have HNU := zh ((HDC.out.fresh (za _ wr).drew).num 18446744073709551615 hn)
     have HOF := zh (refOf_any n (by omega))
     generalize FareM.of n = fn at HOF HRM
     have y0 : wr.drew.cell? ⟨q, 10, none⟩ = some (.slice A7 j c7) := HDC.out.box.cell 10
     have HSD := zh HSL.out.drew
     have HGD := zh HGS.out.drew
     clear hn
     go_upto_region 19 with fail
     refine zj (S := (fun _ => True)) (by kernel_rfl) (trivial) (fun hHeld => ?_)
     (refine ztz (v := ?_) (zo rfl) ?_; try simp only [Act.put, zT, zZ, zS])
     (refine zt 2 (v := ?_) (zo rfl) ?_; try simp only [Act.put, zT, zZ, zS])
     refine zr2 1 3 (zo rfl) (zo rfl) (fun K hK => ?_) (fun K hK => ?_)
     ·go_simp
      refine hK.out _ _ (trivial) (fun hHeld => ?_)
      clear hK K
      try simp only [Act.put, zT, zZ, zS]
      refine zr1 3 (zo rfl) (fun K hK => ?_)
      go_simp
      refine (HNU.out).mono ?_
      rintro e w2 ⟨rfl, hd2, f2⟩
      have HD2 := zh hd2
      have HS2 := zh (HSD.out.frm f2 (fun k' hk' e => by have h1 := (HSD.out.lt _ hk').1; have h2 := HDC.out.gq; omega))
      have HG2 := zh (HGD.out.frm f2 (fun k' hk' e => by have h1 := (HGD.out.lt _ hk').1; have h2 := HDC.out.gq; omega))
      have y2 : w2.cell? ⟨q, 10, none⟩ = some (.slice A7 j c7) := hd2.box.cell 10
      have HDV : Hid (DC w g q t [.int .i64 (x1 : Int), .string (str x2), .int .i64 (x3 : Int), .int .i64 (x4 : Int), .int .i64 (x5 : Int), .int .i64 (x6 : Int), .float .f64 (FareM.of x7), .string (str x8), .int .i64 (x9 : Int), .slice A6 k c6, .slice A7 j c7] (w2.alloc (.cells #[.float .f64 fn] 90))) := zh (hd2.fresh ((za _ w2).alloc _))
      have y3 : (w2.alloc (.cells #[.float .f64 fn] 90)).cell? ⟨q, 10, none⟩ = some (.slice A7 j c7) := HDV.out.box.cell 10
      have HSV := zh (HS2.out.alloc (.cells #[.float .f64 fn] 90))
      have HGV := zh (HG2.out.alloc (.cells #[.float .f64 fn] 90))
      have RV : Hid (Rd (w2.alloc (.cells #[.float .f64 fn] 90)) (w2.heap.size + 1) (some ⟨w2.heap.size, 0, none⟩) [.float .f64 fn]) := zh (qE w2 _ _)
      have hqs : q + 1 ≤ (w2.alloc (.cells #[.float .f64 fn] 90)).heap.size := by have := HDV.out.box.lt; omega
      clear hd2 f2
      refine hK.out _ _ (trivial) (fun hHeld => ?_)
      clear hK K
      try simp only [Act.put, zT, zZ, zS]
      refine zr1 4 (zo rfl) (fun K hK => ?_)
      go_simp
      refine (HOF.out _).mono ?_
      rintro e w3 ⟨rfl, hw3⟩
      replace hw3 := hw3.symm
      subst hw3
      refine hK.out _ _ (trivial) (fun hHeld => ?_)
      clear hK K
      try simp only [Act.put, zT, zZ, zS]
      refine zr1 5 (zo rfl) (fun K hK => ?_)
      go_simp
      refine hK.out _ _ (trivial) (fun hHeld => ?_)
      clear hK K
      try simp only [Act.put, zT, zZ, zS]
      refine zr1 6 (zo rfl) (fun K hK => ?_)
      refine jF (by rfl) (.tmp 75) (.tmp 79) _ (by rfl) (q + 1) 90 i4 _ 1 8 Tryz.underlying93 hi4 hw0 hw1 hw2 rfl (by omega) (.slice A7 j c7) j (acc.map fv) (by simp [Act.eval, Act.put]) HSV.out (w2.heap.size + 1) (some ⟨w2.heap.size, 0, none⟩) 1 1 [.float .f64 fn] (by simp [Act.eval, Act.put]) rfl RV.out (fun u hu => by simp at hu; subst hu; rfl) (by unfold maxLen; omega) (by omega) hqs ?_
      intro v1 wa hs1 hf1 _
      obtain ⟨A8, c8, rfl, _⟩ := hs1.shape
      have HDA := zh (HDV.out.far hf1 (fun k' hk' => (HSV.out.lt _ hk').1))
      have HS1 := zh hs1
      have HGA := zh (HGV.out.frm hf1 (fun k' hk' e => HSV.out.differ HGV.out (by decide) e hk'))
      have y4 : wa.cell? ⟨q, 10, none⟩ = some (.slice A7 j c7) := HDA.out.box.cell 10
      have z4 : wa.frozen? ⟨q, 10, none⟩ = false := HDA.out.box.frozen 10
      clear hs1 hf1
      refine hK.out _ _ (trivial) (fun hHeld => ?_)
      clear hK K
      try simp only [Act.put, zT, zZ, zS]
      (refine ztn (v := ?_) (zo rfl) ?_; try simp only [Act.put, zT, zZ, zS])
      refine zr1 8 (zo rfl) (fun K hK => ?_)
      go_simp
      refine hK.out _ _ (trivial) (fun hHeld => ?_)
      clear hK K
      try simp only [Act.put, zT, zZ, zS]
      refine wpAnyH_done (by kernel_rfl) ?_ _
      have HDB := zh (HDA.out.set 10 (.slice A8 (j + 1) c8))
      have HSB : Hid (Sl (wa.setCell ⟨q, 10, none⟩ (.slice A8 (j + 1) c8)) (q + 1) 90 1 (.slice A8 (j + 1) c8) (j + 1) ((acc ++ [fn]).map fv)) := zh (by have h1 := HS1.out.frm ((za (fun k => k = q) wa).setCell (p := ⟨q, 10, none⟩) (fun _ => rfl) (.slice A8 (j + 1) c8)) (fun k' hk' e => by have h1 := (HS1.out.lt _ hk').1; omega); rw [zn]; exact h1)
      have HGB := zh (HGA.out.frm ((za (fun k => k = q) wa).setCell (p := ⟨q, 10, none⟩) (fun _ => rfl) (.slice A8 (j + 1) c8)) (fun k' hk' e => by have h1 := (HGA.out.lt _ hk').1; omega))
      clear y4 z4
      go_wp2_with fail
      go_roundw
      case rel => exact ⟨j + 1, acc ++ [fn], t, .slice A8 (j + 1) c8, by omega, by go_num, HRM.out, HDB.out, HGB.out, HSB.out⟩
      case measure => simp [intOf]; omega
     ·go_simp
      refine (HNU.out).mono ?_
      rintro e w2 ⟨rfl, hd2, f2⟩
      have HD2 := zh hd2
      have HS2 := zh (HSD.out.frm f2 (fun k' hk' e => by have h1 := (HSD.out.lt _ hk').1; have h2 := HDC.out.gq; omega))
      have HG2 := zh (HGD.out.frm f2 (fun k' hk' e => by have h1 := (HGD.out.lt _ hk').1; have h2 := HDC.out.gq; omega))
      have y2 : w2.cell? ⟨q, 10, none⟩ = some (.slice A7 j c7) := hd2.box.cell 10
      have HDV : Hid (DC w g q t [.int .i64 (x1 : Int), .string (str x2), .int .i64 (x3 : Int), .int .i64 (x4 : Int), .int .i64 (x5 : Int), .int .i64 (x6 : Int), .float .f64 (FareM.of x7), .string (str x8), .int .i64 (x9 : Int), .slice A6 k c6, .slice A7 j c7] (w2.alloc (.cells #[.float .f64 fn] 90))) := zh (hd2.fresh ((za _ w2).alloc _))
      have y3 : (w2.alloc (.cells #[.float .f64 fn] 90)).cell? ⟨q, 10, none⟩ = some (.slice A7 j c7) := HDV.out.box.cell 10
      have HSV := zh (HS2.out.alloc (.cells #[.float .f64 fn] 90))
      have HGV := zh (HG2.out.alloc (.cells #[.float .f64 fn] 90))
      have RV : Hid (Rd (w2.alloc (.cells #[.float .f64 fn] 90)) (w2.heap.size + 1) (some ⟨w2.heap.size, 0, none⟩) [.float .f64 fn]) := zh (qE w2 _ _)
      have hqs : q + 1 ≤ (w2.alloc (.cells #[.float .f64 fn] 90)).heap.size := by have := HDV.out.box.lt; omega
      clear hd2 f2
      refine hK.out _ _ (trivial) (fun hHeld => ?_)
      clear hK K
      try simp only [Act.put, zT, zZ, zS]
      refine zr2 1 4 (zo rfl) (zo rfl) (fun K hK => ?_) (fun K hK => ?_)
      ·go_simp
       refine hK.out _ _ (trivial) (fun hHeld => ?_)
       clear hK K
       try simp only [Act.put, zT, zZ, zS]
       refine zr1 4 (zo rfl) (fun K hK => ?_)
       go_simp
       refine (HOF.out _).mono ?_
       rintro e w3 ⟨rfl, hw3⟩
       replace hw3 := hw3.symm
       subst hw3
       refine hK.out _ _ (trivial) (fun hHeld => ?_)
       clear hK K
       try simp only [Act.put, zT, zZ, zS]
       refine zr1 5 (zo rfl) (fun K hK => ?_)
       go_simp
       refine hK.out _ _ (trivial) (fun hHeld => ?_)
       clear hK K
       try simp only [Act.put, zT, zZ, zS]
       refine zr1 6 (zo rfl) (fun K hK => ?_)
       refine jF (by rfl) (.tmp 75) (.tmp 79) _ (by rfl) (q + 1) 90 i4 _ 1 8 Tryz.underlying93 hi4 hw0 hw1 hw2 rfl (by omega) (.slice A7 j c7) j (acc.map fv) (by simp [Act.eval, Act.put]) HSV.out (w2.heap.size + 1) (some ⟨w2.heap.size, 0, none⟩) 1 1 [.float .f64 fn] (by simp [Act.eval, Act.put]) rfl RV.out (fun u hu => by simp at hu; subst hu; rfl) (by unfold maxLen; omega) (by omega) hqs ?_
       intro v1 wa hs1 hf1 _
       obtain ⟨A8, c8, rfl, _⟩ := hs1.shape
       have HDA := zh (HDV.out.far hf1 (fun k' hk' => (HSV.out.lt _ hk').1))
       have HS1 := zh hs1
       have HGA := zh (HGV.out.frm hf1 (fun k' hk' e => HSV.out.differ HGV.out (by decide) e hk'))
       have y4 : wa.cell? ⟨q, 10, none⟩ = some (.slice A7 j c7) := HDA.out.box.cell 10
       have z4 : wa.frozen? ⟨q, 10, none⟩ = false := HDA.out.box.frozen 10
       clear hs1 hf1
       refine hK.out _ _ (trivial) (fun hHeld => ?_)
       clear hK K
       try simp only [Act.put, zT, zZ, zS]
       (refine ztn (v := ?_) (zo rfl) ?_; try simp only [Act.put, zT, zZ, zS])
       refine zr1 8 (zo rfl) (fun K hK => ?_)
       go_simp
       refine hK.out _ _ (trivial) (fun hHeld => ?_)
       clear hK K
       try simp only [Act.put, zT, zZ, zS]
       refine wpAnyH_done (by kernel_rfl) ?_ _
       have HDB := zh (HDA.out.set 10 (.slice A8 (j + 1) c8))
       have HSB : Hid (Sl (wa.setCell ⟨q, 10, none⟩ (.slice A8 (j + 1) c8)) (q + 1) 90 1 (.slice A8 (j + 1) c8) (j + 1) ((acc ++ [fn]).map fv)) := zh (by have h1 := HS1.out.frm ((za (fun k => k = q) wa).setCell (p := ⟨q, 10, none⟩) (fun _ => rfl) (.slice A8 (j + 1) c8)) (fun k' hk' e => by have h1 := (HS1.out.lt _ hk').1; omega); rw [zn]; exact h1)
       have HGB := zh (HGA.out.frm ((za (fun k => k = q) wa).setCell (p := ⟨q, 10, none⟩) (fun _ => rfl) (.slice A8 (j + 1) c8)) (fun k' hk' e => by have h1 := (HGA.out.lt _ hk').1; omega))
       clear y4 z4
       go_wp2_with fail
       go_roundw
       case rel => exact ⟨j + 1, acc ++ [fn], t, .slice A8 (j + 1) c8, by omega, by go_num, HRM.out, HDB.out, HGB.out, HSB.out⟩
       case measure => simp [intOf]; omega
      ·go_simp
       refine (HOF.out _).mono ?_
       rintro e w3 ⟨rfl, hw3⟩
       replace hw3 := hw3.symm
       subst hw3
       refine hK.out _ _ (trivial) (fun hHeld => ?_)
       clear hK K
       try simp only [Act.put, zT, zZ, zS]
       refine zr2 1 5 (zo rfl) (zo rfl) (fun K hK => ?_) (fun K hK => ?_)
       ·go_simp
        refine hK.out _ _ (trivial) (fun hHeld => ?_)
        clear hK K
        try simp only [Act.put, zT, zZ, zS]
        refine zr1 5 (zo rfl) (fun K hK => ?_)
        go_simp
        refine hK.out _ _ (trivial) (fun hHeld => ?_)
        clear hK K
        try simp only [Act.put, zT, zZ, zS]
        refine zr1 6 (zo rfl) (fun K hK => ?_)
        refine jF (by rfl) (.tmp 75) (.tmp 79) _ (by rfl) (q + 1) 90 i4 _ 1 8 Tryz.underlying93 hi4 hw0 hw1 hw2 rfl (by omega) (.slice A7 j c7) j (acc.map fv) (by simp [Act.eval, Act.put]) HSV.out (w2.heap.size + 1) (some ⟨w2.heap.size, 0, none⟩) 1 1 [.float .f64 fn] (by simp [Act.eval, Act.put]) rfl RV.out (fun u hu => by simp at hu; subst hu; rfl) (by unfold maxLen; omega) (by omega) hqs ?_
        intro v1 wa hs1 hf1 _
        obtain ⟨A8, c8, rfl, _⟩ := hs1.shape
        have HDA := zh (HDV.out.far hf1 (fun k' hk' => (HSV.out.lt _ hk').1))
        have HS1 := zh hs1
        have HGA := zh (HGV.out.frm hf1 (fun k' hk' e => HSV.out.differ HGV.out (by decide) e hk'))
        have y4 : wa.cell? ⟨q, 10, none⟩ = some (.slice A7 j c7) := HDA.out.box.cell 10
        have z4 : wa.frozen? ⟨q, 10, none⟩ = false := HDA.out.box.frozen 10
        clear hs1 hf1
        refine hK.out _ _ (trivial) (fun hHeld => ?_)
        clear hK K
        try simp only [Act.put, zT, zZ, zS]
        (refine ztn (v := ?_) (zo rfl) ?_; try simp only [Act.put, zT, zZ, zS])
        refine zr1 8 (zo rfl) (fun K hK => ?_)
        go_simp
        refine hK.out _ _ (trivial) (fun hHeld => ?_)
        clear hK K
        try simp only [Act.put, zT, zZ, zS]
        refine wpAnyH_done (by kernel_rfl) ?_ _
        have HDB := zh (HDA.out.set 10 (.slice A8 (j + 1) c8))
        have HSB : Hid (Sl (wa.setCell ⟨q, 10, none⟩ (.slice A8 (j + 1) c8)) (q + 1) 90 1 (.slice A8 (j + 1) c8) (j + 1) ((acc ++ [fn]).map fv)) := zh (by have h1 := HS1.out.frm ((za (fun k => k = q) wa).setCell (p := ⟨q, 10, none⟩) (fun _ => rfl) (.slice A8 (j + 1) c8)) (fun k' hk' e => by have h1 := (HS1.out.lt _ hk').1; omega); rw [zn]; exact h1)
        have HGB := zh (HGA.out.frm ((za (fun k => k = q) wa).setCell (p := ⟨q, 10, none⟩) (fun _ => rfl) (.slice A8 (j + 1) c8)) (fun k' hk' e => by have h1 := (HGA.out.lt _ hk').1; omega))
        clear y4 z4
        go_wp2_with fail
        go_roundw
        case rel => exact ⟨j + 1, acc ++ [fn], t, .slice A8 (j + 1) c8, by omega, by go_num, HRM.out, HDB.out, HGB.out, HSB.out⟩
        case measure => simp [intOf]; omega
       ·go_simp
        refine hK.out _ _ (trivial) (fun hHeld => ?_)
        clear hK K
        try simp only [Act.put, zT, zZ, zS]
        refine zr1 1 (zo rfl) (fun K hK => ?_)
        go_simp
        refine hK.out _ _ (trivial) (fun hHeld => ?_)
        clear hK K
        try simp only [Act.put, zT, zZ, zS]
        refine zr1 6 (zo rfl) (fun K hK => ?_)
        refine jF (by rfl) (.tmp 75) (.tmp 79) _ (by rfl) (q + 1) 90 i4 _ 1 8 Tryz.underlying93 hi4 hw0 hw1 hw2 rfl (by omega) (.slice A7 j c7) j (acc.map fv) (by simp [Act.eval, Act.put]) HSV.out (w2.heap.size + 1) (some ⟨w2.heap.size, 0, none⟩) 1 1 [.float .f64 fn] (by simp [Act.eval, Act.put]) rfl RV.out (fun u hu => by simp at hu; subst hu; rfl) (by unfold maxLen; omega) (by omega) hqs ?_
        intro v1 wa hs1 hf1 _
        obtain ⟨A8, c8, rfl, _⟩ := hs1.shape
        have HDA := zh (HDV.out.far hf1 (fun k' hk' => (HSV.out.lt _ hk').1))
        have HS1 := zh hs1
        have HGA := zh (HGV.out.frm hf1 (fun k' hk' e => HSV.out.differ HGV.out (by decide) e hk'))
        have y4 : wa.cell? ⟨q, 10, none⟩ = some (.slice A7 j c7) := HDA.out.box.cell 10
        have z4 : wa.frozen? ⟨q, 10, none⟩ = false := HDA.out.box.frozen 10
        clear hs1 hf1
        refine hK.out _ _ (trivial) (fun hHeld => ?_)
        clear hK K
        try simp only [Act.put, zT, zZ, zS]
        (refine ztn (v := ?_) (zo rfl) ?_; try simp only [Act.put, zT, zZ, zS])
        refine zr1 8 (zo rfl) (fun K hK => ?_)
        go_simp
        refine hK.out _ _ (trivial) (fun hHeld => ?_)
        clear hK K
        try simp only [Act.put, zT, zZ, zS]
        refine wpAnyH_done (by kernel_rfl) ?_ _
        have HDB := zh (HDA.out.set 10 (.slice A8 (j + 1) c8))
        have HSB : Hid (Sl (wa.setCell ⟨q, 10, none⟩ (.slice A8 (j + 1) c8)) (q + 1) 90 1 (.slice A8 (j + 1) c8) (j + 1) ((acc ++ [fn]).map fv)) := zh (by have h1 := HS1.out.frm ((za (fun k => k = q) wa).setCell (p := ⟨q, 10, none⟩) (fun _ => rfl) (.slice A8 (j + 1) c8)) (fun k' hk' e => by have h1 := (HS1.out.lt _ hk').1; omega); rw [zn]; exact h1)
        have HGB := zh (HGA.out.frm ((za (fun k => k = q) wa).setCell (p := ⟨q, 10, none⟩) (fun _ => rfl) (.slice A8 (j + 1) c8)) (fun k' hk' e => by have h1 := (HGA.out.lt _ hk').1; omega))
        clear y4 z4
        go_wp2_with fail
        go_roundw
        case rel => exact ⟨j + 1, acc ++ [fn], t, .slice A8 (j + 1) c8, by omega, by go_num, HRM.out, HDB.out, HGB.out, HSB.out⟩
        case measure => simp [intOf]; omega
    ·have hlti : ¬ (j : Int) < (x12 : Int) := by omega
     have d1 : decide ((j : Int) < (x12 : Int)) = false := zb hlti
     have HG : Hid (ps = acc ∧ s13 = s) := zh (by have h1 := HAC.out; rw [show j = x12 by omega, H13.out] at h1; injection h1 with h2 h3; exact ⟨h2, h3⟩)
     have HPL : Hid (j = ps.length) := zh (by have h1 := rmany_len rdf j s12; rw [HAC.out] at h1; rw [HG.out.1]; exact h1.symm)
     obtain ⟨rfl, rfl⟩ := HG.out
     clear HG HAC
     obtain ⟨cz, hcz⟩ : ∃ cz : List Value, cz = [.int .i64 (x1 : Int), .string (str x2), .int .i64 (x3 : Int), .int .i64 (x4 : Int), .int .i64 (x5 : Int), .int .i64 (x6 : Int), .float .f64 (FareM.of x7), .string (str x8), .int .i64 (x9 : Int), .slice A6 k c6, .slice A7 j c7] := ⟨_, rfl⟩
     have HCE : Hid (cz = ccel ⟨(x1 : Int), x2, (x3 : Int), (x4 : Int), (x5 : Int), (x6 : Int), FareM.of x7, x8, (x9 : Int), gs, ps⟩ A6 c6 A7 c7) := zh (by rw [hcz]; unfold ccel; dsimp only; rw [← HGL.out, ← HPL.out])
     have HDC' : Hid (DC w g q s13 cz wr) := zh (by rw [hcz]; exact HDC.out)
     have HCI : Hid ((Tryz.prog.info? 95).map (·.size) = some cz.length) := zh (by rw [hcz]; kernel_rfl)
     have HCJ : Hid ((Tryz.prog.info? 95).map (·.size) = some cz.toArray.size) := zh (by rw [hcz]; kernel_rfl)
     have HON : Hid (cz.toArray.all (·.oneCell') = true) := zh (by rw [hcz]; kernel_rfl)
     have HSI : Hid (cz.toArray.size = cz0.toArray.size) := zh (by rw [hcz]; rfl)
     have HWH := zh (dWhole wr g g s13 HDC'.out.d.rdr)
     have hqw : w.heap.size < q := by have := HDC'.out.gq; have := HDC'.out.d.low; omega
     have HP12 := zh (And.intro hp1 hp2)
     clear hcz HDC hp1 hp2
     go_wp2_with fail
     refine HWH.out.mono ?_
     rintro e w8 ⟨rfl, nn, hw8⟩
     have f8 : Fresh wr w8 := by rw [hw8]; exact (za _ wr).drewN nn
     have HD8 := zh (HDC'.out.fresh f8)
     have HG8 := zh (HGS.out.fresh f8)
     have HS8 := zh (HSL.out.fresh f8)
     have HRI : Hid (Calls Tryz.prog 67 #[.agg cz.toArray] w8 fun e w'' => e = .returned (.bool (decide (1 ≤ (x1 : Int)))) ∧ Fresh w8 w'') := zh (by
      rw [HCE.out]
      exact cmdRight_any w8 _ HBS.out A6 c6 A7 c7 ⟨by have h1 := HG8.out.rd; exact h1, by have h1 := HS8.out.rd; exact h1, by have := HP12.out.1; have := HPL.out; show ps.length ≤ c7; omega, HP12.out.2⟩)
     have HCR : Hid (w8.rangeAt q 0 cz) := zh HD8.out.box.range
     obtain ⟨wh, hwh⟩ : ∃ b, b = wholeS s13 := ⟨_, rfl⟩
     rw [← hwh]
     have HWW := zh hwh
     obtain ⟨kb, hkb⟩ : ∃ b, b = decide (1 ≤ (x1 : Int)) := ⟨_, rfl⟩
     have HKB := zh hkb
     rw [← hkb] at HRI
     clear hw8 f8 hwh hkb
     go_wp2_with (with_reducible refine zM rfl 95 (.tmp 5) rfl q 0 rfl cz _ HCR.out Tryz.underlying95 rfl HCI.out ?_)
     refine HRI.out.mono ?_
     rintro e w9 ⟨rfl, f9⟩
     have HD9 := zh (HD8.out.fresh f9)
     have HG9 := zh (HG8.out.fresh f9)
     have HS9 := zh (HS8.out.fresh f9)
     have HCR9 : Hid (w9.rangeAt q 0 cz) := zh HD9.out.box.range
     clear f9 HCR
     have HDEC : Hid (decA bs = if (wh && kb) = true then (⟨(x1 : Int), x2, (x3 : Int), (x4 : Int), (x5 : Int), (x6 : Int), FareM.of x7, x8, (x9 : Int), gs, ps⟩, 0) else (cm0, 6)) := zh (by unfold decA; rw [HDS.out]; dsimp only; rw [HWW.out, HKB.out])
     cases wh with
     | false =>
      rw [Bool.false_and] at HDEC
      rw [zk (by decide)] at HDEC
      obtain ⟨zs, hzs⟩ : ∃ zs : List Value, zs = cz0 := ⟨_, rfl⟩
      have HZS := zh hzs
      have HZJ : Hid ((Tryz.prog.info? 95).map (·.size) = some zs.toArray.size) := zh (by rw [hzs]; kernel_rfl)
      have HZI : Hid ((Tryz.prog.info? 95).map (·.size) = some zs.length) := zh (by rw [hzs]; kernel_rfl)
      have HZO : Hid (zs.toArray.all (·.oneCell') = true) := zh (by rw [hzs]; kernel_rfl)
      have HTH : Hid (w9.there w.heap.size 0 zs.toArray.size) := zh (by rw [hzs]; exact HD9.out.d.res.there rfl)
      clear hzs
      go_wp2_with (refine zd rfl 95 (.tmp 2) (.tmp 92) rfl w.heap.size 0 zs.toArray rfl (by rw [HZS.out]; rfl) HTH.out HZJ.out HZO.out ?_)
      have hra : (w9.setCells w.heap.size 0 zs).rangeAt w.heap.size 0 zs := World.rangeAt_setCells_same w9 w.heap.size 0 zs (by have := HTH.out; simpa using this)
      have hld := run_loadVar_mid (P := Tryz.prog) (w9.setCells w.heap.size 0 zs) w.heap.size 0 95 zs _ hra Tryz.underlying95 rfl HZI.out
      have hfc := jE w.heap.size zs 0 w9
      have HFZ : Fresh w (w9.setCells w.heap.size 0 zs) := HD9.out.d.frm.trans' hfc (fun k hk e => by omega)
      refine zi (v := .tuple #[.agg zs.toArray, .int .i64 6]) ?_ rfl ⟨cm0, 6, none, 0, none, 0, HDEC.out, by rw [HZS.out]; rfl, ⟨Rd.nil _ _ _, Rd.nil _ _ _, zf _, zF _⟩, HFZ⟩
      rw [results_cell_tmp Tryz.results45]
      show (((asAddr (.pointer (some ⟨w.heap.size, 0, none⟩))).run Tryz.prog (w9.setCells w.heap.size 0 zs)).andThen fun a w₁ => ((loadVar 95 a).run Tryz.prog w₁).andThen fun v w₂ => Result.ok (Value.tuple #[v, Value.int .i64 6]) w₂) = _
      simp only [asAddr, Sem.run_pure, Result.andThen_ok, hld]
     | true =>
      cases kb with
      | false =>
       rw [zk (by decide)] at HDEC
       obtain ⟨zs, hzs⟩ : ∃ zs : List Value, zs = cz0 := ⟨_, rfl⟩
       have HZS := zh hzs
       have HZJ : Hid ((Tryz.prog.info? 95).map (·.size) = some zs.toArray.size) := zh (by rw [hzs]; kernel_rfl)
       have HZI : Hid ((Tryz.prog.info? 95).map (·.size) = some zs.length) := zh (by rw [hzs]; kernel_rfl)
       have HZO : Hid (zs.toArray.all (·.oneCell') = true) := zh (by rw [hzs]; kernel_rfl)
       have HTH : Hid (w9.there w.heap.size 0 zs.toArray.size) := zh (by rw [hzs]; exact HD9.out.d.res.there rfl)
       clear hzs
       go_wp2_with (refine zd rfl 95 (.tmp 2) (.tmp 92) rfl w.heap.size 0 zs.toArray rfl (by rw [HZS.out]; rfl) HTH.out HZJ.out HZO.out ?_)
       have hra : (w9.setCells w.heap.size 0 zs).rangeAt w.heap.size 0 zs := World.rangeAt_setCells_same w9 w.heap.size 0 zs (by have := HTH.out; simpa using this)
       have hld := run_loadVar_mid (P := Tryz.prog) (w9.setCells w.heap.size 0 zs) w.heap.size 0 95 zs _ hra Tryz.underlying95 rfl HZI.out
       have hfc := jE w.heap.size zs 0 w9
       have HFZ : Fresh w (w9.setCells w.heap.size 0 zs) := HD9.out.d.frm.trans' hfc (fun k hk e => by omega)
       refine zi (v := .tuple #[.agg zs.toArray, .int .i64 6]) ?_ rfl ⟨cm0, 6, none, 0, none, 0, HDEC.out, by rw [HZS.out]; rfl, ⟨Rd.nil _ _ _, Rd.nil _ _ _, zf _, zF _⟩, HFZ⟩
       rw [results_cell_tmp Tryz.results45]
       show (((asAddr (.pointer (some ⟨w.heap.size, 0, none⟩))).run Tryz.prog (w9.setCells w.heap.size 0 zs)).andThen fun a w₁ => ((loadVar 95 a).run Tryz.prog w₁).andThen fun v w₂ => Result.ok (Value.tuple #[v, Value.int .i64 6]) w₂) = _
       simp only [asAddr, Sem.run_pure, Result.andThen_ok, hld]
      | true =>
       rw [zl (by decide)] at HDEC
       have HTH : Hid (w9.there w.heap.size 0 cz.toArray.size) := zh (HD9.out.d.res.there HSI.out)
       go_wp2_with (first | (with_reducible refine zM rfl 95 (.tmp 5) rfl q 0 rfl cz _ HCR9.out Tryz.underlying95 rfl HCI.out ?_) | (with_reducible refine zd rfl 95 (.tmp 2) (.tmp 93) rfl w.heap.size 0 cz.toArray rfl rfl HTH.out HCJ.out HON.out ?_))
       have hra : (w9.setCells w.heap.size 0 cz).rangeAt w.heap.size 0 cz := World.rangeAt_setCells_same w9 w.heap.size 0 cz (by have := HTH.out; simpa using this)
       have hld := run_loadVar_mid (P := Tryz.prog) (w9.setCells w.heap.size 0 cz) w.heap.size 0 95 cz _ hra Tryz.underlying95 rfl HCI.out
       have hfc := jE w.heap.size cz 0 w9
       have HFZ : Fresh w (w9.setCells w.heap.size 0 cz) := HD9.out.d.frm.trans' hfc (fun k hk e => by omega)
       have hg2 := HG9.out.frm hfc (fun k' hk' e => by have h1 := (HG9.out.lt _ hk').1; omega)
       have hs2 := HS9.out.frm hfc (fun k' hk' e => by have h1 := (HS9.out.lt _ hk').1; omega)
       refine zi (v := .tuple #[.agg cz.toArray, .int .i64 0]) ?_ rfl ⟨_, 0, A6, c6, A7, c7, HDEC.out, by rw [← HCE.out], ⟨hg2.rd, hs2.rd, by have := HP12.out.1; have := HPL.out; show ps.length ≤ c7; omega, HP12.out.2⟩, HFZ⟩
       rw [results_cell_tmp Tryz.results45]
       show (((asAddr (.pointer (some ⟨w.heap.size, 0, none⟩))).run Tryz.prog (w9.setCells w.heap.size 0 cz)).andThen fun a w₁ => ((loadVar 95 a).run Tryz.prog w₁).andThen fun v w₂ => Result.ok (Value.tuple #[v, Value.int .i64 0]) w₂) = _
       simp only [asAddr, Sem.run_pure, Result.andThen_ok, hld]
end
section
open Go.RowKit QueueM
theorem answer19_any (w : World) (a b c : Int) (A : Option Addr) (cap : Nat) (bs : List UInt8) (hA : Rd w w.heap.size A (bs.map bv)) (hl : bs.length ≤ 1000000) (h1 : 0 ≤ a ∧ a ≤ 1099511627776) (h2 : 0 ≤ b ∧ b ≤ 1099511627776) (h3 : 0 ≤ c ∧ c ≤ 1099511627776) :
 Calls Tryz.prog 23 #[.agg #[.int .i64 a, .int .i64 b, .int .i64 c, .slice A bs.length cap]] w fun e w' => OwnB w (numsB [a, b, c] ++ FieldM.text bs) e w' := by
 obtain ⟨i0, hi, hz0, hz1, hz2⟩ := info_parts info_u8
 obtain ⟨W, hW⟩ : ∃ W, w.alloc (.cells #[.int .i64 a, .int .i64 b, .int .i64 c, .slice A bs.length cap] 73) = W := ⟨_, rfl⟩
 have HFW : Hid (Fresh w W) := zh (by rw [← hW]; exact jC _ _)
 have HBX : Hid (Blk W w.heap.size 73 #[.int .i64 a, .int .i64 b, .int .i64 c, .slice A bs.length cap]) := zh (by rw [← hW]; exact Blk.new _ _ _)
 have HCF : Hid (∀ w', Fresh W w' → w'.cell? ⟨w.heap.size, 0, none⟩ = some (.int .i64 a) ∧ w'.cell? ⟨w.heap.size, 1, none⟩ = some (.int .i64 b) ∧ w'.cell? ⟨w.heap.size, 2, none⟩ = some (.int .i64 c) ∧ w'.cell? ⟨w.heap.size, 3, none⟩ = some (.slice A bs.length cap)) := zh fun w' F => by
  have hb := HBX.out.frm F (fun f => f)
  exact ⟨hb.cell 0, hb.cell 1, hb.cell 2, hb.cell 3⟩
 have HFD : Hid (Fresh W W.drew) := zh (za _ _).drew
 have HFA : Hid (Fresh W (W.drew.alloc (.cells #[.int .i64 a, .int .i64 b, .int .i64 c] 3))) := zh ((za _ _).drew.alloc _)
 have HN1 := zh (numbers18_any W (some ⟨0, 0, none⟩) 0 [] (Rd.nil _ _ _) (by simp) (by simp))
 have HNU := zh (numbers19_any (W.drew.alloc (.cells #[.int .i64 a, .int .i64 b, .int .i64 c] 3)) (some ⟨W.drew.heap.size, 0, none⟩) 3 [a, b, c] (by have := jL W.drew [.int .i64 a, .int .i64 b, .int .i64 c] 3; rw [zJ]; exact this) (by simp) (by intro x hx; simp at hx; omega))
 have l1 : (numsB [a, b, c]).length ≤ 30 := qA [a, b, c] (by intro x hx; simp at hx; omega)
 have l2 := text_le bs hl
 have HTX : Hid (∀ w', Fresh w w' → Calls Tryz.prog 44 #[.slice A bs.length cap] w' fun e w'' => ∃ v, e = .returned v ∧ Sl w'' w'.heap.size 5 1 v (FieldM.text bs).length ((FieldM.text bs).map bv) ∧ Fresh w' w'') := zh fun w' F => refText_any A cap bs w' ((hA.fresh (zf _) F).more F.size) (by omega)
 clear hA HN1
 go_in
 go_upto_region 1 with fail
 try rw [hW]
 clear hW
 refine zj (S := (fun w' => w'.cell? ⟨w.heap.size, 0, none⟩ = some (.int .i64 a) ∧ w'.cell? ⟨w.heap.size, 1, none⟩ = some (.int .i64 b) ∧ w'.cell? ⟨w.heap.size, 2, none⟩ = some (.int .i64 c) ∧ w'.cell? ⟨w.heap.size, 3, none⟩ = some (.slice A bs.length cap))) (by kernel_rfl) (HCF.out _ HFD.out) (fun hHeld => ?_)
 iterate 6 ((first | refine ztn (v := ?_) (zo rfl) ?_ | refine ztz (v := ?_) (zo rfl) ?_); try simp only [Act.put, zT, zZ, zS])
 (refine zt 8 (v := ?_) (zo rfl) ?_; try simp only [Act.put, zT, zZ, zS])
 iterate 1 (refine ztn (v := ?_) (zo rfl) ?_; try simp only [Act.put, zT, zZ, zS])
 refine zr1 6 (zo rfl) (fun K hK => ?_)
 go_simp
 refine hK.out _ _ (HCF.out _ HFA.out) (fun hHeld => ?_)
 clear hK K
 try simp only [Act.put, zT, zZ, zS]
 refine zr1 7 (zo rfl) (fun K hK => ?_)
 go_simp
 refine (HNU.out).mono ?_
 rintro e w2 ⟨v2, rfl, hs2, f2⟩
 have HF2 := zh (HFA.out.trans f2)
 have HS2 : Hid (Sl w2 W.heap.size 5 1 v2 (numsB [a, b, c]).length ((numsB [a, b, c]).map bv)) := zh (hs2.less HFA.out.size)
 have HT2 := zh (HTX.out w2 (HFW.out.trans HF2.out))
 clear hs2 f2
 refine hK.out _ _ (HCF.out _ HF2.out) (fun hHeld => ?_)
 clear hK K
 try simp only [Act.put, zT, zZ, zS]
 refine zr1 10 (zo rfl) (fun K hK => ?_)
 go_simp
 refine (HT2.out).mono ?_
 rintro e w4 ⟨v4, rfl, hs4, f4⟩
 have HF4 := zh (HF2.out.trans f4)
 have HS4 := zh (HS2.out.fresh f4)
 obtain ⟨A4, c4, rfl, _⟩ := hs4.shape
 have HR4 := zh hs4.rd
 clear hs4 f4
 refine hK.out _ _ (HCF.out _ HF4.out) (fun hHeld => ?_)
 clear hK K
 try simp only [Act.put, zT, zZ, zS]
 refine zr1 11 (zo rfl) (fun K hK => ?_)
 refine step_app (by rfl) (.tmp 10) (.tmp 13) _ (by rfl) W 5 i0 _ 1 1 Tryz.underlying39 hi hz0 hz1 hz2 rfl Nat.one_pos v2 (numsB [a, b, c]).length _ (by simp [Act.eval, Act.put]) HS4.out _ A4 (FieldM.text bs).length c4 _ (by simp [Act.eval, Act.put]) (by simp) HR4.out (bv_one _) (by omega) (by omega) HF4.out ?_
 intro v5 w5 hs5 hf5
 have HS5 : Hid (Sl w5 W.heap.size 5 1 v5 (numsB [a, b, c] ++ FieldM.text bs).length ((numsB [a, b, c] ++ FieldM.text bs).map bv)) := zh (by rw [zg, zn]; exact hs5)
 have HF5 := zh hf5
 clear hs5 hf5
 refine hK.out _ _ (HCF.out _ HF5.out) (fun hHeld => ?_)
 clear hK K
 try simp only [Act.put, zT, zZ, zS]
 (refine ztn (v := ?_) (zo rfl) ?_; try simp only [Act.put, zT, zZ, zS])
 refine wpAnyH_done (by kernel_rfl) ?_ _
 go_wp2_with fail
 go_ret
 exact ⟨_, rfl, HS5.out.less HFW.out.size, HFW.out.trans HF5.out⟩
end
end Go.Proofs.YtnmokpbomeamfaaGreat

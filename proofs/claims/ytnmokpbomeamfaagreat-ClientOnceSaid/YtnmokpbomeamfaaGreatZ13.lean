/- Proved here, for the statement ClientOnceSaid: laws that its walk leans on. It holds with no condition. (Put together and shortened by a program out of many texts: On54, On55, On56.) -/
import Derived.Test.YtnmokpbomeamfaaGreatZ12
set_option linter.unusedVariables false
set_option maxRecDepth 100000
set_option maxHeartbeats 64000000
namespace Go.Proofs.YtnmokpbomeamfaaGreat
section
open Go.RowKit ReadM
def RNum (w : World) (g : Nat) (v : Value) (t : RS) (e : Ending) (w' : World) : Prop := e = .returned v ∧ RdrAt w' g g t.1 t.2 ∧ Frm (fun k => k = g) w w'
theorem rdNum_any (w : World) (g : Nat) (s : RS) (most : Nat) (hm : most ≤ 1099511627776) (h : RdrAt w g g s.1 s.2) {x : Nat} {t : RS} (hx : rdn most s = (x, t)) :
 Calls Tryz.prog 57 #[.agg #[.pointer (some ⟨g, 0, none⟩)], .int .i64 (most : Int)] w fun e w' => RNum w g (.int .i64 (x : Int)) t e w' := by
 have hxm : x ≤ most := by have := rdn_le most s; rw [hx] at this; exact this
 have hw1 : IntKind.i64.wrap (x : Int) = (x : Int) := zm _ (by omega)
 have hw2 : IntKind.u64.wrap (most : Int) = (most : Int) := IntWalk.u64_in _ (by omega)
 obtain ⟨W, hW⟩ : ∃ W, w.alloc (.cells #[.pointer (some ⟨g, 0, none⟩)] 118) = W := ⟨_, rfl⟩
 have HFW : Hid (Fresh w W) := zh (by rw [← hW]; exact jC _ _)
 have y0 : W.cell? ⟨w.heap.size, 0, none⟩ = some (.pointer (some ⟨g, 0, none⟩)) := by rw [← hW]; exact (Blk.new w _ _).cell 0
 have hgl : g < w.heap.size := by obtain ⟨_, _, hb, _⟩ := h; exact hb.lt
 have HP := zh (pNum W g s most (by omega) (h.frm HFW.out (fun f => f) (fun _ _ f => f)))
 rw [hx] at HP
 clear h
 go_in
 go_upto_region 1 with fail
 try rw [hW]
 clear hW
 go_wp2_with fail
 refine HP.out.mono ?_
 rintro e w2 ⟨rfl, hr, f⟩
 have HR := zh hr
 have HF : Hid (Frm (fun k => k = g) w w2) := zh (HFW.out.frm.trans' f (fun k hk e => e))
 clear hr f
 go_wp2_with fail
 go_ret
 exact ⟨rfl, HR.out, HF.out⟩
theorem rdText_any (w : World) (g : Nat) (s : RS) (hl : s.1.length ≤ 140737488355328) (h : RdrAt w g g s.1 s.2) {x : List UInt8} {t : RS} (hx : rdt 16 s = (x, t)) :
 Calls Tryz.prog 58 #[.agg #[.pointer (some ⟨g, 0, none⟩)], .int .i64 16] w fun e w' => RNum w g (.string (str x)) t e w' := by
 obtain ⟨W, hW⟩ : ∃ W, w.alloc (.cells #[.pointer (some ⟨g, 0, none⟩)] 118) = W := ⟨_, rfl⟩
 have HFW : Hid (Fresh w W) := zh (by rw [← hW]; exact jC _ _)
 have y0 : W.cell? ⟨w.heap.size, 0, none⟩ = some (.pointer (some ⟨g, 0, none⟩)) := by rw [← hW]; exact (Blk.new w _ _).cell 0
 have HP := zh (pText W g s 16 (by omega) hl (h.frm HFW.out (fun f => f) (fun _ _ f => f)))
 rw [hx] at HP
 clear h
 go_in
 go_upto_region 1 with fail
 try rw [hW]
 clear hW
 go_wp2_with fail
 refine HP.out.mono ?_
 rintro e w2 ⟨v, rfl, hs, hr, f⟩
 obtain ⟨A2, c2, rfl, _⟩ := hs.shape
 have hcv := conv_bytes (P := Tryz.prog) (w := w2) 39 9 5 rfl rfl rfl c2 hs.rd (n := x.length) rfl
 have HR := zh hr
 have HF : Hid (Frm (fun k => k = g) w w2) := zh (HFW.out.frm.trans' f (fun k hk e => e))
 clear hs hr f
 go_wp2_with fail
 go_ret
 exact ⟨rfl, HR.out, HF.out⟩
theorem rdFloat_any (w : World) (g : Nat) (s : RS) (h : RdrAt w g g s.1 s.2) {x : Nat} {t : RS} (hx : rdn 18446744073709551615 s = (x, t)) :
 Calls Tryz.prog 59 #[.agg #[.pointer (some ⟨g, 0, none⟩)]] w fun e w' => RNum w g (.float .f64 (FareM.of x)) t e w' := by
 have hxm : x ≤ 18446744073709551615 := by have := rdn_le 18446744073709551615 s; rw [hx] at this; exact this
 obtain ⟨W, hW⟩ : ∃ W, w.alloc (.cells #[.pointer (some ⟨g, 0, none⟩)] 118) = W := ⟨_, rfl⟩
 have HFW : Hid (Fresh w W) := zh (by rw [← hW]; exact jC _ _)
 have y0 : W.cell? ⟨w.heap.size, 0, none⟩ = some (.pointer (some ⟨g, 0, none⟩)) := by rw [← hW]; exact (Blk.new w _ _).cell 0
 have HP := zh (pNum W g s 18446744073709551615 (by omega) (h.frm HFW.out (fun f => f) (fun _ _ f => f)))
 rw [hx] at HP
 have HO := zh (fun w => fareOf_any x (by omega) w)
 obtain ⟨fx, hfx⟩ : ∃ z, z = FareM.of x := ⟨_, rfl⟩
 rw [← hfx] at HO
 have HFX := zh hfx
 clear hfx
 clear h
 go_in
 go_upto_region 1 with fail
 try rw [hW]
 clear hW
 go_wp2_with fail
 refine HP.out.mono ?_
 rintro e w2 ⟨rfl, hr, f⟩
 have HR := zh hr
 have HF : Hid (Frm (fun k => k = g) w w2) := zh (HFW.out.frm.trans' f (fun k hk e => e))
 clear hr f
 go_wp2_with fail
 refine (HO.out _).mono ?_
 rintro e w3 ⟨rfl, hw3⟩
 replace hw3 := hw3.symm
 subst hw3
 go_wp2_with fail
 go_ret
 exact ⟨by rw [← HFX.out]; rfl, HR.out, HF.out⟩
theorem rdOne_any (w : World) (g rb : Nat) (s : RS) (h : RdrAt w g g s.1 s.2) (hb : Blk w rb 118 #[.pointer (some ⟨g, 0, none⟩)]) {x : Nat} {t : RS} (hx : rdn 9999 s = (x, t)) :
 Calls Tryz.prog 56 #[.pointer (some ⟨rb, 0, none⟩)] w fun e w' => RNum w g (.int .i64 (x : Int)) t e w' := by
 have HP := zh (rdNum_any w g s 9999 (by omega) h hx)
 have y0 : w.cell? ⟨rb, 0, none⟩ = some (.pointer (some ⟨g, 0, none⟩)) := hb.cell 0
 clear h hb
 go_in
 go_wp2_with fail
 refine HP.out.mono ?_
 rintro e w2 ⟨rfl, hr, f⟩
 have HR := zh hr
 have HF := zh f
 clear hr f
 go_wp2_with fail
 go_ret
 exact ⟨rfl, HR.out, HF.out⟩
def RMany (w : World) (g : Nat) (T : TypeId) (xs : List Value) (n : Nat) (t : RS) (e : Ending) (w' : World) : Prop := ∃ v, e = .returned v ∧ Sl w' w.heap.size T 1 v n xs ∧ RdrAt w' g g t.1 t.2 ∧ Frm (fun k => k = g) w w'
theorem timesInt_any (w : World) (g rb : Nat) (s0 : RS) (n : Nat) (hn : n ≤ 16) (h : RdrAt w g g s0.1 s0.2) (hb : Blk w rb 118 #[.pointer (some ⟨g, 0, none⟩)]) {l : List Int} {t : RS} (hx : rmany (rdni 9999) n s0 = (l, t)) :
 Calls Tryz.prog 60 #[.int .i64 (n : Int), .func (.func 56) #[] #[.pointer (some ⟨rb, 0, none⟩)]] w fun e w' => RMany w g 3 (ivs l) n t e w' := by
 obtain ⟨i0, hi, hz0, hz1, hz2⟩ := info_parts info_int
 have HX := zh hx
 have HGB : Hid (rb ≠ g ∧ g < w.heap.size) := zh (by obtain ⟨_, _, hb2, _⟩ := h; exact ⟨hb.apart hb2 (by decide), hb2.lt⟩)
 have HB := zh hb
 have HR0 := zh h
 clear h hb hx
 go_in
 go_wp2_with fail
 go_loopw [5, 7] (fun v5 v7 wr => ∃ (k : Nat) (acc : List Int) (s : RS), k ≤ n ∧ v7 = .int .i64 (k : Int) ∧ rmany (rdni 9999) k s0 = (acc, s) ∧ Sl wr w.heap.size 3 1 v5 k (ivs acc) ∧ RdrAt wr g g s.1 s.2 ∧ Frm (fun k => k = g) w wr) (fun _ v7 _ => n - (intOf v7).toNat)
 case atStart => exact ⟨0, [], s0, by omega, rfl, rfl, Sl.nil _ _ _ _, HR0.out, za _ _⟩
 case round =>
  obtain ⟨k, acc, s, hkn, rfl, hac, hsl, hr, hf⟩ := hrel
  have hk0 : (0 : Int) ≤ (k : Int) := by omega
  have HAC := zh hac
  have HF := zh hf
  obtain ⟨A6, c6, rfl, _⟩ := hsl.shape
  have HSL := zh hsl
  have HBR := zh (HB.out.frm hf HGB.out.1)
  have HRR := zh hr
  clear hac hsl hr hf
  by_cases hlt : k < n
  ·have hlti : (k : Int) < (n : Int) := by omega
   have d1 : decide ((k : Int) < (n : Int)) = true := zc hlti
   obtain ⟨⟨x, t2⟩, hn2⟩ : ∃ y, rdn 9999 s = y := ⟨_, rfl⟩
   have HRM : Hid (rmany (rdni 9999) (k + 1) s0 = (acc ++ [(x : Int)], t2)) := zh (by
    show ((rmany (rdni 9999) k s0).1 ++ [(rdni 9999 (rmany (rdni 9999) k s0).2).1], (rdni 9999 (rmany (rdni 9999) k s0).2).2) = _
    rw [HAC.out]
    unfold rdni
    dsimp only
    rw [hn2])
   have HON := zh (rdOne_any wr g rb s HRR.out HBR.out hn2)
   clear hn2
   go_wp2_with fail
   refine HON.out.mono ?_
   rintro e w2 ⟨rfl, hr2, f2⟩
   have HR2 := zh hr2
   have HF2 : Hid (Frm (fun k => k = g) w w2) := zh (HF.out.trans f2)
   have HS2 := zh (HSL.out.frm f2 (fun k' hk' e => by have h1 := (HSL.out.lt _ hk').1; have h2 := HGB.out.2; omega))
   have hsz : w.heap.size ≤ (w2.alloc (.cells #[.int .i64 (x : Int)] 3)).heap.size := by have := HF2.out.size; simp; omega
   clear hr2 f2
   go_wp2_with (at_builtin; refine jD _ rfl (.tmp 9) (.tmp 12) _ rfl w.heap.size 3 i0 _ 1 8 Tryz.underlying26 hi hz0 hz1 hz2 rfl (by omega) _ k _ rfl (HS2.out.alloc _) _ _ 1 1 _ rfl rfl (qE w2 _ _) (fun u hu => by simp at hu; subst hu; rfl) (by unfold maxLen; omega) (by omega) hsz ?_; intro v3 w3 hs3 hf3 _)
   have HF3 : Hid (Frm (fun k => k = g) w w3) := zh ((HF2.out.alloc _).trans' hf3 (fun k' hk' e => by have := ((HS2.out.alloc (.cells #[.int .i64 (x : Int)] 3)).lt _ e).1; omega))
   have HR3 := zh ((HR2.out.frm (jC w2 (.cells #[.int .i64 (x : Int)] 3)) (fun f => f) (fun _ _ f => f)).frm hf3 (fun e => by have := ((HS2.out.alloc (.cells #[.int .i64 (x : Int)] 3)).lt _ e).1; have := HGB.out.2; omega) (fun k' hk' e => by have := ((HS2.out.alloc (.cells #[.int .i64 (x : Int)] 3)).lt _ e).1; have := HGB.out.2; omega))
   have HS3 : Hid (Sl w3 w.heap.size 3 1 v3 (k + 1) (ivs (acc ++ [(x : Int)]))) := zh (by unfold ivs at hs3 ⊢; rw [zn]; exact hs3)
   clear hs3 hf3
   go_roundw
   case rel => exact ⟨k + 1, acc ++ [(x : Int)], t2, by omega, by go_num, HRM.out, HS3.out, HR3.out, HF3.out⟩
   case measure => simp [intOf]; omega
  ·have hlti : ¬ (k : Int) < (n : Int) := by omega
   have d1 : decide ((k : Int) < (n : Int)) = false := zb hlti
   have HE : Hid (l = acc ∧ t = s ∧ n = k) := zh (by have h1 := HAC.out; rw [show k = n by omega, HX.out] at h1; injection h1 with h2 h3; exact ⟨h2, h3, by omega⟩)
   go_wp2_with fail
   go_ret
   obtain ⟨e1, e2, e3⟩ := HE.out
   rw [e1, e2, e3]
   exact ⟨_, rfl, HSL.out, HRR.out, HF.out⟩
theorem timesFloat_any (w : World) (g : Nat) (s0 : RS) (n : Nat) (hn : n ≤ 16) (h : RdrAt w g g s0.1 s0.2) {l : List Nat} {t : RS} (hx : rmany rdf n s0 = (l, t)) :
 Calls Tryz.prog 61 #[.int .i64 (n : Int), .func (.func 59) #[.agg #[.pointer (some ⟨g, 0, none⟩)]] #[]] w fun e w' => RMany w g 90 (l.map fv) n t e w' := by
 obtain ⟨i0, hi, hz0, hz1, hz2⟩ := info_parts info_f64
 have HX := zh hx
 have HGB : Hid (g < w.heap.size) := zh (by obtain ⟨_, _, hb2, _⟩ := h; exact hb2.lt)
 have HR0 := zh h
 clear h hx
 go_in
 go_wp2_with fail
 go_loopw [5, 7] (fun v5 v7 wr => ∃ (k : Nat) (acc : List Nat) (s : RS), k ≤ n ∧ v7 = .int .i64 (k : Int) ∧ rmany rdf k s0 = (acc, s) ∧ Sl wr w.heap.size 90 1 v5 k (acc.map fv) ∧ RdrAt wr g g s.1 s.2 ∧ Frm (fun k => k = g) w wr) (fun _ v7 _ => n - (intOf v7).toNat)
 case atStart => exact ⟨0, [], s0, by omega, rfl, rfl, Sl.nil _ _ _ _, HR0.out, za _ _⟩
 case round =>
  obtain ⟨k, acc, s, hkn, rfl, hac, hsl, hr, hf⟩ := hrel
  have hk0 : (0 : Int) ≤ (k : Int) := by omega
  have HAC := zh hac
  have HF := zh hf
  obtain ⟨A6, c6, rfl, _⟩ := hsl.shape
  have HSL := zh hsl
  have HRR := zh hr
  clear hac hsl hr hf
  by_cases hlt : k < n
  ·have hlti : (k : Int) < (n : Int) := by omega
   have d1 : decide ((k : Int) < (n : Int)) = true := zc hlti
   obtain ⟨⟨x, t2⟩, hn2⟩ : ∃ y, rdn 18446744073709551615 s = y := ⟨_, rfl⟩
   have HRM : Hid (rmany rdf (k + 1) s0 = (acc ++ [FareM.of x], t2)) := zh (by
    show ((rmany rdf k s0).1 ++ [(rdf (rmany rdf k s0).2).1], (rdf (rmany rdf k s0).2).2) = _
    rw [HAC.out]
    unfold rdf
    dsimp only
    rw [hn2])
   have HON := zh (rdFloat_any wr g s HRR.out hn2)
   clear hn2
   generalize FareM.of x = fx at HON HRM
   go_wp2_with fail
   refine HON.out.mono ?_
   rintro e w2 ⟨rfl, hr2, f2⟩
   have HR2 := zh hr2
   have HF2 : Hid (Frm (fun k => k = g) w w2) := zh (HF.out.trans f2)
   have HS2 := zh (HSL.out.frm f2 (fun k' hk' e => by have h1 := (HSL.out.lt _ hk').1; have h2 := HGB.out; omega))
   have hsz : w.heap.size ≤ (w2.alloc (.cells #[.float .f64 fx] 90)).heap.size := by have := HF2.out.size; simp; omega
   clear hr2 f2
   go_wp2_with (at_builtin; refine jD _ rfl (.tmp 9) (.tmp 12) _ rfl w.heap.size 90 i0 _ 1 8 Tryz.underlying93 hi hz0 hz1 hz2 rfl (by omega) _ k _ rfl (HS2.out.alloc _) _ _ 1 1 _ rfl rfl (qE w2 _ _) (fun u hu => by simp at hu; subst hu; rfl) (by unfold maxLen; omega) (by omega) hsz ?_; intro v3 w3 hs3 hf3 _)
   have HF3 : Hid (Frm (fun k => k = g) w w3) := zh ((HF2.out.alloc _).trans' hf3 (fun k' hk' e => by have := ((HS2.out.alloc (.cells #[.float .f64 fx] 90)).lt _ e).1; omega))
   have HR3 := zh ((HR2.out.frm (jC w2 (.cells #[.float .f64 fx] 90)) (fun f => f) (fun _ _ f => f)).frm hf3 (fun e => by have := ((HS2.out.alloc (.cells #[.float .f64 fx] 90)).lt _ e).1; have := HGB.out; omega) (fun k' hk' e => by have := ((HS2.out.alloc (.cells #[.float .f64 fx] 90)).lt _ e).1; have := HGB.out; omega))
   have HS3 : Hid (Sl w3 w.heap.size 90 1 v3 (k + 1) ((acc ++ [fx]).map fv)) := zh (by rw [zn]; exact hs3)
   clear hs3 hf3
   go_roundw
   case rel => exact ⟨k + 1, acc ++ [fx], t2, by omega, by go_num, HRM.out, HS3.out, HR3.out, HF3.out⟩
   case measure => simp [intOf]; omega
  ·have hlti : ¬ (k : Int) < (n : Int) := by omega
   have d1 : decide ((k : Int) < (n : Int)) = false := zb hlti
   have HE : Hid (l = acc ∧ t = s ∧ n = k) := zh (by have h1 := HAC.out; rw [show k = n by omega, HX.out] at h1; injection h1 with h2 h3; exact ⟨h2, h3, by omega⟩)
   go_wp2_with fail
   go_ret
   obtain ⟨e1, e2, e3⟩ := HE.out
   rw [e1, e2, e3]
   exact ⟨_, rfl, HSL.out, HRR.out, HF.out⟩
theorem oddC_any (x : Int) (h : 0 ≤ x ∧ x ≤ 9999) (w : World) : Calls Tryz.prog 79 #[.int .i64 x] w fun e w' => e = .returned (.bool false) ∧ w' = w := by
 have d1 : decide (x < 0) = false := zb (by omega)
 have d2 : decide (9999 < x) = false := zb (by omega)
 go_in
 go_wp2_with fail
 go_ret
 exact ⟨rfl, rfl⟩
theorem pCmdRight_any (w : World) (c : Cm) (hc : CmB c) (GA : Option Addr) (gc : Nat) (PA : Option Addr) (pc : Nat) (hL : CmL w c GA gc PA pc) :
 Calls Tryz.prog 63 #[.agg (ccel c GA gc PA pc).toArray] w fun e w' => e = .returned (.bool (decide (1 ≤ c.kind))) ∧ Fresh w w' := by
 obtain ⟨i0, hi, hz0, hz1, hz2⟩ := info_parts info_int
 obtain ⟨cz, hcz⟩ : ∃ x, x = ccel c GA gc PA pc := ⟨_, rfl⟩
 rw [← hcz]
 obtain ⟨W, hW⟩ : ∃ W, w.alloc (.cells cz.toArray 95) = W := ⟨_, rfl⟩
 have HFW : Hid (Fresh w W) := zh (by rw [← hW]; exact jC _ _)
 have hb : Blk W w.heap.size 95 cz.toArray := by rw [← hW]; exact Blk.new _ _ _
 obtain ⟨kind, pnr, fl, cl, mn, tm, sc, lb, rows, gs, ps⟩ := c
 unfold ccel at hcz
 dsimp only at hcz
 have HFI : Hid (∀ w', Fresh W w' → w'.cell? ⟨w.heap.size, 0, none⟩ = some (.int .i64 kind) ∧ w'.cell? ⟨w.heap.size, 1, none⟩ = some (.string (str pnr)) ∧ w'.cell? ⟨w.heap.size, 2, none⟩ = some (.int .i64 fl) ∧ w'.cell? ⟨w.heap.size, 3, none⟩ = some (.int .i64 cl) ∧ w'.cell? ⟨w.heap.size, 4, none⟩ = some (.int .i64 mn) ∧ w'.cell? ⟨w.heap.size, 5, none⟩ = some (.int .i64 tm) ∧ w'.cell? ⟨w.heap.size, 7, none⟩ = some (.string (str lb)) ∧ w'.cell? ⟨w.heap.size, 8, none⟩ = some (.int .i64 rows) ∧ w'.cell? ⟨w.heap.size, 9, none⟩ = some (.slice GA gs.length gc) ∧ w'.cell? ⟨w.heap.size, 10, none⟩ = some (.slice PA ps.length pc)) := zh fun w' F => by
  have h := hb.frm F (fun f => f)
  rw [hcz] at h
  exact ⟨h.cell 0, h.cell 1, h.cell 2, h.cell 3, h.cell 4, h.cell 5, h.cell 7, h.cell 8, h.cell 9, h.cell 10⟩
 obtain ⟨y0, y1, y2, y3, y4, y5, y7, y8, y9, y10⟩ := HFI.out (W.alloc (.cells #[.int .i64 fl, .int .i64 cl, .int .i64 mn, .int .i64 rows] 3)) (jC _ _)
 obtain ⟨z0, z1, z2, z3, z4, z5, z7, z8, z9, z10⟩ := HFI.out W (za _ _)
 have HG : Hid (∀ w', Fresh w w' → Rd w' w'.heap.size GA (ivs gs)) := zh fun w' F => (hL.fresh F).g
 obtain ⟨⟨b1, b2⟩, b3, ⟨b4, b5⟩, ⟨b6, b7⟩, ⟨b8, b9⟩, ⟨b10, b11⟩, b12, ⟨b13, b14⟩, hsm, hps, _⟩ := hc
 dsimp only at b1 b2 b3 b4 b5 b6 b7 b8 b9 b10 b11 b12 b13 b14 hps
 have hgl : gs.length ≤ 16 := hsm.1
 have HGS : Hid (∀ g ∈ gs, 0 ≤ g ∧ g ≤ 9999) := zh hsm.2
 have HB4 : Hid (∀ x ∈ [fl, cl, mn, rows] ++ gs, 0 ≤ x ∧ x ≤ 9999) := zh (by
  intro x hx
  rcases zy.1 hx with hx | hx
  ·simp at hx; rcases hx with rfl | rfl | rfl | rfl <;> omega
  ·exact HGS.out x hx)
 have HFV : Hid (Fresh W (W.alloc (.cells #[.int .i64 fl, .int .i64 cl, .int .i64 mn, .int .i64 rows] 3))) := zh (jC _ _)
 have HS4 : Hid (Sl (W.alloc (.cells #[.int .i64 fl, .int .i64 cl, .int .i64 mn, .int .i64 rows] 3)) W.heap.size 3 1 (.slice (some ⟨W.heap.size, 0, none⟩) 4 4) 4 [.int .i64 fl, .int .i64 cl, .int .i64 mn, .int .i64 rows]) := zh (by
  have := sl_new W W.heap.size [.int .i64 fl, .int .i64 cl, .int .i64 mn, .int .i64 rows] 3 (zf _) (by unfold maxLen; simp)
  exact this)
 have HRG : Hid (Rd (W.alloc (.cells #[.int .i64 fl, .int .i64 cl, .int .i64 mn, .int .i64 rows] 3)) (W.alloc (.cells #[.int .i64 fl, .int .i64 cl, .int .i64 mn, .int .i64 rows] 3)).heap.size GA (ivs gs)) := zh (HG.out _ (HFW.out.trans HFV.out))
 have e4 : decide ((((str pnr).size : Nat) : Int) ≤ 16) = true := zc (by rw [str_size]; omega)
 have e5 : decide ((((str lb).size : Nat) : Int) ≤ 16) = true := zc (by rw [str_size]; omega)
 have e6 : decide ((gs.length : Int) ≤ 16) = true := zc (by omega)
 have e7 : decide ((ps.length : Int) ≤ 16) = true := zc (by omega)
 have e4' : decide ((str pnr).size ≤ 16) = true := zc (by rw [str_size]; omega)
 have e5' : decide ((str lb).size ≤ 16) = true := zc (by rw [str_size]; omega)
 have e6' : decide (gs.length ≤ 16) = true := zc (by omega)
 have e7' : decide (ps.length ≤ 16) = true := zc (by omega)
 have e1 : decide (kind ≤ 9) = true := zc (by omega)
 have e2 : decide (0 ≤ tm) = true := zc (by omega)
 have e3 : decide (tm ≤ 1099511627776) = true := zc (by omega)
 clear hcz hb hL hsm b3 b4 b5 b6 b7 b8 b9 b12 b13 b14 hps
 go_in
 go_upto_region 2 with fail
 try rw [hW]
 clear hW
 go_wp2_with (at_builtin; refine jD _ rfl (.tmp 17) (.tmp 20) _ rfl W.heap.size 3 i0 _ 1 8 Tryz.underlying26 hi hz0 hz1 hz2 rfl (by omega) _ 4 _ rfl HS4.out _ GA gs.length gc (ivs gs) rfl (by simp [ivs]) HRG.out (iv_one _) (by unfold maxLen; omega) (by omega) HFV.out.size ?_; intro v1 V hs1 hf1 _; have HS1 := zh hs1; have HFA : Hid (Fresh W V) := zh (HFV.out.trans' hf1 (fun k hk e => by have := (HS4.out.lt _ e).1; omega)); obtain ⟨A1, c1, rfl, _⟩ := hs1.shape; clear hs1 hf1 y0 y1 y2 y3 y4 y5 y7 y8 y9 y10 z0 z1 z2 z3 z4 z5 z7 z8 z9 z10)
 obtain ⟨n, hn⟩ : ∃ n, 4 + gs.length = n := ⟨_, rfl⟩
 have HN := zh hn
 have hn20 : n ≤ 20 := by omega
 rw [hn] at HS1
 simp only [hn]
 clear hn
 go_loopw [23] (fun v23 wr => ∃ k : Nat, k ≤ n ∧ v23 = .int .i64 (k : Int) ∧ wr = V) (fun v23 _ => n - (intOf v23).toNat)
 case atStart => exact ⟨0, by omega, rfl, rfl⟩
 case round =>
  obtain ⟨k, hk, rfl, hwr⟩ := hrel
  replace hwr := hwr.symm
  subst hwr
  have hk0 : (0 : Int) ≤ (k : Int) := by omega
  by_cases hlt : k < n
  ·have hlti : (k : Int) < (n : Int) := by omega
   have d1 : decide ((k : Int) < (n : Int)) = true := zc hlti
   have hlt2 : (k : Int) < 4 + (gs.length : Int) := by have := HN.out; omega
   have d2 : decide ((k : Int) < 4 + (gs.length : Int)) = true := zc hlt2
   have hkl : k < ([fl, cl, mn, rows] ++ gs).length := by simp; have := HN.out; omega
   have hS : Rd V V.heap.size A1 (ivs ([fl, cl, mn, rows] ++ gs)) := by have := HS1.out.rd; unfold ivs at this ⊢; rw [zn]; exact this
   obtain ⟨b, o, rfl, _, hx⟩ := hS.at_ (k := k) (by unfold ivs; simpa using hkl)
   unfold ivs at hx
   rw [List.getElem_map] at hx
   have hxx := HB4.out _ (ze hkl)
   generalize ([fl, cl, mn, rows] ++ gs)[k] = x at hx hxx
   have HO := zh (fun w => oddC_any x hxx w)
   clear hS hkl hxx
   go_wp2_with fail
   refine (HO.out _).mono ?_
   rintro e w3 ⟨rfl, hw3⟩
   replace hw3 := hw3.symm
   subst hw3
   go_wp2_with fail
   go_roundw
   case rel => exact ⟨k + 1, by omega, by go_num, by first | rfl | trivial⟩
   case measure => simp [intOf]; omega
  ·have hlti : ¬ (k : Int) < (n : Int) := by omega
   have d1 : decide ((k : Int) < (n : Int)) = false := zb hlti
   have hlt2 : ¬ (k : Int) < 4 + (gs.length : Int) := by have := HN.out; omega
   have d2 : decide ((k : Int) < 4 + (gs.length : Int)) = false := zb hlt2
   obtain ⟨y0, y1, y2, y3, y4, y5, y7, y8, y9, y10⟩ := HFI.out V HFA.out
   by_cases c0 : 1 ≤ kind
   ·have d0 : decide (1 ≤ kind) = true := zc c0
    have HV : Hid (decide (1 ≤ kind) = true) := zh d0
    go_wp2_with fail
    go_ret
    exact ⟨by first | exact ret_b HV.out.symm | rfl, HFW.out.trans HFA.out⟩
   ·have d0 : decide (1 ≤ kind) = false := zb c0
    have HV : Hid (decide (1 ≤ kind) = false) := zh d0
    go_wp2_with fail
    go_ret
    exact ⟨by first | exact ret_b HV.out.symm | rfl, HFW.out.trans HFA.out⟩
theorem wpList_load_want {P : Program} {ops : Array Oper} {rest : List Oper} {op : Oper} {a : Act} {w : World} {Q : Exit → Act → World → Prop} (hw : Region.wanted op (yielded ops a.tmps) = true) (ty : TypeId) (x : Operand) (ho : op.op = .load ty x)
 (b o : Nat) (hx : a.eval x = .pointer (some ⟨b, o, none⟩)) (cs : List Value) (d : TypeDesc) (hc : w.rangeAt b o cs)
 (hu : P.underlying ty = some d) (hd : d.isRow = true) (hi : (P.info? ty).map (·.size) = some cs.length)
 (h : wpList P ops Q rest (a.put op.dst (.agg cs.toArray)) w) : wpList P ops Q (op :: rest) a w :=
 BigFrame.wpList_want hw fun _ hK => wp_load_mid ty x ho b o hx cs d hc hu hd hi (hK _ _ h)
theorem RdrAt.blk {w : World} {B g : Nat} {bs : List UInt8} {bad : Bool} (h : RdrAt w B g bs bad) : ∃ cs, Blk w g 144 cs := by
 obtain ⟨_, _, h, _⟩ := h; exact ⟨_, h⟩
structure P0 (w : World) (g rb : Nat) (s : RS) (wk : World) : Prop where
 rdr : RdrAt wk g g s.1 s.2
 len : s.1.length ≤ 1000000
 low : w.heap.size < g
 grb : g < rb
 rbx : Blk wk rb 118 #[.pointer (some ⟨g, 0, none⟩)]
 res : Blk wk w.heap.size 95 cz0.toArray
 frm : Fresh w wk
theorem P0.fresh {w wk w' : World} {g rb : Nat} {s : RS} (h : P0 w g rb s wk) (F : Fresh wk w') : P0 w g rb s w' :=
 ⟨h.rdr.frm F (fun f => f) (fun _ _ f => f), h.len, h.low, h.grb, h.rbx.frm F (fun f => f), h.res.frm F (fun f => f), h.frm.trans F⟩
theorem P0.far {w wk w' : World} {g rb : Nat} {s : RS} {S : Nat → Prop} (h : P0 w g rb s wk) (F : Frm S wk w') (hS : ∀ k, S k → rb < k) : P0 w g rb s w' := by
 have h1 := h.grb
 have h2 := h.low
 exact ⟨h.rdr.frm F (fun e => by have := hS _ e; omega) (fun k hk e => by have := hS _ e; omega), h.len, h2, h1, h.rbx.frm F (fun e => by have := hS _ e; omega), h.res.frm F (fun e => by have := hS _ e; omega), h.frm.trans' F (fun k hk e => by have := hS _ e; omega)⟩
theorem P0.read {w wk w' : World} {g rb : Nat} {s t : RS} (h : P0 w g rb s wk) (hr : RdrAt w' g g t.1 t.2) (hl : t.1.length ≤ s.1.length) (F : Frm (fun k => k = g) wk w') : P0 w g rb t w' := by
 have h1 := h.grb
 have h2 := h.low
 exact ⟨hr, zp hl h.len, h2, h1, h.rbx.frm F (by omega), h.res.frm F (by omega), h.frm.trans' F (fun k hk e => by omega)⟩
structure P1 (w : World) (g rb q : Nat) (s : RS) (cs : List Value) (wk : World) : Prop where
 d : P0 w g rb s wk
 gq : rb < q
 box : Blk wk q 95 cs.toArray
theorem P1.fresh {w wk w' : World} {g rb q : Nat} {s : RS} {cs : List Value} (h : P1 w g rb q s cs wk) (F : Fresh wk w') : P1 w g rb q s cs w' :=
 ⟨h.d.fresh F, h.gq, h.box.frm F (fun f => f)⟩
theorem P1.read {w wk w' : World} {g rb q : Nat} {s t : RS} {cs : List Value} (h : P1 w g rb q s cs wk) (hr : RdrAt w' g g t.1 t.2) (hl : t.1.length ≤ s.1.length) (F : Frm (fun k => k = g) wk w') : P1 w g rb q t cs w' :=
 ⟨h.d.read hr hl F, h.gq, h.box.frm F (by have := h.gq; have := h.d.grb; omega)⟩
theorem P0.box {w wk : World} {g rb : Nat} {s : RS} (h : P0 w g rb s wk) (cs : List Value) : P1 w g rb wk.heap.size s cs (wk.alloc (.cells cs.toArray 95)) :=
 ⟨h.fresh (jC _ _), h.rbx.lt, Blk.new _ _ _⟩
theorem P1.set {w wk : World} {g rb q : Nat} {s : RS} {cs : List Value} (h : P1 w g rb q s cs wk) (i : Nat) (u : Value) : P1 w g rb q s (cs.set i u) (wk.setCell ⟨q, i, none⟩ u) := by
 have F : Frm (fun k => k = q) wk (wk.setCell ⟨q, i, none⟩ u) := (za (fun k => k = q) wk).setCell (p := ⟨q, i, none⟩) (fun _ => rfl) u
 refine ⟨h.d.far F (fun k e => by have := h.gq; omega), h.gq, ?_⟩
 have hb := h.box.set i u
 rw [List.setIfInBounds_toArray] at hb
 exact hb
theorem P1.all {w wk : World} {g rb q : Nat} {s : RS} {cs : List Value} (h : P1 w g rb q s cs wk) (zs : List Value) (hl : zs.length = cs.length) : P1 w g rb q s zs (wk.setCells q 0 zs) := by
 have F : Frm (fun k => k = q) wk (wk.setCells q 0 zs) := by
  have := jE q zs 0 wk
  have e : (fun k => q = k) = (fun k => k = q) := by funext k; exact propext eq_comm
  rwa [e] at this
 exact ⟨h.d.far F (fun k e => by have := h.gq; omega), h.gq, jG h.box (by simpa using hl)⟩
def PR0 (w : World) (g rb : Nat) (v : Value) (t : RS) (e : Ending) (w' : World) : Prop := e = .returned v ∧ P0 w g rb t w'
def PR1 (w : World) (g rb q : Nat) (cs : List Value) (v : Value) (t : RS) (wk : World) (e : Ending) (w' : World) : Prop := e = .returned v ∧ P1 w g rb q t cs w' ∧ Frm (fun k => k = g) wk w'
theorem rdn_l {most : Nat} {s t : RS} {x : Nat} (hx : rdn most s = (x, t)) : t.1.length ≤ s.1.length := by have := rdn_len most s; rw [hx] at this; exact this
theorem rdt_l {s t : RS} {x : List UInt8} (hx : rdt 16 s = (x, t)) : t.1.length ≤ s.1.length := by have := rdt_len 16 s; rw [hx] at this; exact this
theorem P0.num {w wk : World} {g rb : Nat} {s : RS} (h : P0 w g rb s wk) (most : Nat) (hm : most ≤ 1099511627776) {x : Nat} {t : RS} (hx : rdn most s = (x, t)) :
 Calls Tryz.prog 57 #[.agg #[.pointer (some ⟨g, 0, none⟩)], .int .i64 (most : Int)] wk fun e w' => PR0 w g rb (.int .i64 (x : Int)) t e w' := by
 refine (rdNum_any wk g s most hm h.rdr hx).mono ?_
 rintro e w' ⟨h1, h2, h3⟩
 exact ⟨h1, h.read h2 (rdn_l hx) h3⟩
theorem P0.text {w wk : World} {g rb : Nat} {s : RS} (h : P0 w g rb s wk) {x : List UInt8} {t : RS} (hx : rdt 16 s = (x, t)) :
 Calls Tryz.prog 58 #[.agg #[.pointer (some ⟨g, 0, none⟩)], .int .i64 16] wk fun e w' => PR0 w g rb (.string (str x)) t e w' := by
 refine (rdText_any wk g s (by have := h.len; omega) h.rdr hx).mono ?_
 rintro e w' ⟨h1, h2, h3⟩
 exact ⟨h1, h.read h2 (rdt_l hx) h3⟩
theorem P0.one {w wk : World} {g rb : Nat} {s : RS} (h : P0 w g rb s wk) {x : Nat} {t : RS} (hx : rdn 9999 s = (x, t)) :
 Calls Tryz.prog 56 #[.pointer (some ⟨rb, 0, none⟩)] wk fun e w' => PR0 w g rb (.int .i64 (x : Int)) t e w' := by
 refine (rdOne_any wk g rb s h.rdr h.rbx hx).mono ?_
 rintro e w' ⟨h1, h2, h3⟩
 exact ⟨h1, h.read h2 (rdn_l hx) h3⟩
theorem P1.num {w wk : World} {g rb q : Nat} {s : RS} {cs : List Value} (h : P1 w g rb q s cs wk) (most : Nat) (hm : most ≤ 1099511627776) {x : Nat} {t : RS} (hx : rdn most s = (x, t)) :
 Calls Tryz.prog 57 #[.agg #[.pointer (some ⟨g, 0, none⟩)], .int .i64 (most : Int)] wk fun e w' => PR1 w g rb q cs (.int .i64 (x : Int)) t wk e w' := by
 refine (rdNum_any wk g s most hm h.d.rdr hx).mono ?_
 rintro e w' ⟨h1, h2, h3⟩
 exact ⟨h1, h.read h2 (rdn_l hx) h3, h3⟩
theorem P1.text {w wk : World} {g rb q : Nat} {s : RS} {cs : List Value} (h : P1 w g rb q s cs wk) {x : List UInt8} {t : RS} (hx : rdt 16 s = (x, t)) :
 Calls Tryz.prog 58 #[.agg #[.pointer (some ⟨g, 0, none⟩)], .int .i64 16] wk fun e w' => PR1 w g rb q cs (.string (str x)) t wk e w' := by
 refine (rdText_any wk g s (by have := h.d.len; omega) h.d.rdr hx).mono ?_
 rintro e w' ⟨h1, h2, h3⟩
 exact ⟨h1, h.read h2 (rdt_l hx) h3, h3⟩
theorem P1.one {w wk : World} {g rb q : Nat} {s : RS} {cs : List Value} (h : P1 w g rb q s cs wk) {x : Nat} {t : RS} (hx : rdn 9999 s = (x, t)) :
 Calls Tryz.prog 56 #[.pointer (some ⟨rb, 0, none⟩)] wk fun e w' => PR1 w g rb q cs (.int .i64 (x : Int)) t wk e w' := by
 refine (rdOne_any wk g rb s h.d.rdr h.d.rbx hx).mono ?_
 rintro e w' ⟨h1, h2, h3⟩
 exact ⟨h1, h.read h2 (rdn_l hx) h3, h3⟩
theorem P1.float {w wk : World} {g rb q : Nat} {s : RS} {cs : List Value} (h : P1 w g rb q s cs wk) {x : Nat} {t : RS} (hx : rdn 18446744073709551615 s = (x, t)) :
 Calls Tryz.prog 59 #[.agg #[.pointer (some ⟨g, 0, none⟩)]] wk fun e w' => PR1 w g rb q cs (.float .f64 (FareM.of x)) t wk e w' := by
 refine (rdFloat_any wk g s h.d.rdr hx).mono ?_
 rintro e w' ⟨h1, h2, h3⟩
 exact ⟨h1, h.read h2 (rdn_l hx) h3, h3⟩
theorem rmany_l {α : Type} (f : RS → α × RS) (hf : ∀ s, (f s).2.1.length ≤ s.1.length) : ∀ (n : Nat) (s : RS), (rmany f n s).2.1.length ≤ s.1.length
 | 0, s => zf _
 | n + 1, s => zp (hf _) (rmany_l f hf n s)
def PM1 (w : World) (g rb q : Nat) (cs : List Value) (T : TypeId) (xs : List Value) (n : Nat) (t : RS) (wk : World) (e : Ending) (w' : World) : Prop := ∃ v, e = .returned v ∧ Sl w' (q + 1) T 1 v n xs ∧ P1 w g rb q t cs w' ∧ Frm (fun k => k = g) wk w'
theorem P1.ints {w wk : World} {g rb q : Nat} {s : RS} {cs : List Value} (h : P1 w g rb q s cs wk) (n : Nat) (hn : n ≤ 16) {l : List Int} {t : RS} (hx : rmany (rdni 9999) n s = (l, t)) :
 Calls Tryz.prog 60 #[.int .i64 (n : Int), .func (.func 56) #[] #[.pointer (some ⟨rb, 0, none⟩)]] wk fun e w' => PM1 w g rb q cs 3 (ivs l) n t wk e w' := by
 refine (timesInt_any wk g rb s n hn h.d.rdr h.d.rbx hx).mono ?_
 rintro e w' ⟨v, h1, h2, h3, h4⟩
 have hl := rmany_l (rdni 9999) (fun s => rdn_len 9999 s) n s
 rw [hx] at hl
 exact ⟨v, h1, h2.less h.box.lt, h.read h3 hl h4, h4⟩
theorem P1.floats {w wk : World} {g rb q : Nat} {s : RS} {cs : List Value} (h : P1 w g rb q s cs wk) (n : Nat) (hn : n ≤ 16) {l : List Nat} {t : RS} (hx : rmany rdf n s = (l, t)) :
 Calls Tryz.prog 61 #[.int .i64 (n : Int), .func (.func 59) #[.agg #[.pointer (some ⟨g, 0, none⟩)]] #[]] wk fun e w' => PM1 w g rb q cs 90 (l.map fv) n t wk e w' := by
 refine (timesFloat_any wk g s n hn h.d.rdr hx).mono ?_
 rintro e w' ⟨v, h1, h2, h3, h4⟩
 have hl := rmany_l rdf (fun s => rdn_len 18446744073709551615 s) n s
 rw [hx] at hl
 exact ⟨v, h1, h2.less h.box.lt, h.read h3 hl h4, h4⟩
end
end Go.Proofs.YtnmokpbomeamfaaGreat

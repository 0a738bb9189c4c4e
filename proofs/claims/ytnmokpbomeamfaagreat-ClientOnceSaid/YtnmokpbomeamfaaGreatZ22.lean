/- Proved here, for the statement ClientOnceSaid: laws that its walk leans on. It holds with no condition. (Put together and shortened by a program out of many texts: On50, On51, On52.) -/
import Derived.Test.YtnmokpbomeamfaaGreatZ21
set_option linter.unusedVariables false
set_option maxRecDepth 100000
set_option maxHeartbeats 64000000
namespace Go.Proofs.YtnmokpbomeamfaaGreat
section
open Go.RowKit QueueM
theorem Tab1.setLast {w : World} {B t b : Nat} {M : BkM} {g o lc : Nat} {last : Int} {RA : Option Addr} {rc : Nat} {rep : List UInt8} (h : Tab1 w B t b M g o lc last RA rc rep) (v : Int) :
 Tab1 (w.setCell ⟨g, o + 2, none⟩ (.int .i64 v)) B t b M g o lc v RA rc rep ∧ FT tabT B w (w.setCell ⟨g, o + 2, none⟩ (.int .i64 v)) ∧ Frm (fun k => k = g) w (w.setCell ⟨g, o + 2, none⟩ (.int .i64 v)) := by
 have FS : Frm (fun k => k = g) w (w.setCell ⟨g, o + 2, none⟩ (.int .i64 v)) := (za (fun k => k = g) w).setCell (p := ⟨g, o + 2, none⟩) (fun _ => rfl) _
 obtain ⟨cs, hb, hg⟩ := h.sl.has (k := g) rfl
 have hst := h.sl.store (j := 2) (by simp) (.int .i64 v)
 exact ⟨⟨h.blk.frm FS (h.blk.apart hb (by decide)), h.tge, hst, h.rep.frm FS (fun k hk e => by subst e; exact h.rep.apart hb (by decide) hk), h.book.other FS (fun k e _ => by subst e; exact ⟨_, _, hb, by decide⟩)⟩,
  FT.of_frm FS (fun k _ e => by subst e; exact ⟨hg, _, _, hb, by decide⟩), FS⟩
theorem Tab1.setRep {w : World} {B t b : Nat} {M : BkM} {g o lc : Nat} {last : Int} {RA RA' : Option Addr} {rc rc' : Nat} {rep rep' : List UInt8} (h : Tab1 w B t b M g o lc last RA rc rep) (hr : Sl w 0 5 1 (.slice RA' rep'.length rc') rep'.length (rep'.map bv)) :
 Tab1 (w.setCell ⟨g, o + 3, none⟩ (.slice RA' rep'.length rc')) B t b M g o lc last RA' rc' rep' ∧ FT tabT B w (w.setCell ⟨g, o + 3, none⟩ (.slice RA' rep'.length rc')) ∧ Frm (fun k => k = g) w (w.setCell ⟨g, o + 3, none⟩ (.slice RA' rep'.length rc')) := by
 have FS : Frm (fun k => k = g) w (w.setCell ⟨g, o + 3, none⟩ (.slice RA' rep'.length rc')) := (za (fun k => k = g) w).setCell (p := ⟨g, o + 3, none⟩) (fun _ => rfl) _
 obtain ⟨cs, hb, hg⟩ := h.sl.has (k := g) rfl
 have hst := h.sl.store (j := 3) (by simp) (.slice RA' rep'.length rc')
 exact ⟨⟨h.blk.frm FS (h.blk.apart hb (by decide)), h.tge, hst, hr.frm FS (fun k hk e => by subst e; exact hr.apart hb (by decide) hk), h.book.other FS (fun k e _ => by subst e; exact ⟨_, _, hb, by decide⟩)⟩,
  FT.of_frm FS (fun k _ e => by subst e; exact ⟨hg, _, _, hb, by decide⟩), FS⟩
theorem tab_of_book {t : TypeId} (h : bookT t = true) : tabT t = true := by unfold tabT; rw [h]; rfl
noncomputable def doneA (x : Book) (cmd : List UInt8) : Book × Rep := if (decA cmd).2 = 0 then applyR x (decA cmd).1 else (x, repC 6)
theorem decA_code (cmd : List UInt8) : (decA cmd).2 = 0 ∨ (decA cmd).2 = 6 := by unfold decA; split <;> simp
theorem BookOk.doneA {n : Nat} {x : Book} (h : BookOk n x) (cmd : List UInt8) : BookOk (n + 1) (doneA x cmd).1 := by
 unfold Go.Proofs.YtnmokpbomeamfaaGreat.doneA
 split
 ·rename_i h0
  exact h.applyR (decA_ok h0).1
 ·exact h.more (Nat.le_succ n)
theorem repB_done {n : Nat} {x : Book} (h : BookOk n x) (hn : n < 100) (cmd : List UInt8) : RepB (doneA x cmd).2 := by
 unfold Go.Proofs.YtnmokpbomeamfaaGreat.doneA
 split
 ·rename_i h0
  exact repB_apply h hn (decA_ok h0).1
 ·exact jI (by omega)
structure DM (w Y : World) (B t b : Nat) (M : BkM) (g o lc : Nat) (last : Int) (RA : Option Addr) (rc : Nat) (rep : List UInt8) (rz : List Value) (p : Nat) (zr : List Value) (r : Rep) : Prop where
 rq : Blk Y w.heap.size 67 rz.toArray
 td : Blk Y (w.heap.size + 1) 73 #[.int .i64 0, .int .i64 0, .int .i64 0, .slice none 0 0]
 pw : w.heap.size + 2 ≤ p
 rp : Blk Y p 106 zr.toArray
 rpz : RepZ Y 0 zr r
 tab : Tab1 Y B t b M g o lc last RA rc rep
 ft : FT tabT B w Y
theorem DM.fresh {w Y Y' : World} {B t b : Nat} {M : BkM} {g o lc : Nat} {last : Int} {RA : Option Addr} {rc : Nat} {rep : List UInt8} {rz : List Value} {p : Nat} {zr : List Value} {r : Rep} (h : DM w Y B t b M g o lc last RA rc rep rz p zr r) (F : Fresh Y Y') : DM w Y' B t b M g o lc last RA rc rep rz p zr r :=
 ⟨h.rq.frm F (fun f => f), h.td.frm F (fun f => f), h.pw, h.rp.frm F (fun f => f), h.rpz.fresh F, h.tab.fresh F, h.ft.trans (FT.of_fresh F)⟩
theorem DM.step {w Y Y' : World} {B t b : Nat} {M M' : BkM} {g o lc : Nat} {last last' : Int} {RA RA' : Option Addr} {rc rc' : Nat} {rep rep' : List UInt8} {rz : List Value} {p : Nat} {zr : List Value} {r : Rep} (h : DM w Y B t b M g o lc last RA rc rep rz p zr r) (F : FT tabT B Y Y') (ht : Tab1 Y' B t b M' g o lc last' RA' rc' rep') : DM w Y' B t b M' g o lc last' RA' rc' rep' rz p zr r :=
 ⟨F.blk h.rq (by decide), F.blk h.td (by decide), h.pw, F.blk h.rp (by decide), h.rpz.frm F (fun k cs hk hs => by obtain ⟨_, t', cs', h2, h3⟩ := hs; exact hk.apart h2 (fun e => by subst e; exact absurd h3 (by decide)) rfl) (fun k cs hk hs => by obtain ⟨_, t', cs', h2, h3⟩ := hs; exact hk.apart h2 (fun e => by subst e; exact absurd h3 (by decide)) rfl), ht, h.ft.trans F⟩
theorem DM.store {w Y : World} {B t b : Nat} {M : BkM} {g o lc : Nat} {last : Int} {RA : Option Addr} {rc : Nat} {rep : List UInt8} {rz : List Value} {p : Nat} {zr zr' : List Value} {r r' : Rep} (h : DM w Y B t b M g o lc last RA rc rep rz p zr r) (hz : RepZ Y 0 zr' r') : DM w (Y.setCells p 0 zr') B t b M g o lc last RA rc rep rz p zr' r' := by
 obtain ⟨h1, h2, h3⟩ := hz.lay h.rp (by simp [h.rpz.len])
 exact ⟨h.rq.frm h3 (h.rq.apart h.rp (by decide)), h.td.frm h3 (h.td.apart h.rp (by decide)), h.pw, h1, h2, h.tab.other h3 (fun k e _ => by subst e; exact ⟨_, _, h.rp, by decide⟩), Frm.trans' h.ft h3 (fun k hk e => by have := h.pw; omega)⟩
theorem do_next (w : World) (B t b : Nat) (M : BkM) (g o lc : Nat) (last : Int) (RA : Option Addr) (rc : Nat) (rep : List UInt8) (h : Tab1 w B t b M g o lc last RA rc rep) (hB : B ≤ w.heap.size) (n : Nat) (hk : BookOk n M.abs) (hn : n < 100) (hl0 : 0 ≤ last) (hl1 : last ≤ 1000000) (sq : Int) (hsq : sq = last + 1) (cmd : List UInt8) (A : Option Addr) (c : Nat) (hA : Rd w w.heap.size A (cmd.map bv)) (hcc : cmd.length ≤ c) (hcm : c ≤ maxLen) (hc4 : cmd.length ≤ 4000) :
 Calls Tryz.prog 50 #[.pointer (some ⟨t, 0, none⟩), .int .i64 0, .agg (rcel ⟨2, 1, sq, 0, cmd⟩ A c).toArray] w fun e w' => qF w B t (some (sq, qK (doneA M.abs cmd).2)) (doneA M.abs cmd).1 ⟨0, 1, sq, qK (doneA M.abs cmd).2⟩ e w' := by
 have d0 : (sq == last) = false := by rw [zC]; omega
 have d1 : decide (sq ≤ last) = false := zb (by omega)
 have d2 : IntKind.i64.wrap (last + 1) = sq := by rw [hsq]; exact zm _ (by omega)
 clear hsq
 obtain ⟨rz, hrz⟩ : ∃ z, z = rcel ⟨2, 1, sq, 0, cmd⟩ A c := ⟨_, rfl⟩
 rw [← hrz]
 obtain ⟨W, hW⟩ : ∃ W, (w.alloc (.cells rz.toArray 67)).alloc (.cells #[.int .i64 0, .int .i64 0, .int .i64 0, .slice none 0 0] 73) = W := ⟨_, rfl⟩
 have HFW : Hid (Fresh w W) := zh (by rw [← hW]; exact (jC _ _).trans (jC _ _))
 have HRQ : Hid (Blk W w.heap.size 67 rz.toArray) := zh (by rw [← hW]; exact (Blk.new _ _ _).alloc _)
 have HTD : Hid (Blk W (w.heap.size + 1) 73 #[.int .i64 0, .int .i64 0, .int .i64 0, .slice none 0 0]) := zh (by rw [← hW]; have := Blk.new (w.alloc (.cells rz.toArray 67)) 73 #[.int .i64 0, .int .i64 0, .int .i64 0, .slice none 0 0]; rw [zJ] at this; exact this)
 have HT : Hid (Tab1 W B t b M g o lc last RA rc rep) := zh (h.fresh HFW.out)
 have y1 : W.cell? ⟨t, 1, none⟩ = some (.slice (some ⟨g, o, none⟩) 1 lc) := HT.out.blk.cell 1
 obtain ⟨sz, hsz⟩ : ∃ z : List Value, z = [.int .i64 1, .int .i64 3, .int .i64 last, .slice RA rep.length rc] := ⟨_, rfl⟩
 have HSR : Hid (W.rangeAt g o sz) := zh (by rw [hsz]; intro j v hv; have hj : j < ([.int .i64 1, .int .i64 3, .int .i64 last, .slice RA rep.length rc] : List Value).length := (List.getElem?_eq_some_iff.1 hv).1; rw [HT.out.sl.cell hj, ← hv]; exact (zH hj).symm)
 have HSI : Hid ((Tryz.prog.info? 140).map (·.size) = some sz.length) := zh (by rw [hsz]; kernel_rfl)
 have HSJ : Hid ((Tryz.prog.info? 140).map (·.size) = some sz.toArray.size) := zh (by rw [hsz]; kernel_rfl)
 have HSO : Hid (sz.toArray.all (·.oneCell') = true) := zh (by rw [hsz]; kernel_rfl)
 obtain ⟨U, hU⟩ : ∃ U, W.alloc (.cells #[.int .i64 0, .int .i64 0, .int .i64 0, .slice none 0 0] 140) = U := ⟨_, rfl⟩
 have HBU : Hid (Blk U W.heap.size 140 #[.int .i64 0, .int .i64 0, .int .i64 0, .slice none 0 0]) := zh (by rw [← hU]; exact Blk.new _ _ _)
 have HTHU : Hid (U.there W.heap.size 0 sz.toArray.size) := zh (by rw [hsz]; exact HBU.out.there rfl)
 obtain ⟨V, hV⟩ : ∃ V, U.setCells W.heap.size 0 sz = V := ⟨_, rfl⟩
 have HFV : Hid (Fresh W V) := zh (by rw [← hV, ← hU]; exact (jC _ _).trans' (jE W.heap.size sz 0 _) (fun k hk e => by omega))
 have HSV : Hid (Blk V W.heap.size 140 sz.toArray) := zh (by rw [← hV]; exact jG HBU.out (by rw [hsz]; rfl))
 have HTV := zh (HT.out.fresh HFV.out)
 have HRV := zh (HRQ.out.frm HFV.out (fun f => f))
 have HDV := zh (HTD.out.frm HFV.out (fun f => f))
 have HFX := zh (HFW.out.trans HFV.out)
 have hqw : w.heap.size + 2 = W.heap.size := by rw [← hW]; simp
 have v1 : V.cell? ⟨w.heap.size, 1, none⟩ = some (.int .i64 1) := by rw [HRV.out.cell 1, hrz]; rfl
 have v2 : V.cell? ⟨w.heap.size, 2, none⟩ = some (.int .i64 sq) := by rw [HRV.out.cell 2, hrz]; rfl
 have v4 : V.cell? ⟨w.heap.size, 4, none⟩ = some (.slice A cmd.length c) := by rw [HRV.out.cell 4, hrz]; rfl
 have u2 : V.cell? ⟨W.heap.size, 2, none⟩ = some (.int .i64 last) := by rw [HSV.out.cell 2, hsz]; rfl
 have u3 : V.cell? ⟨W.heap.size, 3, none⟩ = some (.slice RA rep.length rc) := by rw [HSV.out.cell 3, hsz]; rfl
 have HRC : Hid (∀ Y, Blk Y w.heap.size 67 rz.toArray → Y.cell? ⟨w.heap.size, 1, none⟩ = some (.int .i64 1) ∧ Y.cell? ⟨w.heap.size, 2, none⟩ = some (.int .i64 sq) ∧ Y.cell? ⟨w.heap.size, 4, none⟩ = some (.slice A cmd.length c)) := zh fun Y hb => by rw [hrz] at hb; exact ⟨hb.cell 1, hb.cell 2, hb.cell 4⟩
 clear h hrz hsz
 go_in
 go_upto_region 1 with fail
 try rw [hW]
 clear hW
 go_upto_region 2 with (first | (refine zM rfl 140 (.tmp 16) rfl g o rfl sz _ HSR.out Tryz.underlying140 rfl HSI.out ?_) | (refine zd rfl 140 (.tmp 7) (.tmp 17) rfl W.heap.size 0 sz.toArray rfl rfl HTHU.out HSJ.out HSO.out ?_) | (rw [hU]; refine zd rfl 140 (.tmp 7) (.tmp 17) rfl W.heap.size 0 sz.toArray rfl rfl HTHU.out HSJ.out HSO.out ?_))
 try rw [hV]
 clear hV hU y1 HSR HSI HSJ HSO HBU HTHU
 go_upto_region 8 with fail
 have HPW : Hid (w.heap.size + 2 ≤ V.heap.size) := zh (by have := HFV.out.size; omega)
 obtain ⟨zr, hzr⟩ : ∃ z : List Value, z = [.int .i64 6, .string ⟨#[]⟩, .int .i64 0, .int .i64 0, .int .i64 0, .int .i64 0, .int .i64 0, .slice none 0 0, .slice none 0 0] := ⟨_, rfl⟩
 obtain ⟨U8, hU8⟩ : ∃ U, V.alloc (.cells #[.int .i64 0, .string ⟨#[]⟩, .int .i64 0, .int .i64 0, .int .i64 0, .int .i64 0, .int .i64 0, .slice none 0 0, .slice none 0 0] 106) = U := ⟨_, rfl⟩
 have HB8 : Hid (Blk U8 V.heap.size 106 #[.int .i64 0, .string ⟨#[]⟩, .int .i64 0, .int .i64 0, .int .i64 0, .int .i64 0, .int .i64 0, .slice none 0 0, .slice none 0 0]) := zh (by rw [← hU8]; exact Blk.new _ _ _)
 have HFU : Hid (Fresh V U8) := zh (by rw [← hU8]; exact jC _ _)
 have HZ8 : Hid (RepZ U8 0 zr (repC 6)) := zh (by rw [hzr]; exact jX _ _ _)
 have HTH8 := zh (jZ HB8.out rfl HZ8.out)
 have HZJ := zh HZ8.out.info
 have HZO := zh HZ8.out.one
 have HZS := zh hzr
 clear hzr
 obtain ⟨X8, hX8⟩ : ∃ X, U8.setCells V.heap.size 0 zr = X := ⟨_, rfl⟩
 have HDM : Hid (DM w X8 B t b M g o lc last RA rc rep rz V.heap.size zr (repC 6)) := zh (by
  obtain ⟨k1, k2, k3⟩ := HZ8.out.lay HB8.out rfl
  rw [hX8] at k1 k2 k3
  have F8 : Fresh V X8 := HFU.out.trans' k3 (fun k hk e => by omega)
  exact ⟨HRV.out.frm F8 (fun f => f), HDV.out.frm F8 (fun f => f), HPW.out, k1, k2, HTV.out.fresh F8, FT.of_fresh (HFX.out.trans F8)⟩)
 have HF8 : Hid (Fresh w X8) := zh (by
  rw [← hX8]
  exact (HFX.out.trans HFU.out).trans' (jE V.heap.size zr 0 U8) (fun k hk e => by have := HPW.out; omega))
 go_upto_region 9 with (first | (refine zd rfl 106 (.tmp 8) (.tmp 51) rfl V.heap.size 0 zr.toArray rfl (by rw [HZS.out]; rfl) HTH8.out HZJ.out HZO.out ?_) | (rw [hU8]; refine zd rfl 106 (.tmp 8) (.tmp 51) rfl V.heap.size 0 zr.toArray rfl (by rw [HZS.out]; rfl) HTH8.out HZJ.out HZO.out ?_))
 try rw [hX8]
 clear hX8 hU8 v1 v2 v4 u2 u3 HTH8 HZJ HZO HB8 HFU HZ8
 generalize V.heap.size = p at HPW HDM
 have HCC : Hid (∀ Y, Blk Y w.heap.size 67 rz.toArray → Y.cell? ⟨w.heap.size, 1, none⟩ = some (.int .i64 1) ∧ Y.cell? ⟨w.heap.size, 2, none⟩ = some (.int .i64 sq) ∧ Y.cell? ⟨w.heap.size, 4, none⟩ = some (.slice A cmd.length c)) := HRC
 have r4 := (HCC.out X8 HDM.out.rq).2.2
 have HDE := zh (refDecode18_any X8 A c cmd ((hA.fresh (zf _) HF8.out).more HF8.out.size) (by omega) hcc hcm)
 clear hA
 go_wp2_with fail
 refine HDE.out.mono ?_
 rintro e X9 ⟨cm, code, GA, gc, PA, pc, hde, rfl, hcl, f9⟩
 have HDM9 := zh (HDM.out.fresh f9)
 have HF9 := zh f9
 have HCL := zh hcl
 have HDEC := zh hde
 obtain ⟨cz, hcz⟩ : ∃ x, x = ccel cm GA gc PA pc := ⟨_, rfl⟩
 have HCZ := zh hcz
 rw [← hcz]
 obtain ⟨Ua, hUa⟩ : ∃ U, X9.alloc (.cells #[.int .i64 0, .string ⟨#[]⟩, .int .i64 0, .int .i64 0, .int .i64 0, .int .i64 0, .float .f64 0, .string ⟨#[]⟩, .int .i64 0, .slice none 0 0, .slice none 0 0] 95) = U := ⟨_, rfl⟩
 have HBa : Hid (Blk Ua X9.heap.size 95 #[.int .i64 0, .string ⟨#[]⟩, .int .i64 0, .int .i64 0, .int .i64 0, .int .i64 0, .float .f64 0, .string ⟨#[]⟩, .int .i64 0, .slice none 0 0, .slice none 0 0]) := zh (by rw [← hUa]; exact Blk.new _ _ _)
 have HCI : Hid ((Tryz.prog.info? 95).map (·.size) = some cz.length) := zh (by rw [hcz]; kernel_rfl)
 have HCJ : Hid ((Tryz.prog.info? 95).map (·.size) = some cz.toArray.size) := zh (by rw [hcz]; kernel_rfl)
 have HCO : Hid (cz.toArray.all (·.oneCell') = true) := zh (by rw [hcz]; kernel_rfl)
 have HTHa : Hid (Ua.there X9.heap.size 0 cz.toArray.size) := zh (by rw [hcz]; exact HBa.out.there rfl)
 obtain ⟨Y, hY⟩ : ∃ Y, Ua.setCells X9.heap.size 0 cz = Y := ⟨_, rfl⟩
 have HFY : Hid (Fresh X9 Y) := zh (by rw [← hY, ← hUa]; exact (jC _ _).trans' (jE X9.heap.size cz 0 _) (fun k hk e => by omega))
 have HBY : Hid (Blk Y X9.heap.size 95 cz.toArray) := zh (by rw [← hY]; exact jG HBa.out (by rw [hcz]; rfl))
 have HDY := zh (HDM9.out.fresh HFY.out)
 have HCY := zh (HCL.out.fresh HFY.out)
 clear hcl f9 hde hcz r4 HDE HCL
 go_upto_region 10 with (first | (refine zd rfl 95 (.tmp 9) (.tmp 56) rfl X9.heap.size 0 cz.toArray rfl rfl HTHa.out HCJ.out HCO.out ?_) | (rw [hUa]; refine zd rfl 95 (.tmp 9) (.tmp 56) rfl X9.heap.size 0 cz.toArray rfl rfl HTHa.out HCJ.out HCO.out ?_))
 try rw [hY]
 clear hY hUa HTHa HCJ HCO HBa
 generalize X9.heap.size = q at HBY
 have HBN : Hid (B ≤ Y.heap.size) := zh (by have h1 := HF8.out.size; have h2 := HF9.out.size; have h3 := HFY.out.size; omega)
 have hcode : code = 0 ∨ code = 6 := by have := decA_code cmd; rw [HDEC.out] at this; exact this
 rcases hcode with rfl | rfl
 ·obtain ⟨HCB, HK1⟩ := decA_ok (bs := cmd) (by rw [HDEC.out])
  rw [HDEC.out] at HCB HK1
  have HCB := zh HCB
  have HVA : Hid (doneA M.abs cmd = applyR M.abs cm) := zh (by unfold doneA; rw [HDEC.out]; exact zl rfl)
  have HRB : Hid (RepB (applyR M.abs cm).2) := zh (repB_apply hk hn HCB.out)
  have HAP : Hid (Calls Tryz.prog 73 #[.pointer (some ⟨b, 0, none⟩), .agg cz.toArray] Y.drew fun e w' => jN Y.drew B b (applyR M.abs cm) e w') := zh (by rw [HCZ.out]; exact apply18_any Y.drew B b M n cm GA gc PA pc (HDY.out.fresh (za _ Y).drew).tab.book HBN.out hk hn HCB.out (HCY.out.fresh (za _ Y).drew))
  have HS1 : Hid (∀ w', Blk w' t 63 #[.int .i64 2, .slice (some ⟨g, o, none⟩) 1 lc, .pointer (some ⟨b, 0, none⟩)] → Blk w' q 95 cz.toArray → w'.cell? ⟨t, 2, none⟩ = some (.pointer (some ⟨b, 0, none⟩)) ∧ Blk w' q 95 cz.toArray) := zh fun w' h1 h2 => ⟨h1.cell 2, h2⟩
  generalize applyR M.abs cm = ar at HVA HRB HAP
  clear HCZ HCY HK1
  go_upto_region 11 with fail
  refine zj (S := (fun w' => w'.cell? ⟨t, 2, none⟩ = some (.pointer (some ⟨b, 0, none⟩)) ∧ Blk w' q 95 cz.toArray)) (by kernel_rfl) (HS1.out _ HDY.out.tab.blk HBY.out) (fun hHeld => ?_)
  iterate 4 ((first | refine ztn (v := ?_) (zo rfl) ?_ | refine ztz (v := ?_) (zo rfl) ?_); try simp only [Act.put, zT, zZ, zS])
  refine wpAnyH_take (i := 4) (v := .agg cz.toArray) (zo rfl) (by kernel_rfl) (by kernel_rfl) (by kernel_rfl) (fun _ _ _ h => h) (yieldsIf_load_mid (by rfl) 95 (.tmp 9) (by rfl) q 0 (by simp [Act.eval, Act.put]) cz _ (fun w' hS => hS.2.range) Tryz.underlying95 rfl HCI.out) (by assumption) ?_
  try simp only [Act.put, zT, zZ, zS]
  refine zr1 5 (zo rfl) (fun K hK => ?_)
  go_simp
  refine (HAP.out).mono ?_
  rintro e X11 ⟨v11, rfl, hv11, M2, hM2, hb11, f11⟩
  obtain ⟨zv, rfl, hzv⟩ := hv11.z
  have HM2 := zh hM2
  have HDb : Hid (DM w X11 B t b M2 g o lc last RA rc rep rz p zr (repC 6)) := zh ((HDY.out.fresh (za _ Y).drew).step (f11.more (fun t ht => tab_of_book ht)) ((HDY.out.fresh (za _ Y).drew).tab.book' f11 hb11))
  have HZV := zh (hzv.less (zF _))
  have HBb := zh (f11.blk (show Blk Y.drew q 95 cz.toArray from HBY.out) (by decide))
  have HTH := zh (jZ HDb.out.rp (by simp [HDb.out.rpz.len]) HZV.out)
  have HZJ := zh HZV.out.info
  have HZO := zh HZV.out.one
  have HDc := zh (HDb.out.store HZV.out)
  have HBc : Hid (Blk (X11.setCells p 0 zv) q 95 cz.toArray) := zh (HBb.out.frm (jE p zv 0 X11) (fun e => by have := HBb.out.apart HDb.out.rp (by decide); exact this e.symm))
  clear hv11 hM2 hb11 f11 hzv
  refine hK.out _ _ (HS1.out _ HDb.out.tab.blk HBb.out) (fun hHeld => ?_)
  clear hK K
  try simp only [Act.put, zT, zZ, zS]
  refine zr1 6 (zo rfl) (fun K hK => ?_)
  rw [zl (by rfl)]
  refine wp_store_mid 106 (.tmp 8) (.tmp 65) rfl p 0 zv.toArray (by simp [Act.eval, Act.put]) (by simp [Act.eval, Act.put]) HTH.out HZJ.out HZO.out ?_
  refine hK.out _ _ (HS1.out _ HDc.out.tab.blk HBc.out) (fun hHeld => ?_)
  clear hK K
  try simp only [Act.put, zT, zZ, zS]
  refine wpAnyH_done (by kernel_rfl) ?_ _
  obtain ⟨Yt, hYt⟩ : ∃ Z, Z = X11.setCells p 0 zv := ⟨_, rfl⟩
  rw [← hYt] at HDc ⊢
  clear hYt
  have a1 : Yt.cell? ⟨t, 1, none⟩ = some (.slice (some ⟨g, o, none⟩) 1 lc) := HDc.out.tab.blk.cell 1
  have a2 := (HCC.out Yt HDc.out.rq).2.1
  have a3 : Yt.cell? ⟨g, o + 2, none⟩ = some (.int .i64 last) := HDc.out.tab.sl.cell (j := 2) (by simp)
  have a4 : Yt.frozen? ⟨g, o + 2, none⟩ = false := HDc.out.tab.sl.frozen (o + 2)
  obtain ⟨Z1, hZ1⟩ : ∃ Z, Yt.drew.setCell ⟨g, o + 2, none⟩ (.int .i64 sq) = Z := ⟨_, rfl⟩
  have HE1 : Hid (DM w Z1 B t b M2 g o lc sq RA rc rep rz p zv (ar.2)) := zh (by obtain ⟨k1, k2, _⟩ := (HDc.out.fresh (za _ _).drew).tab.setLast sq; rw [hZ1] at k1 k2; exact (HDc.out.fresh (za _ _).drew).step k2 k1)
  go_upto_region 13 with (first | go_region | fail)
  try rw [hZ1]
  clear hZ1 a1 a2 a3 a4
  have HZI : Hid ((Tryz.prog.info? 106).map (·.size) = some zv.length) := zh (by have := HE1.out.rpz.info; simpa using this)
  have HAN := zh (answer18_any Z1.drew 0 (.agg zv.toArray) (ar.2) ((HE1.out.fresh (za _ _).drew).rpz.v) HRB.out)
  have HS0 : Hid (∀ w', Fresh Z1 w' → w'.cell? ⟨t, 1, none⟩ = some (.slice (some ⟨g, o, none⟩) 1 lc) ∧ Blk w' p 106 zv.toArray) := zh fun w' F => ⟨(HE1.out.fresh F).tab.blk.cell 1, (HE1.out.fresh F).rp⟩
  refine zj (S := (fun w' => w'.cell? ⟨t, 1, none⟩ = some (.slice (some ⟨g, o, none⟩) 1 lc) ∧ Blk w' p 106 zv.toArray)) (by kernel_rfl) (HS0.out _ (za _ _).drew) (fun hHeld => ?_)
  iterate 5 ((first | refine ztn (v := ?_) (zo rfl) ?_ | refine ztz (v := ?_) (zo rfl) ?_); try simp only [Act.put, zT, zZ, zS])
  refine wpAnyH_take (i := 5) (v := .agg zv.toArray) (zo rfl) (by kernel_rfl) (by kernel_rfl) (by kernel_rfl) (fun _ _ _ h => h) (yieldsIf_load_mid (by rfl) 106 (.tmp 8) (by rfl) p 0 (by simp [Act.eval, Act.put]) zv _ (fun w' hS => hS.2.range) Tryz.underlying106 rfl HZI.out) (by assumption) ?_
  try simp only [Act.put, zT, zZ, zS]
  refine zr1 6 (zo rfl) (fun K hK => ?_)
  go_simp
  refine (HAN.out).mono ?_
  rintro e Z2 ⟨v2, rfl, hs2, f2⟩
  obtain ⟨NA, nc, rfl, _⟩ := hs2.shape
  have HN2 := zh (hs2.less (zF _))
  have HF2 : Hid (Fresh Z1 Z2) := zh ((za _ Z1).drew.trans f2)
  have HE2 := zh (HE1.out.fresh HF2.out)
  have b3 : Z2.cell? ⟨g, o + 3, none⟩ = some (.slice RA rep.length rc) := HE2.out.tab.sl.cell (j := 3) (by simp)
  have b4 : Z2.frozen? ⟨g, o + 3, none⟩ = false := HE2.out.tab.sl.frozen (o + 3)
  obtain ⟨Z3, hZ3⟩ : ∃ Z, Z2.setCell ⟨g, o + 3, none⟩ (.slice NA (qK (ar.2)).length nc) = Z := ⟨_, rfl⟩
  have HE3 : Hid (DM w Z3 B t b M2 g o lc sq NA nc (qK (ar.2)) rz p zv (ar.2)) := zh (by obtain ⟨k1, k2, _⟩ := HE2.out.tab.setRep HN2.out; rw [hZ3] at k1 k2; exact HE2.out.step k2 k1)
  clear hs2 f2
  refine hK.out _ _ (HS0.out _ HF2.out) (fun hHeld => ?_)
  clear hK K
  try simp only [Act.put, zT, zZ, zS]
  iterate 2 (refine ztn (v := ?_) (zo rfl) ?_; try simp only [Act.put, zT, zZ, zS])
  refine zr1 9 (zo rfl) (fun K hK => ?_)
  go_simp
  try rw [hZ3]
  refine hK.out _ _ (⟨HE3.out.tab.blk.cell 1, HE3.out.rp⟩) (fun hHeld => ?_)
  clear hK K
  try simp only [Act.put, zT, zZ, zS]
  refine wpAnyH_done (by kernel_rfl) ?_ _
  try rw [hZ3]
  clear hZ3 b3 b4
  go_upto_region 14 with fail
  have HS4 : Hid (∀ w', DM w w' B t b M2 g o lc sq NA nc (qK (ar.2)) rz p zv (ar.2) → w'.cell? ⟨w.heap.size, 1, none⟩ = some (.int .i64 1) ∧ w'.cell? ⟨w.heap.size, 2, none⟩ = some (.int .i64 sq) ∧ w'.cell? ⟨t, 1, none⟩ = some (.slice (some ⟨g, o, none⟩) 1 lc) ∧ w'.cell? ⟨g, o + 3, none⟩ = some (.slice NA (qK (ar.2)).length nc)) := zh fun w' hd => ⟨(HCC.out w' hd.rq).1, (HCC.out w' hd.rq).2.1, hd.tab.blk.cell 1, hd.tab.sl.cell (j := 3) (by simp)⟩
  have HE4 := zh (HE3.out.fresh (za _ Z3).drew)
  obtain ⟨zs, hzs⟩ : ∃ zs : List Value, zs = [.int .i64 0, .int .i64 1, .int .i64 sq, .slice NA (qK (ar.2)).length nc] := ⟨_, rfl⟩
  have HZ : Hid (TdZ Z3.drew zs ⟨0, 1, sq, qK (ar.2)⟩) := zh (by rw [hzs]; exact ⟨NA, nc, rfl, HE4.out.tab.rep⟩)
  have HZS2 := zh hzs
  have HTH := zh (HZ.out.there HE4.out.td rfl)
  have HZJ := zh HZ.out.info
  have HZO := zh HZ.out.one
  clear hzs
  obtain ⟨E1, E2⟩ := td_end (w := w) HE4.out.td rfl (by omega) HZ.out (show TabS Z3.drew B t (some (sq, qK (ar.2))) (M2).abs from ⟨b, M2, g, o, lc, NA, nc, HE4.out.tab, rfl⟩) HE4.out.ft
  have HEE := zh E1
  have HEF := zh E2
  have HSZ : Hid ((Z3.drew.setCells (w.heap.size + 1) 0 zs).cell? ⟨w.heap.size, 1, none⟩ = some (.int .i64 1) ∧ (Z3.drew.setCells (w.heap.size + 1) 0 zs).cell? ⟨w.heap.size, 2, none⟩ = some (.int .i64 sq) ∧ (Z3.drew.setCells (w.heap.size + 1) 0 zs).cell? ⟨t, 1, none⟩ = some (.slice (some ⟨g, o, none⟩) 1 lc) ∧ (Z3.drew.setCells (w.heap.size + 1) 0 zs).cell? ⟨g, o + 3, none⟩ = some (.slice NA (qK (ar.2)).length nc)) := zh (by have FS := jE (w.heap.size + 1) zs 0 Z3.drew; have k1 := HE4.out.rq.frm FS (fun e => by have := HE4.out.rq.apart HE4.out.td (by decide); exact this e.symm); have k2 := HE4.out.tab.other FS (fun k e _ => by subst e; exact ⟨_, _, HE4.out.td, by decide⟩); exact ⟨(HCC.out _ k1).1, (HCC.out _ k1).2.1, k2.blk.cell 1, k2.sl.cell (j := 3) (by simp)⟩)
  clear E1 E2
  refine zj (S := (fun w' => w'.cell? ⟨w.heap.size, 1, none⟩ = some (.int .i64 1) ∧ w'.cell? ⟨w.heap.size, 2, none⟩ = some (.int .i64 sq) ∧ w'.cell? ⟨t, 1, none⟩ = some (.slice (some ⟨g, o, none⟩) 1 lc) ∧ w'.cell? ⟨g, o + 3, none⟩ = some (.slice NA (qK (ar.2)).length nc))) (by kernel_rfl) (HS4.out _ HE4.out) (fun hHeld => ?_)
  iterate 13 ((first | refine ztn (v := ?_) (zo rfl) ?_ | refine ztz (v := ?_) (zo rfl) ?_); try simp only [Act.put, zT, zZ, zS])
  refine zr1 13 (zo rfl) (fun K hK => ?_)
  rw [zl (by rfl)]
  refine wp_store_mid 73 (.tmp 6) (.tmp 96) rfl (w.heap.size + 1) 0 zs.toArray (by simp [Act.eval, Act.put]) (by rw [HZS2.out]; simp [Act.eval, Act.put]) HTH.out HZJ.out HZO.out ?_
  refine hK.out _ _ (HSZ.out) (fun hHeld => ?_)
  clear hK K
  try simp only [Act.put, zT, zZ, zS]
  refine wpAnyH_done (by kernel_rfl) ?_ _
  go_wp2_with fail
  exact zi (v := .agg zs.toArray) (td_res Tryz.results50 rfl HEE.out HZ.out) rfl (by rw [HVA.out, ← HM2.out]; exact HEF.out)
 ·have HVA : Hid (doneA M.abs cmd = (M.abs, repC 6)) := zh (by unfold doneA; rw [HDEC.out]; exact zk (show ¬ ((6 : Int) = 0) by decide))
  have HRB : Hid (RepB (repC 6)) := zh (jI (by omega))
  go_upto_region 12 with fail
  obtain ⟨Yt, hYt⟩ : ∃ Z, Z = Y := ⟨_, rfl⟩
  rw [← hYt] at HDY ⊢
  clear hYt
  have a1 : Yt.cell? ⟨t, 1, none⟩ = some (.slice (some ⟨g, o, none⟩) 1 lc) := HDY.out.tab.blk.cell 1
  have a2 := (HCC.out Yt HDY.out.rq).2.1
  have a3 : Yt.cell? ⟨g, o + 2, none⟩ = some (.int .i64 last) := HDY.out.tab.sl.cell (j := 2) (by simp)
  have a4 : Yt.frozen? ⟨g, o + 2, none⟩ = false := HDY.out.tab.sl.frozen (o + 2)
  obtain ⟨Z1, hZ1⟩ : ∃ Z, Yt.drew.setCell ⟨g, o + 2, none⟩ (.int .i64 sq) = Z := ⟨_, rfl⟩
  have HE1 : Hid (DM w Z1 B t b M g o lc sq RA rc rep rz p zr (repC 6)) := zh (by obtain ⟨k1, k2, _⟩ := (HDY.out.fresh (za _ _).drew).tab.setLast sq; rw [hZ1] at k1 k2; exact (HDY.out.fresh (za _ _).drew).step k2 k1)
  go_upto_region 13 with (first | go_region | fail)
  try rw [hZ1]
  clear hZ1 a1 a2 a3 a4
  have HZI : Hid ((Tryz.prog.info? 106).map (·.size) = some zr.length) := zh (by have := HE1.out.rpz.info; simpa using this)
  have HAN := zh (answer18_any Z1.drew 0 (.agg zr.toArray) (repC 6) ((HE1.out.fresh (za _ _).drew).rpz.v) HRB.out)
  have HS0 : Hid (∀ w', Fresh Z1 w' → w'.cell? ⟨t, 1, none⟩ = some (.slice (some ⟨g, o, none⟩) 1 lc) ∧ Blk w' p 106 zr.toArray) := zh fun w' F => ⟨(HE1.out.fresh F).tab.blk.cell 1, (HE1.out.fresh F).rp⟩
  refine zj (S := (fun w' => w'.cell? ⟨t, 1, none⟩ = some (.slice (some ⟨g, o, none⟩) 1 lc) ∧ Blk w' p 106 zr.toArray)) (by kernel_rfl) (HS0.out _ (za _ _).drew) (fun hHeld => ?_)
  iterate 5 ((first | refine ztn (v := ?_) (zo rfl) ?_ | refine ztz (v := ?_) (zo rfl) ?_); try simp only [Act.put, zT, zZ, zS])
  refine wpAnyH_take (i := 5) (v := .agg zr.toArray) (zo rfl) (by kernel_rfl) (by kernel_rfl) (by kernel_rfl) (fun _ _ _ h => h) (yieldsIf_load_mid (by rfl) 106 (.tmp 8) (by rfl) p 0 (by simp [Act.eval, Act.put]) zr _ (fun w' hS => hS.2.range) Tryz.underlying106 rfl HZI.out) (by assumption) ?_
  try simp only [Act.put, zT, zZ, zS]
  refine zr1 6 (zo rfl) (fun K hK => ?_)
  go_simp
  refine (HAN.out).mono ?_
  rintro e Z2 ⟨v2, rfl, hs2, f2⟩
  obtain ⟨NA, nc, rfl, _⟩ := hs2.shape
  have HN2 := zh (hs2.less (zF _))
  have HF2 : Hid (Fresh Z1 Z2) := zh ((za _ Z1).drew.trans f2)
  have HE2 := zh (HE1.out.fresh HF2.out)
  have b3 : Z2.cell? ⟨g, o + 3, none⟩ = some (.slice RA rep.length rc) := HE2.out.tab.sl.cell (j := 3) (by simp)
  have b4 : Z2.frozen? ⟨g, o + 3, none⟩ = false := HE2.out.tab.sl.frozen (o + 3)
  obtain ⟨Z3, hZ3⟩ : ∃ Z, Z2.setCell ⟨g, o + 3, none⟩ (.slice NA (qK (repC 6)).length nc) = Z := ⟨_, rfl⟩
  have HE3 : Hid (DM w Z3 B t b M g o lc sq NA nc (qK (repC 6)) rz p zr (repC 6)) := zh (by obtain ⟨k1, k2, _⟩ := HE2.out.tab.setRep HN2.out; rw [hZ3] at k1 k2; exact HE2.out.step k2 k1)
  clear hs2 f2
  refine hK.out _ _ (HS0.out _ HF2.out) (fun hHeld => ?_)
  clear hK K
  try simp only [Act.put, zT, zZ, zS]
  iterate 2 (refine ztn (v := ?_) (zo rfl) ?_; try simp only [Act.put, zT, zZ, zS])
  refine zr1 9 (zo rfl) (fun K hK => ?_)
  go_simp
  try rw [hZ3]
  refine hK.out _ _ (⟨HE3.out.tab.blk.cell 1, HE3.out.rp⟩) (fun hHeld => ?_)
  clear hK K
  try simp only [Act.put, zT, zZ, zS]
  refine wpAnyH_done (by kernel_rfl) ?_ _
  try rw [hZ3]
  clear hZ3 b3 b4
  go_upto_region 14 with fail
  have HS4 : Hid (∀ w', DM w w' B t b M g o lc sq NA nc (qK (repC 6)) rz p zr (repC 6) → w'.cell? ⟨w.heap.size, 1, none⟩ = some (.int .i64 1) ∧ w'.cell? ⟨w.heap.size, 2, none⟩ = some (.int .i64 sq) ∧ w'.cell? ⟨t, 1, none⟩ = some (.slice (some ⟨g, o, none⟩) 1 lc) ∧ w'.cell? ⟨g, o + 3, none⟩ = some (.slice NA (qK (repC 6)).length nc)) := zh fun w' hd => ⟨(HCC.out w' hd.rq).1, (HCC.out w' hd.rq).2.1, hd.tab.blk.cell 1, hd.tab.sl.cell (j := 3) (by simp)⟩
  have HE4 := zh (HE3.out.fresh (za _ Z3).drew)
  obtain ⟨zs, hzs⟩ : ∃ zs : List Value, zs = [.int .i64 0, .int .i64 1, .int .i64 sq, .slice NA (qK (repC 6)).length nc] := ⟨_, rfl⟩
  have HZ : Hid (TdZ Z3.drew zs ⟨0, 1, sq, qK (repC 6)⟩) := zh (by rw [hzs]; exact ⟨NA, nc, rfl, HE4.out.tab.rep⟩)
  have HZS2 := zh hzs
  have HTH := zh (HZ.out.there HE4.out.td rfl)
  have HZJ := zh HZ.out.info
  have HZO := zh HZ.out.one
  clear hzs
  obtain ⟨E1, E2⟩ := td_end (w := w) HE4.out.td rfl (by omega) HZ.out (show TabS Z3.drew B t (some (sq, qK (repC 6))) (M).abs from ⟨b, M, g, o, lc, NA, nc, HE4.out.tab, rfl⟩) HE4.out.ft
  have HEE := zh E1
  have HEF := zh E2
  have HSZ : Hid ((Z3.drew.setCells (w.heap.size + 1) 0 zs).cell? ⟨w.heap.size, 1, none⟩ = some (.int .i64 1) ∧ (Z3.drew.setCells (w.heap.size + 1) 0 zs).cell? ⟨w.heap.size, 2, none⟩ = some (.int .i64 sq) ∧ (Z3.drew.setCells (w.heap.size + 1) 0 zs).cell? ⟨t, 1, none⟩ = some (.slice (some ⟨g, o, none⟩) 1 lc) ∧ (Z3.drew.setCells (w.heap.size + 1) 0 zs).cell? ⟨g, o + 3, none⟩ = some (.slice NA (qK (repC 6)).length nc)) := zh (by have FS := jE (w.heap.size + 1) zs 0 Z3.drew; have k1 := HE4.out.rq.frm FS (fun e => by have := HE4.out.rq.apart HE4.out.td (by decide); exact this e.symm); have k2 := HE4.out.tab.other FS (fun k e _ => by subst e; exact ⟨_, _, HE4.out.td, by decide⟩); exact ⟨(HCC.out _ k1).1, (HCC.out _ k1).2.1, k2.blk.cell 1, k2.sl.cell (j := 3) (by simp)⟩)
  clear E1 E2
  refine zj (S := (fun w' => w'.cell? ⟨w.heap.size, 1, none⟩ = some (.int .i64 1) ∧ w'.cell? ⟨w.heap.size, 2, none⟩ = some (.int .i64 sq) ∧ w'.cell? ⟨t, 1, none⟩ = some (.slice (some ⟨g, o, none⟩) 1 lc) ∧ w'.cell? ⟨g, o + 3, none⟩ = some (.slice NA (qK (repC 6)).length nc))) (by kernel_rfl) (HS4.out _ HE4.out) (fun hHeld => ?_)
  iterate 13 ((first | refine ztn (v := ?_) (zo rfl) ?_ | refine ztz (v := ?_) (zo rfl) ?_); try simp only [Act.put, zT, zZ, zS])
  refine zr1 13 (zo rfl) (fun K hK => ?_)
  rw [zl (by rfl)]
  refine wp_store_mid 73 (.tmp 6) (.tmp 96) rfl (w.heap.size + 1) 0 zs.toArray (by simp [Act.eval, Act.put]) (by rw [HZS2.out]; simp [Act.eval, Act.put]) HTH.out HZJ.out HZO.out ?_
  refine hK.out _ _ (HSZ.out) (fun hHeld => ?_)
  clear hK K
  try simp only [Act.put, zT, zZ, zS]
  refine wpAnyH_done (by kernel_rfl) ?_ _
  go_wp2_with fail
  exact zi (v := .agg zs.toArray) (td_res Tryz.results50 rfl HEE.out HZ.out) rfl (by rw [HVA.out]; exact HEF.out)
theorem begin_any (w : World) (B t : Nat) (st : Option (Int × List UInt8)) (x : Book) (h : TabS w B t st x) (hB : B ≤ w.heap.size) (A : Option Addr) (c : Nat) :
 Calls Tryz.prog 48 #[.pointer (some ⟨t, 0, none⟩), .agg (rcel ⟨1, 0, 0, 3, []⟩ A c).toArray] w fun e w' => qF w B t (some (st.getD (0, []))) x ⟨0, 1, 0, []⟩ e w' := by
 cases st with
 | none =>
  obtain ⟨b, M, h1, rfl⟩ := h
  exact begin_new w B t b M h1 hB A c
 | some s =>
  obtain ⟨b, M, g, o, lc, RA, rc, h1, rfl⟩ := h
  exact begin_old w B t b M g o lc s.1 RA rc s.2 h1 hB A c
noncomputable def doS (s : Int × List UInt8) (x : Book) (sq : Int) (cmd : List UInt8) : (Int × List UInt8) × Book × Td :=
 if sq = s.1 then (s, x, ⟨0, 1, s.1, s.2⟩) else if sq < s.1 then (s, x, ⟨11, 0, 0, []⟩) else ((sq, qK (doneA x cmd).2), (doneA x cmd).1, ⟨0, 1, sq, qK (doneA x cmd).2⟩)
theorem do_any (w : World) (B t : Nat) (s : Int × List UInt8) (x : Book) (h : TabS w B t (some s) x) (hB : B ≤ w.heap.size) (n : Nat) (hk : BookOk n x) (hl0 : 0 ≤ s.1) (hl1 : s.1 ≤ 1000000) (sq : Int) (h1 : 1 ≤ sq) (h2 : sq ≤ s.1 + 1) (hn : sq = s.1 + 1 → n < 100) (cmd : List UInt8) (A : Option Addr) (c : Nat) (hA : Rd w w.heap.size A (cmd.map bv)) (hcc : cmd.length ≤ c) (hcm : c ≤ maxLen) (hc4 : cmd.length ≤ 4000) :
 Calls Tryz.prog 50 #[.pointer (some ⟨t, 0, none⟩), .int .i64 0, .agg (rcel ⟨2, 1, sq, 0, cmd⟩ A c).toArray] w fun e w' => qF w B t (some (doS s x sq cmd).1) (doS s x sq cmd).2.1 (doS s x sq cmd).2.2 e w' := by
 obtain ⟨b, M, g, o, lc, RA, rc, ht, rfl⟩ := h
 unfold doS
 split
 ·rename_i e
  subst e
  exact do_same w B t b M g o lc s.1 RA rc s.2 ht hB (by omega) cmd A c
 ·rename_i e
  split
  ·rename_i e2
   exact do_old w B t b M g o lc s.1 RA rc s.2 ht hB (by omega) sq (by omega) e2 cmd A c
  ·rename_i e2
   exact do_next w B t b M g o lc s.1 RA rc s.2 ht hB n hk (hn (by omega)) hl0 hl1 sq (by omega) cmd A c hA hcc hcm hc4
theorem apply_begin (w : World) (B t : Nat) (x : Book) (hB : B ≤ w.heap.size) (A : Option Addr) (c : Nat) (bs : List UInt8) (hA : Rd w w.heap.size A (bs.map bv)) (hl : bs.length ≤ 1000000) (hc : bs.length ≤ c) (hm : c ≤ maxLen) (st : Option (Int × List UInt8)) (h : TabS w B t st x) (hr : reqA bs = (⟨1, 0, 0, 3, []⟩, 0)) :
 Calls Tryz.prog 25 #[.pointer (some ⟨t, 0, none⟩), .slice A bs.length c] w fun e w' => qF w B t (some (st.getD (0, []))) x ⟨0, 1, 0, []⟩ e w' := by
 obtain ⟨W0, hW0⟩ : ∃ W, w.alloc (.cells #[.int .i64 0, .int .i64 0, .int .i64 0, .slice none 0 0] 73) = W := ⟨_, rfl⟩
 have HF0 : Hid (Fresh w W0) := zh (by rw [← hW0]; exact jC _ _)
 have HTD : Hid (Blk W0 w.heap.size 73 #[.int .i64 0, .int .i64 0, .int .i64 0, .slice none 0 0]) := zh (by rw [← hW0]; exact Blk.new _ _ _)
 have HDE := zh (refDecode19_any W0 A c bs ((hA.fresh (zf _) HF0.out).more HF0.out.size) hl hc hm)
 have HT := zh h
 clear hA h
 go_in
 go_upto_region 1 with fail
 try rw [hW0]
 clear hW0
 go_wp2_with fail
 refine HDE.out.mono ?_
 rintro e W1 ⟨r, code, A1, c1, hrq, rfl, hsc, f1⟩
 rw [hr] at hrq
 obtain ⟨rfl, rfl⟩ : (⟨1, 0, 0, 3, []⟩ : Rq) = r ∧ 0 = code := ⟨congrArg Prod.fst hrq, congrArg Prod.snd hrq⟩
 obtain ⟨cz, hcz⟩ : ∃ z, z = rcel (⟨1, 0, 0, 3, []⟩ : Rq) A1 c1 := ⟨_, rfl⟩
 have HCZ := zh hcz
 rw [← hcz]
 obtain ⟨U, hU⟩ : ∃ U, W1.alloc (.cells #[.int .i64 0, .int .i64 0, .int .i64 0, .int .i64 0, .slice none 0 0] 67) = U := ⟨_, rfl⟩
 have HBU : Hid (Blk U W1.heap.size 67 #[.int .i64 0, .int .i64 0, .int .i64 0, .int .i64 0, .slice none 0 0]) := zh (by rw [← hU]; exact Blk.new _ _ _)
 have HCI : Hid ((Tryz.prog.info? 67).map (·.size) = some cz.length) := zh (by rw [hcz]; kernel_rfl)
 have HCJ : Hid ((Tryz.prog.info? 67).map (·.size) = some cz.toArray.size) := zh (by rw [hcz]; kernel_rfl)
 have HCO : Hid (cz.toArray.all (·.oneCell') = true) := zh (by rw [hcz]; kernel_rfl)
 have HTU : Hid (U.there W1.heap.size 0 cz.toArray.size) := zh (by rw [hcz]; exact HBU.out.there rfl)
 obtain ⟨V, hV⟩ : ∃ V, U.setCells W1.heap.size 0 cz = V := ⟨_, rfl⟩
 have HF1 : Hid (Fresh W0 W1) := zh f1
 have HFV : Hid (Fresh W1 V) := zh (by rw [← hV, ← hU]; exact (jC _ _).trans' (jE W1.heap.size cz 0 _) (fun k hk e => by omega))
 have HBV : Hid (Blk V W1.heap.size 67 cz.toArray) := zh (by rw [← hV]; exact jG HBU.out (by rw [hcz]; rfl))
 have HDV := zh ((HTD.out.frm HF1.out (fun f => f)).frm HFV.out (fun f => f))
 have HFX := zh ((HF0.out.trans HF1.out).trans HFV.out)
 have HTV := zh (HT.out.fresh HFX.out)
 have HSC := zh (hsc.fresh HFV.out)
 have HBN : Hid (B ≤ V.heap.size) := zh (zp hB HFX.out.size)
 have HCC : Hid (∀ Y, Blk Y W1.heap.size 67 cz.toArray → Y.cell? ⟨W1.heap.size, 0, none⟩ = some (.int .i64 1)) := zh fun Y hb => by rw [hcz] at hb; exact hb.cell 0
 clear hcz hsc f1 hrq hr
 go_upto_region 2 with (first | (refine zd rfl 67 (.tmp 5) (.tmp 11) rfl W1.heap.size 0 cz.toArray rfl rfl HTU.out HCJ.out HCO.out ?_) | (rw [hU]; refine zd rfl 67 (.tmp 5) (.tmp 11) rfl W1.heap.size 0 cz.toArray rfl rfl HTU.out HCJ.out HCO.out ?_))
 try rw [hV]
 clear hV hU HTU HBU HCJ HCO
 generalize W1.heap.size = q at HBV HCC
 have HCR : Hid (V.rangeAt q 0 cz) := zh HBV.out.range
 have y0 := HCC.out V HBV.out
 have HBG : Hid (Calls Tryz.prog 48 #[.pointer (some ⟨t, 0, none⟩), .agg cz.toArray] V fun e w' => qF V B t (some (st.getD (0, []))) x ⟨0, 1, 0, []⟩ e w') := zh (by rw [HCZ.out]; exact begin_any V B t st x HTV.out HBN.out A1 c1)
 go_wp2_with (with_reducible refine zM rfl 67 (.tmp 5) rfl q 0 rfl cz _ HCR.out Tryz.underlying67 rfl HCI.out ?_)
 refine HBG.out.mono ?_
 rintro e X ⟨zs, rfl, hz, hts, fx⟩
 have HZ := zh hz
 have HDX := zh (fx.blk HDV.out (by decide))
 have HTH := zh (HZ.out.there HDX.out rfl)
 have HZJ := zh HZ.out.info
 have HZO := zh HZ.out.one
 obtain ⟨E1, E2⟩ := td_end (w := w) HDX.out rfl (zf _) HZ.out hts ((FT.of_fresh HFX.out).trans fx)
 have HE1 := zh E1
 have HE2 := zh E2
 clear hz hts fx E1 E2
 go_wp2_with (refine zd rfl 73 (.tmp 4) (.tmp 25) rfl w.heap.size 0 zs.toArray rfl rfl HTH.out HZJ.out HZO.out ?_)
 exact zi (v := .agg zs.toArray) (td_res Tryz.results25 rfl HE1.out HZ.out) rfl HE2.out
theorem apply_do (w : World) (B t : Nat) (x : Book) (hB : B ≤ w.heap.size) (A : Option Addr) (c : Nat) (bs : List UInt8) (hA : Rd w w.heap.size A (bs.map bv)) (hl : bs.length ≤ 1000000) (hc : bs.length ≤ c) (hm : c ≤ maxLen) (s : Int × List UInt8) (h : TabS w B t (some s) x) (n : Nat) (hk : BookOk n x) (hl0 : 0 ≤ s.1) (hl1 : s.1 ≤ 1000000) (sq : Int) (h1 : 1 ≤ sq) (h2 : sq ≤ s.1 + 1) (hn : sq = s.1 + 1 → n < 100) (cmd : List UInt8) (hc4 : cmd.length ≤ 4000) (hr : reqA bs = (⟨2, 1, sq, 0, cmd⟩, 0)) :
 Calls Tryz.prog 25 #[.pointer (some ⟨t, 0, none⟩), .slice A bs.length c] w fun e w' => qF w B t (some (doS s x sq cmd).1) (doS s x sq cmd).2.1 (doS s x sq cmd).2.2 e w' := by
 obtain ⟨W0, hW0⟩ : ∃ W, w.alloc (.cells #[.int .i64 0, .int .i64 0, .int .i64 0, .slice none 0 0] 73) = W := ⟨_, rfl⟩
 have HF0 : Hid (Fresh w W0) := zh (by rw [← hW0]; exact jC _ _)
 have HTD : Hid (Blk W0 w.heap.size 73 #[.int .i64 0, .int .i64 0, .int .i64 0, .slice none 0 0]) := zh (by rw [← hW0]; exact Blk.new _ _ _)
 have HDE := zh (refDecode19_any W0 A c bs ((hA.fresh (zf _) HF0.out).more HF0.out.size) hl hc hm)
 have HT := zh h
 clear hA h
 go_in
 go_upto_region 1 with fail
 try rw [hW0]
 clear hW0
 go_wp2_with fail
 refine HDE.out.mono ?_
 rintro e W1 ⟨r, code, A1, c1, hrq, rfl, hsc, f1⟩
 rw [hr] at hrq
 obtain ⟨rfl, rfl⟩ : (⟨2, 1, sq, 0, cmd⟩ : Rq) = r ∧ 0 = code := ⟨congrArg Prod.fst hrq, congrArg Prod.snd hrq⟩
 obtain ⟨cz, hcz⟩ : ∃ z, z = rcel (⟨2, 1, sq, 0, cmd⟩ : Rq) A1 c1 := ⟨_, rfl⟩
 have HCZ := zh hcz
 rw [← hcz]
 obtain ⟨U, hU⟩ : ∃ U, W1.alloc (.cells #[.int .i64 0, .int .i64 0, .int .i64 0, .int .i64 0, .slice none 0 0] 67) = U := ⟨_, rfl⟩
 have HBU : Hid (Blk U W1.heap.size 67 #[.int .i64 0, .int .i64 0, .int .i64 0, .int .i64 0, .slice none 0 0]) := zh (by rw [← hU]; exact Blk.new _ _ _)
 have HCI : Hid ((Tryz.prog.info? 67).map (·.size) = some cz.length) := zh (by rw [hcz]; kernel_rfl)
 have HCJ : Hid ((Tryz.prog.info? 67).map (·.size) = some cz.toArray.size) := zh (by rw [hcz]; kernel_rfl)
 have HCO : Hid (cz.toArray.all (·.oneCell') = true) := zh (by rw [hcz]; kernel_rfl)
 have HTU : Hid (U.there W1.heap.size 0 cz.toArray.size) := zh (by rw [hcz]; exact HBU.out.there rfl)
 obtain ⟨V, hV⟩ : ∃ V, U.setCells W1.heap.size 0 cz = V := ⟨_, rfl⟩
 have HF1 : Hid (Fresh W0 W1) := zh f1
 have HFV : Hid (Fresh W1 V) := zh (by rw [← hV, ← hU]; exact (jC _ _).trans' (jE W1.heap.size cz 0 _) (fun k hk e => by omega))
 have HBV : Hid (Blk V W1.heap.size 67 cz.toArray) := zh (by rw [← hV]; exact jG HBU.out (by rw [hcz]; rfl))
 have HDV := zh ((HTD.out.frm HF1.out (fun f => f)).frm HFV.out (fun f => f))
 have HFX := zh ((HF0.out.trans HF1.out).trans HFV.out)
 have HTV := zh (HT.out.fresh HFX.out)
 have HSC := zh (hsc.fresh HFV.out)
 have HBN : Hid (B ≤ V.heap.size) := zh (zp hB HFX.out.size)
 have HCC : Hid (∀ Y, Blk Y W1.heap.size 67 cz.toArray → Y.cell? ⟨W1.heap.size, 0, none⟩ = some (.int .i64 2) ∧ Y.cell? ⟨W1.heap.size, 1, none⟩ = some (.int .i64 1)) := zh fun Y hb => by rw [hcz] at hb; exact ⟨hb.cell 0, hb.cell 1⟩
 clear hcz hsc f1 hrq hr
 go_upto_region 2 with (first | (refine zd rfl 67 (.tmp 5) (.tmp 11) rfl W1.heap.size 0 cz.toArray rfl rfl HTU.out HCJ.out HCO.out ?_) | (rw [hU]; refine zd rfl 67 (.tmp 5) (.tmp 11) rfl W1.heap.size 0 cz.toArray rfl rfl HTU.out HCJ.out HCO.out ?_))
 try rw [hV]
 clear hV hU HTU HBU HCJ HCO
 generalize W1.heap.size = q at HBV HCC
 have HCR : Hid (V.rangeAt q 0 cz) := zh HBV.out.range
 obtain ⟨y0, y1⟩ := HCC.out V HBV.out
 have HPL : Hid (Calls Tryz.prog 49 #[.pointer (some ⟨t, 0, none⟩), .int .i64 1] V fun e w' => e = .returned (.int .i64 0) ∧ w' = V) := zh (by
  obtain ⟨b, M, g, o, lc, RA, rc, ht, _⟩ := HTV.out
  exact place19_any V B t b M g o lc s.1 RA rc s.2 ht)
 have HDO : Hid (Calls Tryz.prog 50 #[.pointer (some ⟨t, 0, none⟩), .int .i64 0, .agg cz.toArray] V fun e w' => qF V B t (some (doS s x sq cmd).1) (doS s x sq cmd).2.1 (doS s x sq cmd).2.2 e w') := zh (by
  rw [HCZ.out]
  obtain ⟨A', c', e, q1, q2, _⟩ := HSC.out.shape
  injection e with e1 _ e3
  subst e1 e3
  exact do_any V B t s x HTV.out HBN.out n hk hl0 hl1 sq h1 h2 hn cmd _ _ HSC.out.rd q1 q2 hc4)
 obtain ⟨ds, hds⟩ : ∃ z, z = doS s x sq cmd := ⟨_, rfl⟩
 rw [← hds] at HDO
 have HDS := zh hds
 clear hds
 clear hl0 hl1 h1 h2 hn
 go_wp2_with fail
 refine HPL.out.mono ?_
 rintro e V2 ⟨rfl, rfl⟩
 go_wp2_with (with_reducible refine zM rfl 67 (.tmp 5) rfl q 0 rfl cz _ HCR.out Tryz.underlying67 rfl HCI.out ?_)
 refine HDO.out.mono ?_
 rintro e X ⟨zs, rfl, hz, hts, fx⟩
 have HZ := zh hz
 have HDX := zh (fx.blk HDV.out (by decide))
 have HTH := zh (HZ.out.there HDX.out rfl)
 have HZJ := zh HZ.out.info
 have HZO := zh HZ.out.one
 obtain ⟨E1, E2⟩ := td_end (w := w) HDX.out rfl (zf _) HZ.out hts ((FT.of_fresh HFX.out).trans fx)
 have HE1 := zh E1
 have HE2 := zh E2
 clear hz hts fx E1 E2
 go_wp2_with (refine zd rfl 73 (.tmp 4) (.tmp 74) rfl w.heap.size 0 zs.toArray rfl rfl HTH.out HZJ.out HZO.out ?_)
 exact zi (v := .agg zs.toArray) (td_res Tryz.results25 rfl HE1.out HZ.out) rfl (by rw [← HDS.out]; exact HE2.out)
noncomputable def lookA (x : Book) (cmd : List UInt8) : Rep := if (decA cmd).2 = 0 then showA x (decA cmd).1 else repC 6
theorem repB_look {n : Nat} {x : Book} (h : BookOk n x) (hn : n ≤ 100) (cmd : List UInt8) : RepB (lookA x cmd) := by
 unfold lookA
 split
 ·rename_i h0
  exact repB_show h hn (decA_ok h0).1
 ·exact jI (by omega)
theorem TabS.bk {w : World} {B t : Nat} {st : Option (Int × List UInt8)} {x : Book} (h : TabS w B t st x) : ∃ b M y0 y1, Blk w t 63 #[y0, y1, .pointer (some ⟨b, 0, none⟩)] ∧ BookAt w B b M ∧ M.abs = x := by
 cases st with
 | none => obtain ⟨b, M, h1, h2⟩ := h; exact ⟨b, M, _, _, h1.blk, h1.book, h2⟩
 | some s => obtain ⟨b, M, g, o, lc, RA, rc, h1, h2⟩ := h; exact ⟨b, M, _, _, h1.blk, h1.book, h2⟩
theorem look_any (w : World) (B t : Nat) (x : Book) (hB : B ≤ w.heap.size) (A : Option Addr) (c : Nat) (bs : List UInt8) (hA : Rd w w.heap.size A (bs.map bv)) (hl : bs.length ≤ 1000000) (hc : bs.length ≤ c) (hm : c ≤ maxLen) (st : Option (Int × List UInt8)) (h : TabS w B t st x) (n : Nat) (hk : BookOk n x) (hn : n ≤ 100) (cmd : List UInt8) (hc4 : cmd.length ≤ 4000) (hr : reqA bs = (⟨4, 0, 0, 0, cmd⟩, 0)) :
 Calls Tryz.prog 24 #[.pointer (some ⟨t, 0, none⟩), .slice A bs.length c] w fun e w' => qF w B t st x ⟨0, 0, 0, qK (lookA x cmd)⟩ e w' := by
 obtain ⟨W0, hW0⟩ : ∃ W, w.alloc (.cells #[.int .i64 0, .int .i64 0, .int .i64 0, .slice none 0 0] 73) = W := ⟨_, rfl⟩
 have HF0 : Hid (Fresh w W0) := zh (by rw [← hW0]; exact jC _ _)
 have HTD : Hid (Blk W0 w.heap.size 73 #[.int .i64 0, .int .i64 0, .int .i64 0, .slice none 0 0]) := zh (by rw [← hW0]; exact Blk.new _ _ _)
 have HDE := zh (refDecode19_any W0 A c bs ((hA.fresh (zf _) HF0.out).more HF0.out.size) hl hc hm)
 have HT := zh h
 clear hA h
 go_in
 go_upto_region 1 with fail
 try rw [hW0]
 clear hW0
 go_wp2_with fail
 refine HDE.out.mono ?_
 rintro e W1 ⟨r, code, A1, c1, hrq, rfl, hsc, f1⟩
 rw [hr] at hrq
 obtain ⟨rfl, rfl⟩ : (⟨4, 0, 0, 0, cmd⟩ : Rq) = r ∧ 0 = code := ⟨congrArg Prod.fst hrq, congrArg Prod.snd hrq⟩
 obtain ⟨cz, hcz⟩ : ∃ z, z = rcel (⟨4, 0, 0, 0, cmd⟩ : Rq) A1 c1 := ⟨_, rfl⟩
 have HCZ := zh hcz
 rw [← hcz]
 obtain ⟨U, hU⟩ : ∃ U, W1.alloc (.cells #[.int .i64 0, .int .i64 0, .int .i64 0, .int .i64 0, .slice none 0 0] 67) = U := ⟨_, rfl⟩
 have HBU : Hid (Blk U W1.heap.size 67 #[.int .i64 0, .int .i64 0, .int .i64 0, .int .i64 0, .slice none 0 0]) := zh (by rw [← hU]; exact Blk.new _ _ _)
 have HCI : Hid ((Tryz.prog.info? 67).map (·.size) = some cz.length) := zh (by rw [hcz]; kernel_rfl)
 have HCJ : Hid ((Tryz.prog.info? 67).map (·.size) = some cz.toArray.size) := zh (by rw [hcz]; kernel_rfl)
 have HCO : Hid (cz.toArray.all (·.oneCell') = true) := zh (by rw [hcz]; kernel_rfl)
 have HTU : Hid (U.there W1.heap.size 0 cz.toArray.size) := zh (by rw [hcz]; exact HBU.out.there rfl)
 obtain ⟨V, hV⟩ : ∃ V, U.setCells W1.heap.size 0 cz = V := ⟨_, rfl⟩
 have HF1 : Hid (Fresh W0 W1) := zh f1
 have HFV : Hid (Fresh W1 V) := zh (by rw [← hV, ← hU]; exact (jC _ _).trans' (jE W1.heap.size cz 0 _) (fun k hk e => by omega))
 have HBV : Hid (Blk V W1.heap.size 67 cz.toArray) := zh (by rw [← hV]; exact jG HBU.out (by rw [hcz]; rfl))
 have HDV := zh ((HTD.out.frm HF1.out (fun f => f)).frm HFV.out (fun f => f))
 have HFX := zh ((HF0.out.trans HF1.out).trans HFV.out)
 have HTV := zh (HT.out.fresh HFX.out)
 have HSC := zh (hsc.fresh HFV.out)
 have HBN : Hid (B ≤ V.heap.size) := zh (zp hB HFX.out.size)
 have HCC : Hid (∀ Y, Blk Y W1.heap.size 67 cz.toArray → Y.cell? ⟨W1.heap.size, 0, none⟩ = some (.int .i64 4) ∧ Y.cell? ⟨W1.heap.size, 4, none⟩ = some (.slice A1 cmd.length c1)) := zh fun Y hb => by rw [hcz] at hb; exact ⟨hb.cell 0, hb.cell 4⟩
 clear hcz hsc f1 hrq hr
 go_upto_region 2 with (first | (refine zd rfl 67 (.tmp 5) (.tmp 13) rfl W1.heap.size 0 cz.toArray rfl rfl HTU.out HCJ.out HCO.out ?_) | (rw [hU]; refine zd rfl 67 (.tmp 5) (.tmp 13) rfl W1.heap.size 0 cz.toArray rfl rfl HTU.out HCJ.out HCO.out ?_))
 try rw [hV]
 clear hV hU HTU HBU HCJ HCO
 generalize W1.heap.size = q at HBV HCC
 have HCR : Hid (V.rangeAt q 0 cz) := zh HBV.out.range
 obtain ⟨y0, y4⟩ := HCC.out V HBV.out
 obtain ⟨A', c', ee, hcc, hcm, _⟩ := HSC.out.shape
 injection ee with e1 _ e3
 subst e1 e3
 obtain ⟨b, M, t0, t1, htb, hbk, hxx⟩ := HTV.out.bk
 subst hxx
 have HTB := zh htb
 have HBK := zh hbk
 clear htb hbk
 obtain ⟨zr, hzr⟩ : ∃ z : List Value, z = [.int .i64 6, .string ⟨#[]⟩, .int .i64 0, .int .i64 0, .int .i64 0, .int .i64 0, .int .i64 0, .slice none 0 0, .slice none 0 0] := ⟨_, rfl⟩
 obtain ⟨U8, hU8⟩ : ∃ U, V.alloc (.cells #[.int .i64 0, .string ⟨#[]⟩, .int .i64 0, .int .i64 0, .int .i64 0, .int .i64 0, .int .i64 0, .slice none 0 0, .slice none 0 0] 106) = U := ⟨_, rfl⟩
 have HB8 : Hid (Blk U8 V.heap.size 106 #[.int .i64 0, .string ⟨#[]⟩, .int .i64 0, .int .i64 0, .int .i64 0, .int .i64 0, .int .i64 0, .slice none 0 0, .slice none 0 0]) := zh (by rw [← hU8]; exact Blk.new _ _ _)
 have HZ8 : Hid (RepZ U8 0 zr (repC 6)) := zh (by rw [hzr]; exact jX _ _ _)
 have HTH8 := zh (jZ HB8.out rfl HZ8.out)
 have HZJ := zh HZ8.out.info
 have HZO := zh HZ8.out.one
 have HZS := zh hzr
 clear hzr
 obtain ⟨X8, hX8⟩ : ∃ X, U8.setCells V.heap.size 0 zr = X := ⟨_, rfl⟩
 have HPW : Hid (w.heap.size < V.heap.size) := zh HDV.out.lt
 have HL8 := zh (HZ8.out.lay HB8.out rfl)
 rw [hX8] at HL8
 have HF8 : Hid (Fresh V X8) := zh (by
  rw [← hX8, ← hU8]
  exact (jC _ _).trans' (jE V.heap.size zr 0 _) (fun k hk e => by omega))
 go_upto_region 7 with (first | (refine zd rfl 106 (.tmp 7) (.tmp 22) rfl V.heap.size 0 zr.toArray rfl (by rw [HZS.out]; rfl) HTH8.out HZJ.out HZO.out ?_) | (rw [hU8]; refine zd rfl 106 (.tmp 7) (.tmp 22) rfl V.heap.size 0 zr.toArray rfl (by rw [HZS.out]; rfl) HTH8.out HZJ.out HZO.out ?_))
 try rw [hX8]
 clear hX8 hU8 y0 y4 HTH8 HZJ HZO HB8 HZ8
 have HPV : Hid (V.heap.size ≤ V.heap.size) := zh (zf _)
 generalize hpv : V.heap.size = p at HPW HL8
 have HPV : Hid (V.heap.size = p) := zh hpv
 clear hpv
 have r4 := (HCC.out X8 (HBV.out.frm HF8.out (fun f => f))).2
 have HDE8 := zh (refDecode18_any X8 A1 c1 cmd ((HSC.out.fresh HF8.out).rd) (by omega) hcc hcm)
 go_wp2_with fail
 refine HDE8.out.mono ?_
 rintro e X9 ⟨cm, code, GA, gc, PA, pc, hde, rfl, hcl, f9⟩
 have HF9 := zh f9
 have HDEC := zh hde
 obtain ⟨cy, hcy⟩ : ∃ x, x = ccel cm GA gc PA pc := ⟨_, rfl⟩
 have HCY := zh hcy
 rw [← hcy]
 obtain ⟨Ua, hUa⟩ : ∃ U, X9.alloc (.cells #[.int .i64 0, .string ⟨#[]⟩, .int .i64 0, .int .i64 0, .int .i64 0, .int .i64 0, .float .f64 0, .string ⟨#[]⟩, .int .i64 0, .slice none 0 0, .slice none 0 0] 95) = U := ⟨_, rfl⟩
 have HBa : Hid (Blk Ua X9.heap.size 95 #[.int .i64 0, .string ⟨#[]⟩, .int .i64 0, .int .i64 0, .int .i64 0, .int .i64 0, .float .f64 0, .string ⟨#[]⟩, .int .i64 0, .slice none 0 0, .slice none 0 0]) := zh (by rw [← hUa]; exact Blk.new _ _ _)
 have HDI : Hid ((Tryz.prog.info? 95).map (·.size) = some cy.length) := zh (by rw [hcy]; kernel_rfl)
 have HDJ : Hid ((Tryz.prog.info? 95).map (·.size) = some cy.toArray.size) := zh (by rw [hcy]; kernel_rfl)
 have HDO : Hid (cy.toArray.all (·.oneCell') = true) := zh (by rw [hcy]; kernel_rfl)
 have HTHa : Hid (Ua.there X9.heap.size 0 cy.toArray.size) := zh (by rw [hcy]; exact HBa.out.there rfl)
 obtain ⟨Y, hY⟩ : ∃ Y, Ua.setCells X9.heap.size 0 cy = Y := ⟨_, rfl⟩
 have HFY : Hid (Fresh X9 Y) := zh (by rw [← hY, ← hUa]; exact (jC _ _).trans' (jE X9.heap.size cy 0 _) (fun k hk e => by omega))
 have HBY : Hid (Blk Y X9.heap.size 95 cy.toArray) := zh (by rw [← hY]; exact jG HBa.out (by rw [hcy]; rfl))
 have HCL := zh (hcl.fresh HFY.out)
 have HFVY : Hid (Fresh V Y) := zh ((HF8.out.trans HF9.out).trans HFY.out)
 have HRY : Hid (Blk Y p 106 zr.toArray) := zh ((HL8.out.1.frm HF9.out (fun f => f)).frm HFY.out (fun f => f))
 have HZY := zh ((HL8.out.2.1.fresh HF9.out).fresh HFY.out)
 clear hcl f9 hde hcy r4 HDE8
 go_upto_region 8 with (first | (refine zd rfl 95 (.tmp 8) (.tmp 27) rfl X9.heap.size 0 cy.toArray rfl rfl HTHa.out HDJ.out HDO.out ?_) | (rw [hUa]; refine zd rfl 95 (.tmp 8) (.tmp 27) rfl X9.heap.size 0 cy.toArray rfl rfl HTHa.out HDJ.out HDO.out ?_))
 try rw [hY]
 clear hY hUa HTHa HDJ HDO HBa
 generalize X9.heap.size = q2 at HBY
 have HCE : Hid (∀ w', Fresh V w' → w'.cell? ⟨t, 2, none⟩ = some (.pointer (some ⟨b, 0, none⟩))) := zh fun w' F => (HTB.out.frm F (fun f => f)).cell 2
 have hcode : code = 0 ∨ code = 6 := by have := decA_code cmd; rw [HDEC.out] at this; exact this
 rcases hcode with rfl | rfl
 ·obtain ⟨HCB, HK1⟩ := decA_ok (bs := cmd) (by rw [HDEC.out])
  rw [HDEC.out] at HCB HK1
  have HCB := zh HCB
  have HVA : Hid (lookA M.abs cmd = showA M.abs cm) := zh (by unfold lookA; rw [HDEC.out]; exact zl rfl)
  have HRB : Hid (RepB (showA M.abs cm)) := zh (repB_show hk hn HCB.out)
  have HSH : Hid (Calls Tryz.prog 46 #[.pointer (some ⟨b, 0, none⟩), .agg cy.toArray] Y.drew fun e w' => ToldPost Y.drew (showA M.abs cm) e w') := zh (by rw [HCY.out]; exact show18_any Y.drew B b M n cm GA gc PA pc (HBK.out.fresh HFVY.out.drew) hk hn HCB.out HK1 (HCL.out.fresh (za _ Y).drew))
  generalize showA M.abs cm = ar at HVA HRB HSH
  clear HCY HCL HK1
  go_upto_region 9 with fail
  refine zj (S := (fun w' => w'.cell? ⟨t, 2, none⟩ = some (.pointer (some ⟨b, 0, none⟩)) ∧ Blk w' q2 95 cy.toArray)) (by kernel_rfl) (⟨HCE.out _ HFVY.out.drew, HBY.out⟩) (fun hHeld => ?_)
  iterate 4 ((first | refine ztn (v := ?_) (zo rfl) ?_ | refine ztz (v := ?_) (zo rfl) ?_); try simp only [Act.put, zT, zZ, zS])
  refine wpAnyH_take (i := 4) (v := .agg cy.toArray) (zo rfl) (by kernel_rfl) (by kernel_rfl) (by kernel_rfl) (fun _ _ _ h => h) (yieldsIf_load_mid (by rfl) 95 (.tmp 8) (by rfl) q2 0 (by simp [Act.eval, Act.put]) cy _ (fun w' hS => hS.2.range) Tryz.underlying95 rfl HDI.out) (by assumption) ?_
  try simp only [Act.put, zT, zZ, zS]
  refine zr1 5 (zo rfl) (fun K hK => ?_)
  go_simp
  refine (HSH.out).mono ?_
  rintro e X11 ⟨v11, rfl, hv11, f11⟩
  obtain ⟨zv, rfl, hzv⟩ := hv11.z
  have HFA : Hid (Fresh Y X11) := zh ((za _ Y).drew.trans f11)
  have HZV := zh (hzv.less (zF _))
  have HRA := zh (HRY.out.frm HFA.out (fun f => f))
  have HBA := zh (HBY.out.frm HFA.out (fun f => f))
  have HTH := zh (jZ HRA.out (by simp [HZY.out.len]) HZV.out)
  have HZJ := zh HZV.out.info
  have HZO := zh HZV.out.one
  obtain ⟨Z, hZ⟩ : ∃ Z, X11.setCells p 0 zv = Z := ⟨_, rfl⟩
  have HL := zh (HZV.out.lay HRA.out (by simp [HZY.out.len]))
  rw [hZ] at HL
  have HFZ : Hid (Fresh V Z) := zh ((HFVY.out.trans HFA.out).trans' HL.out.2.2 (fun k hk e => by have := HPV.out; omega))
  have HBZ : Hid (Blk Z q2 95 cy.toArray) := zh (HBA.out.frm HL.out.2.2 (HBA.out.apart HRA.out (by decide)))
  clear hv11 f11 hzv
  refine hK.out _ _ (⟨HCE.out _ (HFVY.out.trans HFA.out), HBA.out⟩) (fun hHeld => ?_)
  clear hK K
  try simp only [Act.put, zT, zZ, zS]
  refine zr1 6 (zo rfl) (fun K hK => ?_)
  rw [zl (by rfl)]
  refine wp_store_mid 106 (.tmp 7) (.tmp 36) rfl p 0 zv.toArray (by simp [Act.eval, Act.put]) (by simp [Act.eval, Act.put]) HTH.out HZJ.out HZO.out ?_
  try rw [hZ]
  refine hK.out _ _ (⟨HCE.out _ HFZ.out, HBZ.out⟩) (fun hHeld => ?_)
  clear hK K
  try simp only [Act.put, zT, zZ, zS]
  refine wpAnyH_done (by kernel_rfl) ?_ _
  try rw [hZ]
  clear hZ
  have HR1 := zh HL.out.1
  have HR2 := zh HL.out.2.1
  have HAN := zh (answer18_any Z 0 (.agg zv.toArray) (ar) (HR2.out.v) HRB.out)
  have HRR : Hid ((Z).rangeAt p 0 zv) := zh HR1.out.range
  have HRI : Hid ((Tryz.prog.info? 106).map (·.size) = some zv.length) := zh (by have := HR2.out.info; simpa using this)
  go_wp2_with (with_reducible refine zM rfl 106 (.tmp 7) rfl p 0 rfl zv _ HRR.out Tryz.underlying106 rfl HRI.out ?_)
  refine HAN.out.mono ?_
  rintro e X ⟨v, rfl, hs, fx⟩
  obtain ⟨NA, nc, rfl, _⟩ := hs.shape
  have HS := zh (hs.less (zF _))
  have HFE : Hid (Fresh V X) := zh (HFZ.out.trans fx)
  obtain ⟨zs, hzs⟩ : ∃ zs : List Value, zs = [.int .i64 0, .int .i64 0, .int .i64 0, .slice NA (qK (ar)).length nc] := ⟨_, rfl⟩
  have HZT : Hid (TdZ X zs ⟨0, 0, 0, qK (ar)⟩) := zh (by rw [hzs]; exact ⟨NA, nc, rfl, HS.out⟩)
  have HZS3 := zh hzs
  have HDX := zh (HDV.out.frm HFE.out (fun f => f))
  have HTH := zh (HZT.out.there HDX.out rfl)
  have HZJ2 := zh HZT.out.info
  have HZO2 := zh HZT.out.one
  obtain ⟨E1, E2⟩ := td_end (w := w) HDX.out rfl (zf _) HZT.out (HTV.out.fresh HFE.out) (FT.of_fresh (HFX.out.trans HFE.out))
  have HE1 := zh E1
  have HE2 := zh E2
  clear hs fx E1 E2 hzs
  go_wp2_with (refine zd rfl 73 (.tmp 4) (.tmp 39) rfl w.heap.size 0 zs.toArray rfl (by rw [HZS3.out]; rfl) HTH.out HZJ2.out HZO2.out ?_)
  exact zi (v := .agg zs.toArray) (td_res Tryz.results24 rfl HE1.out HZT.out) rfl (by rw [HVA.out]; exact HE2.out)
 ·have HVA : Hid (lookA M.abs cmd = repC 6) := zh (by unfold lookA; rw [HDEC.out]; exact zk (show ¬ ((6 : Int) = 0) by decide))
  have HRB : Hid (RepB (repC 6)) := zh (jI (by omega))
  have HAN := zh (answer18_any Y 0 (.agg zr.toArray) (repC 6) (HZY.out.v) HRB.out)
  have HRR : Hid ((Y).rangeAt p 0 zr) := zh HRY.out.range
  have HRI : Hid ((Tryz.prog.info? 106).map (·.size) = some zr.length) := zh (by have := HZY.out.info; simpa using this)
  go_wp2_with (with_reducible refine zM rfl 106 (.tmp 7) rfl p 0 rfl zr _ HRR.out Tryz.underlying106 rfl HRI.out ?_)
  refine HAN.out.mono ?_
  rintro e X ⟨v, rfl, hs, fx⟩
  obtain ⟨NA, nc, rfl, _⟩ := hs.shape
  have HS := zh (hs.less (zF _))
  have HFE : Hid (Fresh V X) := zh (HFVY.out.trans fx)
  obtain ⟨zs, hzs⟩ : ∃ zs : List Value, zs = [.int .i64 0, .int .i64 0, .int .i64 0, .slice NA (qK (repC 6)).length nc] := ⟨_, rfl⟩
  have HZT : Hid (TdZ X zs ⟨0, 0, 0, qK (repC 6)⟩) := zh (by rw [hzs]; exact ⟨NA, nc, rfl, HS.out⟩)
  have HZS3 := zh hzs
  have HDX := zh (HDV.out.frm HFE.out (fun f => f))
  have HTH := zh (HZT.out.there HDX.out rfl)
  have HZJ2 := zh HZT.out.info
  have HZO2 := zh HZT.out.one
  obtain ⟨E1, E2⟩ := td_end (w := w) HDX.out rfl (zf _) HZT.out (HTV.out.fresh HFE.out) (FT.of_fresh (HFX.out.trans HFE.out))
  have HE1 := zh E1
  have HE2 := zh E2
  clear hs fx E1 E2 hzs
  go_wp2_with (refine zd rfl 73 (.tmp 4) (.tmp 39) rfl w.heap.size 0 zs.toArray rfl (by rw [HZS3.out]; rfl) HTH.out HZJ2.out HZO2.out ?_)
  exact zi (v := .agg zs.toArray) (td_res Tryz.results24 rfl HE1.out HZT.out) rfl (by rw [HVA.out]; exact HE2.out)
end
end Go.Proofs.YtnmokpbomeamfaaGreat

/- Proved here, for the statement ClientOnceSaid: laws that its walk leans on. It holds with no condition. (Put together and shortened by a program out of many texts: On53, On60, On61, On62.) -/
import Derived.Test.YtnmokpbomeamfaaGreatZ22
import Derived.Test.YtnmokpbomeamfaaGreatZ14
set_option linter.unusedVariables false
set_option maxRecDepth 100000
set_option maxHeartbeats 64000000
namespace Go.Proofs.YtnmokpbomeamfaaGreat
section
open Go.RowKit QueueM
noncomputable def stepT (st : Option (Int × List UInt8)) (x : Book) (rq : Rq) : Option (Int × List UInt8) × Book × Td :=
 if rq.kind = 1 then (some (st.getD (0, [])), x, ⟨0, 1, 0, []⟩)
 else if rq.kind = 2 then (some (doS (st.getD (0, [])) x rq.seq rq.cmd).1, (doS (st.getD (0, [])) x rq.seq rq.cmd).2.1, (doS (st.getD (0, [])) x rq.seq rq.cmd).2.2)
 else (st, x, ⟨0, 0, 0, qK (lookA x rq.cmd)⟩)
inductive RqL (st : Option (Int × List UInt8)) : Rq → Prop where
 | begin : RqL st ⟨1, 0, 0, 3, []⟩
 | do_ (s : Int × List UInt8) (hs : st = some s) (sq : Int) (h1 : 1 ≤ sq) (h2 : sq ≤ s.1 + 1) (cmd : List UInt8) (h3 : cmd.length ≤ 4000) : RqL st ⟨2, 1, sq, 0, cmd⟩
 | look (cmd : List UInt8) (h3 : cmd.length ≤ 4000) : RqL st ⟨4, 0, 0, 0, cmd⟩
def StB (st : Option (Int × List UInt8)) : Prop := ∀ s, st = some s → (0 ≤ s.1 ∧ s.1 ≤ 1000000) ∧ s.2.length ≤ 60000
structure TdB (d : Td) : Prop where
 code : 0 ≤ d.code ∧ d.code ≤ 20
 client : 0 ≤ d.client ∧ d.client ≤ 1
 seq : 0 ≤ d.seq ∧ d.seq ≤ 1000001
 reply : d.reply.length ≤ 60000
def toldB (d : Td) : List UInt8 := numsB [d.code, d.client, d.seq] ++ FieldM.text d.reply
theorem stepT_td {st : Option (Int × List UInt8)} {x : Book} {rq : Rq} {n : Nat} (hr : RqL st rq) (hs : StB st) (hk : BookOk n x) (hn : n ≤ 100) (hn2 : ∀ s, st = some s → rq.kind = 2 → rq.seq = s.1 + 1 → n < 100) : TdB (stepT st x rq).2.2 := by
 cases hr with
 | begin => exact ⟨by simp [stepT], by simp [stepT], by simp [stepT], by simp [stepT]⟩
 | do_ s h sq h1 h2 cmd h3 =>
  subst h
  obtain ⟨⟨b1, b2⟩, b3⟩ := hs s rfl
  have e : (stepT (some s) x ⟨2, 1, sq, 0, cmd⟩).2.2 = (doS s x sq cmd).2.2 := rfl
  rw [e]
  unfold doS
  split
  ·exact ⟨by simp, by simp, by dsimp only; omega, b3⟩
  ·split
   ·exact ⟨by simp, by simp, by simp, by simp⟩
   ·exact ⟨by simp, by simp, by dsimp only; omega, answerB_le (repB_done hk (hn2 s rfl rfl (by dsimp only; omega)) cmd)⟩
 | look cmd h3 =>
  have e : (stepT st x ⟨4, 0, 0, 0, cmd⟩).2.2 = ⟨0, 0, 0, qK (lookA x cmd)⟩ := rfl
  rw [e]
  exact ⟨by simp, by simp, by simp, answerB_le (repB_look hk hn cmd)⟩
def DonePost (w : World) (B t : Nat) (token : Int) (r : Option (Int × List UInt8) × Book × Td) (e : Ending) (w' : World) : Prop :=
 ∃ A c, e = .returned (.agg #[.int .i64 token, .int .i64 0, .int .i64 0, .slice A (toldB r.2.2).length c]) ∧ Sl w' w.heap.size 5 1 (.slice A (toldB r.2.2).length c) (toldB r.2.2).length ((toldB r.2.2).map bv) ∧ TabS w' B t r.1 r.2.1 ∧ FT tabT B w w'
theorem done_any (w : World) (B t : Nat) (x : Book) (hB : B ≤ w.heap.size) (A : Option Addr) (c : Nat) (bs : List UInt8) (hA : Rd w w.heap.size A (bs.map bv)) (hl : bs.length ≤ 1000000) (hc : bs.length ≤ c) (hm : c ≤ maxLen) (st : Option (Int × List UInt8)) (h : TabS w B t st x) (n : Nat) (hk : BookOk n x) (hn : n ≤ 100) (rq : Rq) (hq : RqL st rq) (hn2 : ∀ s, st = some s → rq.kind = 2 → rq.seq = s.1 + 1 → n < 100) (hst : StB st) (token : Int) (hr : reqA bs = (rq, 0)) :
 Calls Tryz.prog 9 #[.pointer (some ⟨t, 0, none⟩), .int .i64 token, .slice A bs.length c] w fun e w' => DonePost w B t token (stepT st x rq) e w' := by
 have HTDB := zh (stepT_td hq hst hk hn hn2)
 have HRR := zh hr
 have HARG : Hid (∀ V, Fresh w V → Rd V V.heap.size A (bs.map bv)) := zh fun V F => (hA.fresh (zf _) F).more F.size
 have HLC : Hid (bs.length ≤ 1000000 ∧ bs.length ≤ c ∧ c ≤ maxLen) := zh ⟨hl, hc, hm⟩
 obtain ⟨W0, hW0⟩ : ∃ W, w.alloc (.cells #[.int .i64 0, .int .i64 0, .int .i64 0, .slice none 0 0] 45) = W := ⟨_, rfl⟩
 have HF0 : Hid (Fresh w W0) := zh (by rw [← hW0]; exact jC _ _)
 have HTD : Hid (Blk W0 w.heap.size 45 #[.int .i64 0, .int .i64 0, .int .i64 0, .slice none 0 0]) := zh (by rw [← hW0]; exact Blk.new _ _ _)
 have HDE := zh (refDecode19_any W0 A c bs ((hA.fresh (zf _) HF0.out).more HF0.out.size) hl hc hm)
 have HT := zh h
 clear hA h
 go_in
 go_upto_region 1 with fail
 try rw [hW0]
 clear hW0
 go_wp2_with fail
 refine HDE.out.mono ?_
 rintro e W1 ⟨r, code, A1, c1, hrq, rfl, hsc, f1⟩
 rw [hr] at hrq
 obtain ⟨rfl, rfl⟩ : rq = r ∧ 0 = code := ⟨congrArg Prod.fst hrq, congrArg Prod.snd hrq⟩
 obtain ⟨cz, hcz⟩ : ∃ z, z = rcel rq A1 c1 := ⟨_, rfl⟩
 have HCZ := zh hcz
 rw [← hcz]
 obtain ⟨U, hU⟩ : ∃ U, W1.alloc (.cells #[.int .i64 0, .int .i64 0, .int .i64 0, .int .i64 0, .slice none 0 0] 67) = U := ⟨_, rfl⟩
 have HBU : Hid (Blk U W1.heap.size 67 #[.int .i64 0, .int .i64 0, .int .i64 0, .int .i64 0, .slice none 0 0]) := zh (by rw [← hU]; exact Blk.new _ _ _)
 have HCI : Hid ((Tryz.prog.info? 67).map (·.size) = some cz.length) := zh (by rw [hcz]; kernel_rfl)
 have HCJ : Hid ((Tryz.prog.info? 67).map (·.size) = some cz.toArray.size) := zh (by rw [hcz]; kernel_rfl)
 have HCO : Hid (cz.toArray.all (·.oneCell') = true) := zh (by rw [hcz]; kernel_rfl)
 have HTU : Hid (U.there W1.heap.size 0 cz.toArray.size) := zh (by rw [hcz]; exact HBU.out.there rfl)
 obtain ⟨V, hV⟩ : ∃ V, U.setCells W1.heap.size 0 cz = V := ⟨_, rfl⟩
 have HF1 : Hid (Fresh W0 W1) := zh f1
 have HFV : Hid (Fresh W1 V) := zh (by rw [← hV, ← hU]; exact (jC _ _).trans' (jE W1.heap.size cz 0 _) (fun k hk e => by omega))
 have HBV : Hid (Blk V W1.heap.size 67 cz.toArray) := zh (by rw [← hV]; exact jG HBU.out (by rw [hcz]; rfl))
 have HDV := zh ((HTD.out.frm HF1.out (fun f => f)).frm HFV.out (fun f => f))
 have HFX := zh ((HF0.out.trans HF1.out).trans HFV.out)
 have HTV := zh (HT.out.fresh HFX.out)
 have HSC := zh (hsc.fresh HFV.out)
 have HBN : Hid (B ≤ V.heap.size) := zh (zp hB HFX.out.size)
 have HCC : Hid (∀ Y, Blk Y W1.heap.size 67 cz.toArray → Y.cell? ⟨W1.heap.size, 0, none⟩ = some (.int .i64 rq.kind)) := zh fun Y hb => by rw [hcz] at hb; exact hb.cell 0
 clear hcz hsc f1 hrq hr
 go_upto_region 2 with (first | (refine zd rfl 67 (.tmp 7) (.tmp 12) rfl W1.heap.size 0 cz.toArray rfl rfl HTU.out HCJ.out HCO.out ?_) | (rw [hU]; refine zd rfl 67 (.tmp 7) (.tmp 12) rfl W1.heap.size 0 cz.toArray rfl rfl HTU.out HCJ.out HCO.out ?_))
 try rw [hV]
 clear hV hU HTU HBU HCJ HCO
 generalize W1.heap.size = q at HBV HCC
 have HCR : Hid (V.rangeAt q 0 cz) := zh HBV.out.range
 have y0 := HCC.out V HBV.out
 have HCALL : Hid (if rq.kind = 4 then Calls Tryz.prog 24 #[.pointer (some ⟨t, 0, none⟩), .slice A bs.length c] V fun e w' => qF V B t (stepT st x rq).1 (stepT st x rq).2.1 (stepT st x rq).2.2 e w'
  else Calls Tryz.prog 25 #[.pointer (some ⟨t, 0, none⟩), .slice A bs.length c] V fun e w' => qF V B t (stepT st x rq).1 (stepT st x rq).2.1 (stepT st x rq).2.2 e w') := zh (by
  obtain ⟨q1, q2, q3⟩ := HLC.out
  cases hq with
  | begin =>
   rw [zk (by decide)]
   exact apply_begin V B t x HBN.out A c bs (HARG.out V HFX.out) q1 q2 q3 st HTV.out HRR.out
  | do_ s hs sq h1 h2 cmd h3 =>
   subst hs
   rw [zk (show ¬ ((2 : Int) = 4) by decide)]
   obtain ⟨⟨b1, b2⟩, b3⟩ := hst s rfl
   exact apply_do V B t x HBN.out A c bs (HARG.out V HFX.out) q1 q2 q3 s HTV.out n hk b1 b2 sq h1 h2 (hn2 s rfl rfl) cmd h3 HRR.out
  | look cmd h3 =>
   rw [zl rfl]
   exact look_any V B t x HBN.out A c bs (HARG.out V HFX.out) q1 q2 q3 st HTV.out n hk hn cmd h3 HRR.out)
 obtain ⟨sp, hsp⟩ : ∃ z, z = stepT st x rq := ⟨_, rfl⟩
 have HSP := zh hsp
 rw [← hsp] at HCALL HTDB
 generalize rq.kind = kd at y0 HCALL
 clear hsp HARG hq hk hst hn2
 by_cases k4 : kd = 4
 ·subst k4
  have HAP := zh (by have h := HCALL.out; rwa [zl rfl] at h)
  go_wp2_with fail
  refine HAP.out.mono ?_
  rintro e X ⟨zt, rfl, hz, hts, fx⟩
  have HDX := zh (fx.blk HDV.out (by decide))
  have HTX := zh hts
  have HFT := zh fx
  have HAN : Hid (Calls Tryz.prog 23 #[.agg zt.toArray] X fun e w' => OwnB X (toldB sp.2.2) e w') := zh (by
   obtain ⟨A', c', rfl, hsl⟩ := hz
   have hb := HTDB.out
   unfold tcel
   exact answer19_any X _ _ _ A' c' _ hsl.rd (by have := hb.reply; omega) (by have := hb.code; omega) (by have := hb.client; omega) (by have := hb.seq; omega))
  clear hz hts fx
  go_wp2_with fail
  refine HAN.out.mono ?_
  rintro e X2 ⟨v2, rfl, hs2, f2⟩
  obtain ⟨NA, nc, rfl, _⟩ := hs2.shape
  have HS2 := zh (hs2.less (show w.heap.size ≤ X.heap.size by have h1 := HFX.out.size; have h2 := Frm.size HFT.out; omega))
  have HF2 := zh f2
  have HD2 := zh (HDX.out.frm HF2.out (fun f => f))
  have HT2 := zh (HTX.out.fresh HF2.out)
  obtain ⟨zs, hzs⟩ : ∃ zs : List Value, zs = [.int .i64 token, .int .i64 0, .int .i64 0, .slice NA (toldB sp.2.2).length nc] := ⟨_, rfl⟩
  have HZS := zh hzs
  have HTH : Hid (X2.there w.heap.size 0 zs.toArray.size) := zh (by rw [hzs]; exact HD2.out.there rfl)
  have HZJ : Hid ((Tryz.prog.info? 45).map (·.size) = some zs.toArray.size) := zh (by rw [hzs]; kernel_rfl)
  have HZO : Hid (zs.toArray.all (·.oneCell') = true) := zh (by rw [hzs]; kernel_rfl)
  have hfc : Frm (fun k => k = w.heap.size) X2 (X2.setCells w.heap.size 0 zs) := by
   have := jE w.heap.size zs 0 X2
   have e : (fun k => w.heap.size = k) = (fun k => k = w.heap.size) := by funext k; exact propext eq_comm
   rwa [e] at this
  have HBZ : Hid (Blk (X2.setCells w.heap.size 0 zs) w.heap.size 45 zs.toArray) := zh (jG HD2.out (by rw [hzs]; rfl))
  have HSZ := zh (HS2.out.frm hfc (fun k hk e => by subst e; exact HS2.out.apart HD2.out (by decide) hk))
  have HTZ := zh (HT2.out.other hfc (fun k e _ => by subst e; exact ⟨_, _, HD2.out, by decide⟩))
  have HFZ : Hid (FT tabT B w (X2.setCells w.heap.size 0 zs)) := zh (Frm.trans' (((FT.of_fresh HFX.out).trans HFT.out).trans (FT.of_fresh HF2.out)) hfc (fun k hk e => by omega))
  clear hs2 f2 hzs hfc
  go_wp2_with (refine zd rfl 45 (.tmp 6) (.tmp 27) rfl w.heap.size 0 zs.toArray rfl (by rw [HZS.out]; rfl) HTH.out HZJ.out HZO.out ?_)
  refine zi (v := .agg zs.toArray) (results_cell_row Tryz.results9 _ _ w.heap.size _ zs.toArray _ _ rfl HBZ.out Tryz.underlying45 rfl HZJ.out) rfl ?_
  rw [← HSP.out]
  exact ⟨NA, nc, by rw [HZS.out], HSZ.out, HTZ.out, HFZ.out⟩
 ·have d4 : (kd == 4) = false := by simpa using k4
  have HAP := zh (by have h := HCALL.out; rwa [zk k4] at h)
  go_wp2_with fail
  refine HAP.out.mono ?_
  rintro e X ⟨zt, rfl, hz, hts, fx⟩
  have HDX := zh (fx.blk HDV.out (by decide))
  have HTX := zh hts
  have HFT := zh fx
  have HAN : Hid (Calls Tryz.prog 23 #[.agg zt.toArray] X fun e w' => OwnB X (toldB sp.2.2) e w') := zh (by
   obtain ⟨A', c', rfl, hsl⟩ := hz
   have hb := HTDB.out
   unfold tcel
   exact answer19_any X _ _ _ A' c' _ hsl.rd (by have := hb.reply; omega) (by have := hb.code; omega) (by have := hb.client; omega) (by have := hb.seq; omega))
  clear hz hts fx
  go_wp2_with fail
  refine HAN.out.mono ?_
  rintro e X2 ⟨v2, rfl, hs2, f2⟩
  obtain ⟨NA, nc, rfl, _⟩ := hs2.shape
  have HS2 := zh (hs2.less (show w.heap.size ≤ X.heap.size by have h1 := HFX.out.size; have h2 := Frm.size HFT.out; omega))
  have HF2 := zh f2
  have HD2 := zh (HDX.out.frm HF2.out (fun f => f))
  have HT2 := zh (HTX.out.fresh HF2.out)
  obtain ⟨zs, hzs⟩ : ∃ zs : List Value, zs = [.int .i64 token, .int .i64 0, .int .i64 0, .slice NA (toldB sp.2.2).length nc] := ⟨_, rfl⟩
  have HZS := zh hzs
  have HTH : Hid (X2.there w.heap.size 0 zs.toArray.size) := zh (by rw [hzs]; exact HD2.out.there rfl)
  have HZJ : Hid ((Tryz.prog.info? 45).map (·.size) = some zs.toArray.size) := zh (by rw [hzs]; kernel_rfl)
  have HZO : Hid (zs.toArray.all (·.oneCell') = true) := zh (by rw [hzs]; kernel_rfl)
  have hfc : Frm (fun k => k = w.heap.size) X2 (X2.setCells w.heap.size 0 zs) := by
   have := jE w.heap.size zs 0 X2
   have e : (fun k => w.heap.size = k) = (fun k => k = w.heap.size) := by funext k; exact propext eq_comm
   rwa [e] at this
  have HBZ : Hid (Blk (X2.setCells w.heap.size 0 zs) w.heap.size 45 zs.toArray) := zh (jG HD2.out (by rw [hzs]; rfl))
  have HSZ := zh (HS2.out.frm hfc (fun k hk e => by subst e; exact HS2.out.apart HD2.out (by decide) hk))
  have HTZ := zh (HT2.out.other hfc (fun k e _ => by subst e; exact ⟨_, _, HD2.out, by decide⟩))
  have HFZ : Hid (FT tabT B w (X2.setCells w.heap.size 0 zs)) := zh (Frm.trans' (((FT.of_fresh HFX.out).trans HFT.out).trans (FT.of_fresh HF2.out)) hfc (fun k hk e => by omega))
  clear hs2 f2 hzs hfc
  go_wp2_with (refine zd rfl 45 (.tmp 6) (.tmp 33) rfl w.heap.size 0 zs.toArray rfl (by rw [HZS.out]; rfl) HTH.out HZJ.out HZO.out ?_)
  refine zi (v := .agg zs.toArray) (results_cell_row Tryz.results9 _ _ w.heap.size _ zs.toArray _ _ rfl HBZ.out Tryz.underlying45 rfl HZJ.out) rfl ?_
  rw [← HSP.out]
  exact ⟨NA, nc, by rw [HZS.out], HSZ.out, HTZ.out, HFZ.out⟩
end
section
open Go.RowKit
def isShow (cmd : List UInt8) : Bool := decide ((decA cmd).2 = 0) && ((decA cmd).1.kind == 9)
def reqC (cmds : List (List UInt8)) (k : Nat) (x : CSt) : Rq :=
 if x.num = 0 then ⟨1, 0, 0, 3, []⟩
 else if isShow (cmds.getD k []) = true then ⟨4, 0, 0, 0, cmds.getD k []⟩ else ⟨2, (x.num : Int), (x.seq : Int), 0, cmds.getD k []⟩
def RqPost (w : World) (rq : Rq) (e : Ending) (w' : World) : Prop := ∃ A c, e = .returned (.agg (rcel rq A c).toArray) ∧ bsE w' ⟨A, c, rq.cmd⟩ ∧ Fresh w w' ∧ (rq.kind = 1 → A = none ∧ c = 0)
def lenB (m : BsM) : List UInt8 := m.b
theorem cmd_at {ks : List BsM} {k : Nat} (h : k < ks.length) : (ks.map lenB).getD k [] = ks[k].b := by simp [List.getD, h, lenB]
theorem request_c (w : World) (B : Nat) (L : CL) (l : List Int) (ks rs : List BsM) (x : CSt) (op : List Int) (h : Cc w B L l ks rs x op) (hk : x.num = 0 ∨ rs.length < ks.length) (h4 : ∀ m ∈ ks, m.b.length ≤ 4000) :
 Calls Tryz.prog 21 #[.pointer (some ⟨L.b, 0, none⟩)] w fun e w' => RqPost w (reqC (ks.map lenB) rs.length x) e w' := by
 obtain ⟨W, hW⟩ : ∃ W, w.alloc (.cells #[.int .i64 0, .int .i64 0, .int .i64 0, .int .i64 0, .slice none 0 0] 67) = W := ⟨_, rfl⟩
 have HFW : Hid (Fresh w W) := zh (by rw [← hW]; exact jC _ _)
 have HRS : Hid (Blk W w.heap.size 67 #[.int .i64 0, .int .i64 0, .int .i64 0, .int .i64 0, .slice none 0 0]) := zh (by rw [← hW]; exact Blk.new _ _ _)
 have HC := zh (h.fresh HFW.out)
 have y0 : W.cell? ⟨L.b, 0, none⟩ = some (.int .i64 3) := HC.out.blk.cell 0
 have y5 : W.cell? ⟨L.b, 5, none⟩ = some (.int .i64 (x.num : Int)) := HC.out.blk.cell 5
 by_cases hn : x.num = 0
 ·have HV : Hid (reqC (ks.map lenB) rs.length x = ⟨1, 0, 0, 3, []⟩) := zh (by unfold reqC; rw [zl hn])
  rw [hn] at y5
  clear h hk
  go_in
  go_upto_region 1 with fail
  try rw [hW]
  clear hW
  obtain ⟨zs, hzs⟩ : ∃ z : List Value, z = rcel ⟨1, 0, 0, 3, []⟩ none 0 := ⟨_, rfl⟩
  have HZS := zh hzs
  have HTH : Hid ((W).there w.heap.size 0 zs.toArray.size) := zh (by rw [hzs]; exact HRS.out.there rfl)
  have HZJ : Hid ((Tryz.prog.info? 67).map (·.size) = some zs.toArray.size) := zh (by rw [hzs]; kernel_rfl)
  have HZO : Hid (zs.toArray.all (·.oneCell') = true) := zh (by rw [hzs]; kernel_rfl)
  have hfc : Frm (fun k => k = w.heap.size) (W) ((W).setCells w.heap.size 0 zs) := by
   have := jE w.heap.size zs 0 (W)
   have e : (fun k => w.heap.size = k) = (fun k => k = w.heap.size) := by funext k; exact propext eq_comm
   rwa [e] at this
  have HBZ : Hid (Blk ((W).setCells w.heap.size 0 zs) w.heap.size 67 zs.toArray) := zh (jG HRS.out (by rw [hzs]; rfl))
  have HFC := zh hfc
  clear hfc hzs
  go_wp2_with (refine zd rfl 67 (.tmp 2) (.tmp 15) rfl w.heap.size 0 zs.toArray rfl (by rw [HZS.out]; rfl) HTH.out HZJ.out HZO.out ?_)
  refine zi (v := .agg zs.toArray) (results_cell_row Tryz.results21 _ _ w.heap.size _ zs.toArray _ _ rfl HBZ.out Tryz.underlying67 rfl HZJ.out) rfl ?_
  rw [HV.out]
  exact ⟨_, _, by rw [HZS.out], (show bsE W ⟨none, 0, []⟩ from Sl.nil _ _ _ _).frm HFC.out (fun k cs hb e => by subst e; exact hb.apart HRS.out (by decide) rfl), (HFW.out).trans' HFC.out (fun k hk e => by omega), fun _ => ⟨rfl, rfl⟩⟩
 ·have hkl : rs.length < ks.length := by rcases hk with e | e; exact absurd e hn; exact e
  have hn1 : ((x.num : Int) == 0) = false := by rw [zC]; omega
  have hn2 : ¬ ((x.num : Int) = 0) := by omega
  have y2 : W.cell? ⟨L.b, 2, none⟩ = some (.slice L.KA ks.length L.kc) := HC.out.blk.cell 2
  have y9 : W.cell? ⟨L.b, 9, none⟩ = some (.slice L.RA rs.length L.rc) := HC.out.blk.cell 9
  obtain ⟨bK, oK, hKA, _, hcK⟩ := HC.out.ksl.rd.at_ (k := rs.length) (by simpa using hkl)
  rw [List.getElem_map] at hcK
  have hm4 := h4 _ (ze hkl)
  have HMB := zh (HC.out.kel _ (ze hkl))
  have HV : Hid (reqC (ks.map lenB) rs.length x = if isShow ks[rs.length].b = true then ⟨4, 0, 0, 0, ks[rs.length].b⟩ else ⟨2, (x.num : Int), (x.seq : Int), 0, ks[rs.length].b⟩) := zh (by unfold reqC; rw [zk hn, cmd_at hkl])
  generalize ks[rs.length] = m at hcK hm4 HMB HV
  obtain ⟨mA, mc, mb⟩ := m
  unfold BsM.v at hcK
  dsimp only at hcK hm4 HV
  have HKL : Hid ((rs.length : Int) < (ks.length : Int)) := zh (by omega)
  have hkli := HKL.out
  rw [hKA] at y2
  generalize ks.length = kn at y2 hkli hkl
  have hr0 : (0 : Int) ≤ (rs.length : Int) := by omega
  generalize rs.length = rn at y9 hcK hkli hr0 hkl HV
  clear h hk
  go_in
  go_upto_region 1 with fail
  try rw [hW]
  clear hW
  go_upto_region 4 with (first | go_region | fail)
  obtain ⟨X, hX⟩ : ∃ X, W.drew = X := ⟨_, rfl⟩
  rw [hX]
  have HFX : Hid (Fresh W X) := zh (by rw [← hX]; exact (za _ W).drew)
  have HCX := zh (HC.out.fresh HFX.out)
  have HRX := zh (HRS.out.frm HFX.out (fun f => f))
  have HMX := zh (HMB.out.fresh HFX.out)
  have HDE : Hid (Calls Tryz.prog 38 #[.slice mA mb.length mc] X fun e w' => CmdPost X mb e w') := zh (by
   obtain ⟨A', c', e, q1, q2, _⟩ := Sl.shape HMX.out
   injection e with e1 _ e3
   dsimp only at e1 e3 q1
   subst e1 e3
   exact pDecode_any X _ _ mb (Sl.rd HMX.out) (by omega) q1 q2)
  clear hX y0 y2 y5 y9 hcK
  go_wp2_with fail
  refine HDE.out.mono ?_
  rintro e X9 ⟨cm, code, GA, gc, PA, pc, hde, rfl, hcl, f9⟩
  have HF9 := zh f9
  have HDEC := zh hde
  obtain ⟨cy, hcy⟩ : ∃ x, x = ccel cm GA gc PA pc := ⟨_, rfl⟩
  have HCY := zh hcy
  rw [← hcy]
  obtain ⟨Ua, hUa⟩ : ∃ U, X9.alloc (.cells #[.int .i64 0, .string ⟨#[]⟩, .int .i64 0, .int .i64 0, .int .i64 0, .int .i64 0, .float .f64 0, .string ⟨#[]⟩, .int .i64 0, .slice none 0 0, .slice none 0 0] 95) = U := ⟨_, rfl⟩
  have HBa : Hid (Blk Ua X9.heap.size 95 #[.int .i64 0, .string ⟨#[]⟩, .int .i64 0, .int .i64 0, .int .i64 0, .int .i64 0, .float .f64 0, .string ⟨#[]⟩, .int .i64 0, .slice none 0 0, .slice none 0 0]) := zh (by rw [← hUa]; exact Blk.new _ _ _)
  have HDJ : Hid ((Tryz.prog.info? 95).map (·.size) = some cy.toArray.size) := zh (by rw [hcy]; kernel_rfl)
  have HDO : Hid (cy.toArray.all (·.oneCell') = true) := zh (by rw [hcy]; kernel_rfl)
  have HTHa : Hid (Ua.there X9.heap.size 0 cy.toArray.size) := zh (by rw [hcy]; exact HBa.out.there rfl)
  obtain ⟨Y, hY⟩ : ∃ Y, Ua.setCells X9.heap.size 0 cy = Y := ⟨_, rfl⟩
  have HFY : Hid (Fresh X9 Y) := zh (by rw [← hY, ← hUa]; exact (jC _ _).trans' (jE X9.heap.size cy 0 _) (fun k hk e => by omega))
  have hBY : Blk Y X9.heap.size 95 cy.toArray := by rw [← hY]; exact jG HBa.out (by rw [hcy]; rfl)
  have yk : Y.cell? ⟨X9.heap.size, 0, none⟩ = some (.int .i64 cm.kind) := by rw [hBY.cell 0, hcy]; rfl
  have HFXY : Hid (Fresh X Y) := zh (HF9.out.trans HFY.out)
  have HCZ := zh (HCX.out.fresh HFXY.out)
  have HRZ := zh (HRX.out.frm HFXY.out (fun f => f))
  have HMZ := zh (HMX.out.fresh HFXY.out)
  have HFF : Hid (Fresh w Y) := zh ((HFW.out.trans HFX.out).trans HFXY.out)
  clear hcl f9 hde hcy HDE hBY
  go_upto_region 5 with (first | (refine zd rfl 95 (.tmp 4) (.tmp 30) rfl X9.heap.size 0 cy.toArray rfl rfl HTHa.out HDJ.out HDO.out ?_) | (rw [hUa]; refine zd rfl 95 (.tmp 4) (.tmp 30) rfl X9.heap.size 0 cy.toArray rfl rfl HTHa.out HDJ.out HDO.out ?_))
  try rw [hY]
  clear hY hUa HTHa HDJ HDO HBa
  generalize X9.heap.size = q2 at yk
  have HSH : Hid (isShow mb = (decide (code = 0) && (cm.kind == 9))) := zh (by unfold isShow; rw [HDEC.out])
  have hcode : code = 0 ∨ code = 6 := by have := decA_code mb; rw [HDEC.out] at this; exact this
  have p5 : Y.drew.cell? ⟨L.b, 5, none⟩ = some (.int .i64 (x.num : Int)) := HCZ.out.blk.cell 5
  have p6 : Y.drew.cell? ⟨L.b, 6, none⟩ = some (.int .i64 (x.seq : Int)) := HCZ.out.blk.cell 6
  rcases hcode with rfl | rfl
  ·by_cases h9 : cm.kind = 9
   ·have HV2 : Hid (reqC (ks.map lenB) rn x = ⟨4, 0, 0, 0, mb⟩) := zh (by rw [HV.out, zl (by rw [HSH.out, h9]; rfl)])
    rw [h9] at yk
    obtain ⟨zs, hzs⟩ : ∃ z : List Value, z = rcel ⟨4, 0, 0, 0, mb⟩ mA mc := ⟨_, rfl⟩
    have HZS := zh hzs
    have HTH : Hid ((Y).there w.heap.size 0 zs.toArray.size) := zh (by rw [hzs]; exact HRZ.out.there rfl)
    have HZJ : Hid ((Tryz.prog.info? 67).map (·.size) = some zs.toArray.size) := zh (by rw [hzs]; kernel_rfl)
    have HZO : Hid (zs.toArray.all (·.oneCell') = true) := zh (by rw [hzs]; kernel_rfl)
    have hfc : Frm (fun k => k = w.heap.size) (Y) ((Y).setCells w.heap.size 0 zs) := by
     have := jE w.heap.size zs 0 (Y)
     have e : (fun k => w.heap.size = k) = (fun k => k = w.heap.size) := by funext k; exact propext eq_comm
     rwa [e] at this
    have HBZ : Hid (Blk ((Y).setCells w.heap.size 0 zs) w.heap.size 67 zs.toArray) := zh (jG HRZ.out (by rw [hzs]; rfl))
    have HFC := zh hfc
    clear hfc hzs
    go_wp2_with (refine zd rfl 67 (.tmp 2) (.tmp 40) rfl w.heap.size 0 zs.toArray rfl (by rw [HZS.out]; rfl) HTH.out HZJ.out HZO.out ?_)
    refine zi (v := .agg zs.toArray) (results_cell_row Tryz.results21 _ _ w.heap.size _ zs.toArray _ _ rfl HBZ.out Tryz.underlying67 rfl HZJ.out) rfl ?_
    rw [HV2.out]
    exact ⟨_, _, by rw [HZS.out], (HMZ.out).frm HFC.out (fun k cs hb e => by subst e; exact hb.apart HRZ.out (by decide) rfl), (HFF.out).trans' HFC.out (fun k hk e => by omega), fun h => absurd h (show ¬ ((4 : Int) = 1) by decide)⟩
   ·have d9 : (cm.kind == 9) = false := by simpa using h9
    have HV2 : Hid (reqC (ks.map lenB) rn x = ⟨2, (x.num : Int), (x.seq : Int), 0, mb⟩) := zh (by rw [HV.out, zk (by rw [HSH.out, d9]; simp)])
    obtain ⟨zs, hzs⟩ : ∃ z : List Value, z = rcel ⟨2, (x.num : Int), (x.seq : Int), 0, mb⟩ mA mc := ⟨_, rfl⟩
    have HZS := zh hzs
    have HTH : Hid ((Y.drew).there w.heap.size 0 zs.toArray.size) := zh (by rw [hzs]; exact (show Blk Y.drew w.heap.size 67 #[.int .i64 0, .int .i64 0, .int .i64 0, .int .i64 0, .slice none 0 0] from HRZ.out).there rfl)
    have HZJ : Hid ((Tryz.prog.info? 67).map (·.size) = some zs.toArray.size) := zh (by rw [hzs]; kernel_rfl)
    have HZO : Hid (zs.toArray.all (·.oneCell') = true) := zh (by rw [hzs]; kernel_rfl)
    have hfc : Frm (fun k => k = w.heap.size) (Y.drew) ((Y.drew).setCells w.heap.size 0 zs) := by
     have := jE w.heap.size zs 0 (Y.drew)
     have e : (fun k => w.heap.size = k) = (fun k => k = w.heap.size) := by funext k; exact propext eq_comm
     rwa [e] at this
    have HBZ : Hid (Blk ((Y.drew).setCells w.heap.size 0 zs) w.heap.size 67 zs.toArray) := zh (jG (show Blk Y.drew w.heap.size 67 #[.int .i64 0, .int .i64 0, .int .i64 0, .int .i64 0, .slice none 0 0] from HRZ.out) (by rw [hzs]; rfl))
    have HFC := zh hfc
    clear hfc hzs
    have HCS : Hid ((Y.drew.setCells w.heap.size 0 zs).cell? ⟨L.b, 5, none⟩ = some (.int .i64 (x.num : Int)) ∧ (Y.drew.setCells w.heap.size 0 zs).cell? ⟨L.b, 6, none⟩ = some (.int .i64 (x.seq : Int))) := zh (by have k := HCZ.out.blk.frm ((za (fun _ => False) Y).drew) (fun f => f); have k2 := k.frm HFC.out (k.apart (show Blk Y.drew w.heap.size 67 #[.int .i64 0, .int .i64 0, .int .i64 0, .int .i64 0, .slice none 0 0] from HRZ.out) (by decide)); exact ⟨k2.cell 5, k2.cell 6⟩)
    go_upto_region 7 with fail
    refine zj (S := (fun w' => w'.cell? ⟨L.b, 5, none⟩ = some (.int .i64 (x.num : Int)) ∧ w'.cell? ⟨L.b, 6, none⟩ = some (.int .i64 (x.seq : Int)))) (by kernel_rfl) (⟨p5, p6⟩) (fun hHeld => ?_)
    iterate 10 ((first | refine ztn (v := ?_) (zo rfl) ?_ | refine ztz (v := ?_) (zo rfl) ?_); try simp only [Act.put, zT, zZ, zS])
    refine zr1 10 (zo rfl) (fun K hK => ?_)
    rw [zl (by rfl)]
    refine wp_store_mid 67 (.tmp 2) (.tmp 50) rfl w.heap.size 0 zs.toArray (by simp [Act.eval, Act.put]) (by rw [HZS.out]; simp [Act.eval, Act.put, rcel]) HTH.out HZJ.out HZO.out ?_
    refine hK.out _ _ (HCS.out) (fun hHeld => ?_)
    clear hK K
    try simp only [Act.put, zT, zZ, zS]
    refine wpAnyH_done (by kernel_rfl) ?_ _
    go_wp2_with fail
    refine zi (v := .agg zs.toArray) (results_cell_row Tryz.results21 _ _ w.heap.size _ zs.toArray _ _ rfl HBZ.out Tryz.underlying67 rfl HZJ.out) rfl ?_
    rw [HV2.out]
    exact ⟨_, _, by rw [HZS.out], ((show bsE Y.drew ⟨mA, mc, mb⟩ from HMZ.out)).frm HFC.out (fun k cs hb e => by subst e; exact hb.apart (show Blk Y.drew w.heap.size 67 #[.int .i64 0, .int .i64 0, .int .i64 0, .int .i64 0, .slice none 0 0] from HRZ.out) (by decide) rfl), (HFF.out.drew).trans' HFC.out (fun k hk e => by omega), fun h => absurd h (show ¬ ((2 : Int) = 1) by decide)⟩
  ·have HV2 : Hid (reqC (ks.map lenB) rn x = ⟨2, (x.num : Int), (x.seq : Int), 0, mb⟩) := zh (by rw [HV.out, zk (by rw [HSH.out]; simp)])
   obtain ⟨zs, hzs⟩ : ∃ z : List Value, z = rcel ⟨2, (x.num : Int), (x.seq : Int), 0, mb⟩ mA mc := ⟨_, rfl⟩
   have HZS := zh hzs
   have HTH : Hid ((Y.drew).there w.heap.size 0 zs.toArray.size) := zh (by rw [hzs]; exact (show Blk Y.drew w.heap.size 67 #[.int .i64 0, .int .i64 0, .int .i64 0, .int .i64 0, .slice none 0 0] from HRZ.out).there rfl)
   have HZJ : Hid ((Tryz.prog.info? 67).map (·.size) = some zs.toArray.size) := zh (by rw [hzs]; kernel_rfl)
   have HZO : Hid (zs.toArray.all (·.oneCell') = true) := zh (by rw [hzs]; kernel_rfl)
   have hfc : Frm (fun k => k = w.heap.size) (Y.drew) ((Y.drew).setCells w.heap.size 0 zs) := by
    have := jE w.heap.size zs 0 (Y.drew)
    have e : (fun k => w.heap.size = k) = (fun k => k = w.heap.size) := by funext k; exact propext eq_comm
    rwa [e] at this
   have HBZ : Hid (Blk ((Y.drew).setCells w.heap.size 0 zs) w.heap.size 67 zs.toArray) := zh (jG (show Blk Y.drew w.heap.size 67 #[.int .i64 0, .int .i64 0, .int .i64 0, .int .i64 0, .slice none 0 0] from HRZ.out) (by rw [hzs]; rfl))
   have HFC := zh hfc
   clear hfc hzs
   have HCS : Hid ((Y.drew.setCells w.heap.size 0 zs).cell? ⟨L.b, 5, none⟩ = some (.int .i64 (x.num : Int)) ∧ (Y.drew.setCells w.heap.size 0 zs).cell? ⟨L.b, 6, none⟩ = some (.int .i64 (x.seq : Int))) := zh (by have k := HCZ.out.blk.frm ((za (fun _ => False) Y).drew) (fun f => f); have k2 := k.frm HFC.out (k.apart (show Blk Y.drew w.heap.size 67 #[.int .i64 0, .int .i64 0, .int .i64 0, .int .i64 0, .slice none 0 0] from HRZ.out) (by decide)); exact ⟨k2.cell 5, k2.cell 6⟩)
   go_upto_region 7 with fail
   refine zj (S := (fun w' => w'.cell? ⟨L.b, 5, none⟩ = some (.int .i64 (x.num : Int)) ∧ w'.cell? ⟨L.b, 6, none⟩ = some (.int .i64 (x.seq : Int)))) (by kernel_rfl) (⟨p5, p6⟩) (fun hHeld => ?_)
   iterate 10 ((first | refine ztn (v := ?_) (zo rfl) ?_ | refine ztz (v := ?_) (zo rfl) ?_); try simp only [Act.put, zT, zZ, zS])
   refine zr1 10 (zo rfl) (fun K hK => ?_)
   rw [zl (by rfl)]
   refine wp_store_mid 67 (.tmp 2) (.tmp 50) rfl w.heap.size 0 zs.toArray (by simp [Act.eval, Act.put]) (by rw [HZS.out]; simp [Act.eval, Act.put, rcel]) HTH.out HZJ.out HZO.out ?_
   refine hK.out _ _ (HCS.out) (fun hHeld => ?_)
   clear hK K
   try simp only [Act.put, zT, zZ, zS]
   refine wpAnyH_done (by kernel_rfl) ?_ _
   go_wp2_with fail
   refine zi (v := .agg zs.toArray) (results_cell_row Tryz.results21 _ _ w.heap.size _ zs.toArray _ _ rfl HBZ.out Tryz.underlying67 rfl HZJ.out) rfl ?_
   rw [HV2.out]
   exact ⟨_, _, by rw [HZS.out], ((show bsE Y.drew ⟨mA, mc, mb⟩ from HMZ.out)).frm HFC.out (fun k cs hb e => by subst e; exact hb.apart (show Blk Y.drew w.heap.size 67 #[.int .i64 0, .int .i64 0, .int .i64 0, .int .i64 0, .slice none 0 0] from HRZ.out) (by decide) rfl), (HFF.out.drew).trans' HFC.out (fun k hk e => by omega), fun h => absurd h (show ¬ ((2 : Int) = 1) by decide)⟩
def encRq (rq : Rq) : List UInt8 := numsB [rq.kind, rq.client, rq.seq, rq.token] ++ FieldM.text rq.cmd
theorem codes_nums (a b c d : Nat) : codes [a, b, c, d] = numsB [(a : Int), (b : Int), (c : Int), (d : Int)] := by unfold codes numsB; simp
structure CWf (x : CSt) : Prop where
 num : x.num ≤ 1
 seq : 1 ≤ x.seq ∧ x.seq ≤ 1000
 gv : x.gv ≤ 10000
 wt : x.wt ≤ 10
def EncP (w : World) (bs : List UInt8) (e : Ending) (w' : World) : Prop := ∃ v, e = .returned (.tuple #[v, .int .i64 0]) ∧ Sl w' w.heap.size 5 1 v bs.length (bs.map bv) ∧ Fresh w w'
theorem encReq_c (w : World) (cmds : List (List UInt8)) (k : Nat) (x : CSt) (hx : CWf x) (A : Option Addr) (c : Nat) (hs : bsE w ⟨A, c, (reqC cmds k x).cmd⟩) (h4 : (cmds.getD k []).length ≤ 4000) (h1 : (reqC cmds k x).kind = 1 → A = none ∧ c = 0) :
 Calls Tryz.prog 20 #[.agg (rcel (reqC cmds k x) A c).toArray] w fun e w' => EncP w (encRq (reqC cmds k x)) e w' := by
 unfold reqC at hs h1 ⊢
 split
 ·rename_i hn
  rw [zl hn] at h1
  obtain ⟨rfl, rfl⟩ := h1 rfl
  refine (encode_begin w 3 (by omega)).mono ?_
  rintro e w' ⟨v, bs, he, rfl, h2, h3⟩
  rw [codes_nums] at h2
  exact ⟨v, he, h2, h3⟩
 ·rename_i hn
  rw [zk hn] at hs
  split
  ·rename_i hh
   rw [zl hh] at hs
   refine (encode_any w 4 0 0 0 (by omega) A c (cmds.getD k []) h4 (Sl.rd hs) (fun w => pRight_look w A _ c h4)).mono ?_
   rintro e w' ⟨v, bs, he, rfl, h2, h3⟩
   rw [codes_nums] at h2
   exact ⟨v, he, h2, h3⟩
  ·rename_i hh
   rw [zk hh] at hs
   have e1 : x.num = 1 := by have := hx.num; omega
   rw [e1]
   refine (encode_any w 2 1 x.seq 0 (by have := hx.seq; omega) A c (cmds.getD k []) h4 (Sl.rd hs) (fun w => pRight_do w x.seq hx.seq.1 (by have := hx.seq; omega) A _ c h4)).mono ?_
   rintro e w' ⟨v, bs, he, rfl, h2, h3⟩
   rw [codes_nums] at h2
   exact ⟨v, he, h2, h3⟩
def WantP (w : World) (B : Nat) (L : CL) (l : List Int) (ks rs : List BsM) (x : CSt) (op : List Int) (bs : List UInt8) (e : Ending) (w' : World) : Prop :=
 ∃ v, e = .returned (.tuple #[.int .i64 (atK l x.a), .int .i64 (3145728 + (x.gv : Int)), v, .bool true]) ∧ Sl w' w.heap.size 5 1 v bs.length (bs.map bv) ∧ Cc w' B L l ks rs { x with gv := x.gv + 1 } ((3145728 + (x.gv : Int)) :: op) ∧ Frm (CS L rs.length) w w'
theorem want_over (w : World) (B : Nat) (L : CL) (l : List Int) (ks rs : List BsM) (x : CSt) (op : List Int) (h : Cc w B L l ks rs x op) (ho : x.over = true) :
 Calls Tryz.prog 8 #[.pointer (some ⟨L.b, 0, none⟩)] w fun e w' => e = .returned (.tuple #[.int .i64 0, .int .i64 0, .slice none 0 0, .bool false]) ∧ w' = w := by
 have p10 : w.cell? ⟨L.b, 10, none⟩ = some (.bool true) := by rw [← ho]; exact h.blk.cell 10
 clear h
 go_in
 go_wp2_with fail
 exact zi (v := .tuple #[.int .i64 0, .int .i64 0, .slice none 0 0, .bool false]) (by simp [results, Tryz.results8, go_sem]) rfl ⟨rfl, rfl⟩
theorem want_c (w : World) (B : Nat) (L : CL) (l : List Int) (ks rs : List BsM) (x : CSt) (op : List Int) (h : Cc w B L l ks rs x op) (hx : CWf x) (hov : x.over = false) (hk : x.num = 0 ∨ rs.length < ks.length) (h4 : ∀ m ∈ ks, m.b.length ≤ 4000) :
 Calls Tryz.prog 8 #[.pointer (some ⟨L.b, 0, none⟩)] w fun e w' => WantP w B L l ks rs x op (encRq (reqC (ks.map lenB) rs.length x)) e w' := by
 have HC := zh h
 have HX := zh hx
 have hpos := h.pos
 have hg := hx.gv
 have HRE : Hid (reqC (ks.map lenB) rs.length { x with gv := x.gv + 1 } = reqC (ks.map lenB) rs.length x) := zh rfl
 have H4 : Hid (((ks.map lenB).getD rs.length []).length ≤ 4000) := zh (by
  rcases zL rs.length ks.length with e | e
  ·rw [cmd_at e]; exact h4 _ (ze e)
  ·simp [List.getD, e])
 obtain ⟨gv, hgv⟩ : ∃ gv, x.gv = gv := ⟨_, rfl⟩
 have HGV := zh hgv
 rw [hgv] at hg
 have c0 : ∀ n, (w.drewN n).cell? ⟨L.b, 0, none⟩ = some (.int .i64 3) := fun _ => h.blk.cell 0
 have c7 : ∀ n, (w.drewN n).cell? ⟨L.b, 7, none⟩ = some (.int .i64 (gv : Int)) := fun _ => by rw [← hgv]; exact h.blk.cell 7
 have p7 : w.cell? ⟨L.b, 7, none⟩ = some (.int .i64 (gv : Int)) := by rw [← hgv]; exact h.blk.cell 7
 have p10 : w.cell? ⟨L.b, 10, none⟩ = some (.bool false) := by rw [← hov]; exact h.blk.cell 10
 have K := Maps.int_keyed Tryz.underlying3
 have hw2 : IntKind.i64.wrap ((3145728 : Int) + (gv : Int)) = (3145728 : Int) + (gv : Int) := zm _ (by omega)
 have hg1 : ¬ (1048576 : Int) ≤ (gv : Int) := by omega
 have hg2 : (0 : Int) ≤ (gv : Int) := by omega
 have hg3 : (gv : Int) ≤ 10000 := by omega
 have HKEY : Hid (keyOf Tryz.prog 3 (.int .i64 ((3145728 : Int) + (gv : Int))) = some (.int .i64 ((3145728 : Int) + (gv : Int)))) := zh (Maps.keyOf_int_mk Tryz.underlying3 (by
  have : -9223372036854775808 ≤ (3145728 : Int) + (gv : Int) ∧ (3145728 : Int) + (gv : Int) ≤ 9223372036854775807 := by omega
  simpa [Lit.wf, IntKind.min, IntKind.max, IntKind.signed, IntKind.bits] using this))
 clear h hx hgv
 go_in
 go_wp2_with fail
 go_quiet (fail)
 rename_i nq
 obtain ⟨w1, hw1'⟩ : ∃ w1, w.drewN nq = w1 := ⟨_, rfl⟩
 rw [hw1']
 have HC1 : Hid (Cc w1 B L l ks rs x op) := zh (by rw [← hw1']; exact HC.out.fresh ((za _ w).drewN nq))
 have HF1 : Hid (Fresh w w1) := zh (by rw [← hw1']; exact (za _ w).drewN nq)
 clear hw1' hw2 c0 c7 p7 p10
 have p7 : w1.cell? ⟨L.b, 7, none⟩ = some (.int .i64 (gv : Int)) := by rw [← HGV.out]; exact HC1.out.blk.cell 7
 have z7 := HC1.out.blk.frozen 7
 obtain ⟨w2, hw2⟩ : ∃ w2, w2 = w1.setCell ⟨L.b, 7, none⟩ (.int .i64 ((gv : Int) + 1)) := ⟨_, rfl⟩
 have HC2 : Hid (Cc w2 B L l ks rs { x with gv := x.gv + 1 } op) := zh (by rw [hw2]; exact HC1.out.set (i := 7) (by rw [← HGV.out]; rfl) hpos (by dsimp only; omega))
 have HF2 : Hid (Frm (CS L rs.length) w w2) := zh (by rw [hw2]; exact (Fresh.frm HF1.out).trans (Cc.setF _ _ _))
 have q8 : w2.cell? ⟨L.b, 8, none⟩ = some (.map (some L.mb)) := HC2.out.blk.cell 8
 rw [hw2] at q8
 have HN : Hid (∃ m, ∃ D' : DU, w2.ownsMap Tryz.prog 3 (plainElem Tryz.prog 4) L.mb m D' ∧ m ≤ gv ∧ ∀ z : Int, D'.atKey (.int .i64 z) (.lit (.bool false)) = .lit (.bool (op.contains z))) := zh (by
  obtain ⟨n0, D0, h0, hn0, hD0⟩ := HC1.out.om
  refine ⟨n0, D0, ?_, by rw [← HGV.out]; exact hn0, hD0⟩
  rw [hw2]
  exact OM.frm h0 (Frm.setCell (za (fun k => k = L.b) w1) (p := ⟨L.b, 7, none⟩) (fun _ => rfl) _) HC1.out.ne)
 obtain ⟨m, D', ho, hm, hD⟩ := HN.out
 rw [hw2] at ho
 have HO := zh ho
 have HD := zh hD
 have hmax : m < maxLen := by unfold maxLen; omega
 clear ho hD
 go_wp2_with (at_mapUpdate; refine wpList_mapUpdate_own _ rfl _ _ _ 55 rfl 3 4 K Tryz.underlying55 _ L.mb m D' rfl HO.out hmax _ _ _ rfl rfl HKEY.out (.lit (.bool true)) [] (plainElem_bool Tryz.underlying4 true) ?_; rw [← hw2]; intro w3 om3 g3)
 have F3 : Frm (fun k => some L.mb = some k) w2 w3 := Frm.of_grown g3
 have hb2 := HC2.out
 have HC3 : Hid (Cc w3 B L l ks rs { x with gv := x.gv + 1 } ((3145728 + (gv : Int)) :: op)) := zh (by
  have hmn : ∀ {B' e size n : Nat} {v : Value} {xs : List Value}, Sl w2 B' e size v n xs → ∀ k, v.ownBlock = some k → ¬ (some L.mb = some k) := fun hs k hk e => hb2.own_m hs (by rw [e]; exact hk)
  refine ⟨hb2.blk.frm F3 (fun e => hb2.ne (zE e)), ⟨m + 1, _, om3, by dsimp only; rw [HGV.out]; omega, fun z => ?_⟩, hb2.sl.frm F3 (hmn hb2.sl), hb2.ksl.frm F3 (hmn hb2.ksl), fun m hm => (hb2.kel m hm).frm F3 (fun k cs hb e => ?_), hb2.rsl.frm F3 (hmn hb2.rsl), fun m hm => (hb2.rel m hm).frm F3 (fun k cs hb e => ?_), hb2.ap, hb2.bge, hb2.mge, hpos⟩
  ·by_cases hz : z = 3145728 + (gv : Int)
   ·subst hz
    rw [Go.Maps.atKey_put_same HO.out.isMap (show WideAt.IsKeyLit (.int .i64 (3145728 + (gv : Int))) from trivial)]
    simp
   ·rw [Go.Maps.atKey_put_other (by intro e; injection e with _ e2; exact hz e2), HD.out z]
    have e0 : (z == 3145728 + (gv : Int)) = false := by simpa using hz
    rw [List.contains_cons, e0, Bool.false_or]
  ·obtain ⟨n0, D0, h0, _⟩ := hb2.om
   exact OM.not_cells h0 hb (zE e)
  ·obtain ⟨n0, D0, h0, _⟩ := hb2.om
   exact OM.not_cells h0 hb (zE e))
 have HF3 : Hid (Frm (CS L rs.length) w w3) := zh (HF2.out.trans' F3 (fun k _ e => .inr (.inl (zE e).symm)))
 have HRQ := zh (request_c w3 B L l ks rs _ _ HC3.out hk h4)
 rw [HRE.out] at HRQ
 clear om3 g3 F3 q8 hw2 p7 z7 hb2 hk h4
 go_wp2_with fail
 refine HRQ.out.mono ?_
 rintro e w4 ⟨A4, c4, rfl, hbs, f4, hk1⟩
 have HC4 := zh (HC3.out.fresh f4)
 have HF4 := zh (HF3.out.trans (Fresh.frm f4))
 have HEN := zh (encReq_c w4 (ks.map lenB) rs.length x HX.out A4 c4 hbs H4.out hk1)
 clear f4 hbs hk1 HRQ
 obtain ⟨qz, hqz⟩ : ∃ z, z = (rcel (reqC (ks.map lenB) rs.length x) A4 c4).toArray := ⟨_, rfl⟩
 rw [← hqz] at HEN ⊢
 clear hqz
 go_wp2_with fail
 refine HEN.out.mono ?_
 rintro e w5 ⟨v5, rfl, hs5, f5⟩
 have HC5 := zh (HC4.out.fresh f5)
 have HF5 := zh (HF4.out.trans (Fresh.frm f5))
 have HS5 := zh (hs5.less HF4.out.size)
 obtain ⟨A5, c5, rfl, _⟩ := hs5.shape
 clear f5 hs5
 have r1 : ∀ n, (w5.drewN n).cell? ⟨L.b, 1, none⟩ = some (.slice L.A l.length L.nc) := fun _ => HC5.out.blk.cell 1
 have r3 : ∀ n, (w5.drewN n).cell? ⟨L.b, 3, none⟩ = some (.int .i64 (x.a : Int)) := fun _ => HC5.out.blk.cell 3
 obtain ⟨bA, oA, hLA, _, hcA⟩ := HC5.out.sl.rd.at_ (k := x.a) (by simpa using hpos)
 rw [List.getElem_map, ← atK_get hpos] at hcA
 rw [hLA] at r1
 have rA : ∀ n, (w5.drewN n).cell? ⟨bA, oA + x.a, none⟩ = some (.int .i64 (atK l x.a)) := fun _ => hcA
 have ha0 : (0 : Int) ≤ (x.a : Int) := by omega
 have ha1 : (x.a : Int) < (l.length : Int) := by omega
 have HTK : Hid ((3145728 : Int) + (x.gv : Int) = 3145728 + (gv : Int)) := zh (by rw [HGV.out])
 clear hcA
 go_wp2_with fail
 go_quiet (fail)
 go_wp2_with fail
 refine zi (v := .tuple #[.int .i64 (atK l x.a), .int .i64 ((3145728 : Int) + (gv : Int)), .slice A5 (encRq (reqC (ks.map lenB) rs.length x)).length c5, .bool true]) (by simp [results, Tryz.results8, go_sem]) rfl ?_
 unfold WantP
 rw [HTK.out]
 exact ⟨_, rfl, HS5.out.drewN _, HC5.out.fresh ((za _ w5).drewN _), HF5.out.drewN _⟩
end
section
open Go.RowKit ReadM
def tdS (s0 : RS) : Td × RS :=
 let a1 := rdn 1099511627776 s0
 let a2 := rdn 1099511627776 a1.2
 let a3 := rdn 1099511627776 a2.2
 let a4 := rdt 65536 a3.2
 (⟨(a1.1 : Int), (a2.1 : Int), (a3.1 : Int), a4.1⟩, a4.2)
def readT (bs : List UInt8) : Td × Int := if wholeS (tdS (bs, false)).2 = true then ((tdS (bs, false)).1, 0) else (⟨0, 0, 0, []⟩, 6)
structure T0 (w : World) (g : Nat) (s : RS) (wk : World) : Prop where
 rdr : RdrAt wk g g s.1 s.2
 len : s.1.length ≤ 1000000
 low : w.heap.size < g
 res : Blk wk w.heap.size 73 #[.int .i64 0, .int .i64 0, .int .i64 0, .slice none 0 0]
 frm : Fresh w wk
theorem T0.fresh {w wk w' : World} {g : Nat} {s : RS} (h : T0 w g s wk) (F : Fresh wk w') : T0 w g s w' :=
 ⟨h.rdr.frm F (fun f => f) (fun _ _ f => f), h.len, h.low, h.res.frm F (fun f => f), h.frm.trans F⟩
theorem T0.far {w wk w' : World} {g : Nat} {s : RS} {S : Nat → Prop} (h : T0 w g s wk) (F : Frm S wk w') (hS : ∀ k, S k → g < k) : T0 w g s w' := by
 have h2 := h.low
 exact ⟨h.rdr.frm F (fun e => by have := hS _ e; omega) (fun k hk e => by have := hS _ e; omega), h.len, h2, h.res.frm F (fun e => by have := hS _ e; omega), h.frm.trans' F (fun k hk e => by have := hS _ e; omega)⟩
theorem T0.read {w wk w' : World} {g : Nat} {s t : RS} (h : T0 w g s wk) (hr : RdrAt w' g g t.1 t.2) (hl : t.1.length ≤ s.1.length) (F : Frm (fun k => k = g) wk w') : T0 w g t w' := by
 have h2 := h.low
 exact ⟨hr, zp hl h.len, h2, h.res.frm F (by omega), h.frm.trans' F (fun k hk e => by omega)⟩
structure T1 (w : World) (g q : Nat) (s : RS) (cs : List Value) (wk : World) : Prop where
 d : T0 w g s wk
 gq : g < q
 box : Blk wk q 73 cs.toArray
theorem T1.read {w wk w' : World} {g q : Nat} {s t : RS} {cs : List Value} (h : T1 w g q s cs wk) (hr : RdrAt w' g g t.1 t.2) (hl : t.1.length ≤ s.1.length) (F : Frm (fun k => k = g) wk w') : T1 w g q t cs w' :=
 ⟨h.d.read hr hl F, h.gq, h.box.frm F (by have := h.gq; omega)⟩
theorem T1.set {w wk : World} {g q : Nat} {s : RS} {cs : List Value} (h : T1 w g q s cs wk) (i : Nat) (u : Value) : T1 w g q s (cs.set i u) (wk.setCell ⟨q, i, none⟩ u) := by
 have F : Frm (fun k => k = q) wk (wk.setCell ⟨q, i, none⟩ u) := (za (fun k => k = q) wk).setCell (p := ⟨q, i, none⟩) (fun _ => rfl) u
 refine ⟨h.d.far F (fun k e => by have := h.gq; omega), h.gq, ?_⟩
 have hb := h.box.set i u
 rw [List.setIfInBounds_toArray] at hb
 exact hb
theorem sNum_any (w : World) (g : Nat) (s : RS) (h : RdrAt w g g s.1 s.2) {x : Nat} {t : RS} (hx : rdn 1099511627776 s = (x, t)) :
 Calls Tryz.prog 74 #[.pointer (some ⟨g, 0, none⟩)] w fun e w' => RNum w g (.int .i64 (x : Int)) t e w' := by
 have hxm : x ≤ 1099511627776 := by have := rdn_le 1099511627776 s; rw [hx] at this; exact this
 have hw1 : IntKind.i64.wrap (x : Int) = (x : Int) := zm _ (by omega)
 have HP := zh (pNum w g s 1099511627776 (by omega) h)
 rw [hx] at HP
 clear h
 go_in
 go_wp2_with fail
 refine HP.out.mono ?_
 rintro e w2 ⟨rfl, hr, f⟩
 have HR := zh hr
 have HF := zh f
 clear hr f
 go_wp2_with fail
 go_ret
 exact ⟨rfl, HR.out, HF.out⟩
theorem T0.num {w wk : World} {g : Nat} {s : RS} (h : T0 w g s wk) {x : Nat} {t : RS} (hx : rdn 1099511627776 s = (x, t)) :
 Calls Tryz.prog 74 #[.pointer (some ⟨g, 0, none⟩)] wk fun e w' => e = .returned (.int .i64 (x : Int)) ∧ T0 w g t w' := by
 refine (sNum_any wk g s h.rdr hx).mono ?_
 rintro e w' ⟨h1, h2, h3⟩
 exact ⟨h1, h.read h2 (rdn_l hx) h3⟩
def ReadP (w : World) (bs : List UInt8) (e : Ending) (w' : World) : Prop := ∃ A c code d, readT bs = (d, code) ∧ e = .returned (.tuple #[.agg (tcel d A c).toArray, .int .i64 code]) ∧ Sl w' w.heap.size 5 1 (.slice A d.reply.length c) d.reply.length (d.reply.map bv) ∧ Fresh w w'
theorem sRead_any (w : World) (A : Option Addr) (cap : Nat) (bs : List UInt8) (hA : Rd w w.heap.size A (bs.map bv)) (hl : bs.length ≤ 1000000) (hc : bs.length ≤ cap) (hm : cap ≤ maxLen) :
 Calls Tryz.prog 51 #[.slice A bs.length cap] w fun e w' => ReadP w bs e w' := by
 obtain ⟨W0, hW0⟩ : ∃ W0, w.alloc (.cells #[.int .i64 0, .int .i64 0, .int .i64 0, .slice none 0 0] 73) = W0 := ⟨_, rfl⟩
 have HF0 : Hid (Fresh w W0) := zh (by rw [← hW0]; exact ((za _ w).alloc _))
 have HB0 : Hid (Blk W0 w.heap.size 73 #[.int .i64 0, .int .i64 0, .int .i64 0, .slice none 0 0]) := zh (by rw [← hW0]; exact (Blk.new w _ _))
 have HN := zh (rdr_new W0 W0.heap.size A cap bs ((hA.fresh (zf _) HF0.out).more HF0.out.size) (zf _) (by omega) hc hm)
 obtain ⟨⟨x1, s1⟩, h1⟩ : ∃ y, rdn 1099511627776 (bs, false) = y := ⟨_, rfl⟩
 obtain ⟨⟨x2, s2⟩, h2⟩ : ∃ y, rdn 1099511627776 s1 = y := ⟨_, rfl⟩
 obtain ⟨⟨x3, s3⟩, h3⟩ : ∃ y, rdn 1099511627776 s2 = y := ⟨_, rfl⟩
 obtain ⟨⟨x4, s4⟩, h4⟩ : ∃ y, rdt 65536 s3 = y := ⟨_, rfl⟩
 have HDS : Hid (tdS (bs, false) = (⟨(x1 : Int), (x2 : Int), (x3 : Int), x4⟩, s4)) := zh (by
  unfold tdS
  simp only [h1, h2, h3, h4])
 have H1 := zh h1
 have H2 := zh h2
 have H3 := zh h3
 have H4 := zh h4
 have HL4 : Hid (s4.1.length ≤ s3.1.length) := zh (by have := rdt_len 65536 s3; rw [h4] at this; exact this)
 clear hA h1 h2 h3 h4
 go_in
 go_upto_region 1 with fail
 try rw [hW0]
 clear hW0
 go_wp2_with fail
 refine HN.out.mono ?_
 rintro e w1 ⟨g, rfl, hr1, f1, hg1⟩
 have HD1 : Hid (T0 w g (bs, false) w1) := zh ⟨hr1, hl, by have := HB0.out.lt; omega, HB0.out.frm f1 (fun f => f), HF0.out.trans f1⟩
 clear hr1 f1 HN hg1
 go_wp2_with fail
 refine (HD1.out.num H1.out).mono ?_
 rintro e r1 ⟨rfl, ha⟩
 have HDa1 := zh ha
 clear ha
 go_wp2_with fail
 refine (HDa1.out.num H2.out).mono ?_
 rintro e r2 ⟨rfl, ha⟩
 have HDa2 := zh ha
 clear ha
 go_wp2_with fail
 refine (HDa2.out.num H3.out).mono ?_
 rintro e r3 ⟨rfl, ha⟩
 have HDa3 := zh ha
 obtain ⟨W5, hW5⟩ : ∃ W, r3.alloc (.cells #[.int .i64 0, .int .i64 0, .int .i64 0, .slice none 0 0] 73) = W := ⟨_, rfl⟩
 obtain ⟨q, hq⟩ : ∃ q, r3.heap.size = q := ⟨_, rfl⟩
 have HD5 : Hid (T0 w g s3 W5) := zh (by rw [← hW5]; exact ha.fresh ((za _ r3).alloc _))
 have HB5 : Hid (Blk W5 q 73 #[.int .i64 0, .int .i64 0, .int .i64 0, .slice none 0 0]) := zh (by rw [← hW5, ← hq]; exact Blk.new r3 _ _)
 have HGQ : Hid (g < q) := zh (by rw [← hq]; obtain ⟨_, hb⟩ := ha.rdr.blk; exact hb.lt)
 obtain ⟨zs, hzs⟩ : ∃ zs : List Value, zs = [.int .i64 (x1 : Int), .int .i64 (x2 : Int), .int .i64 (x3 : Int), .slice none 0 0] := ⟨_, rfl⟩
 have HTH : Hid (W5.there q 0 zs.toArray.size) := zh (by rw [hzs]; exact HB5.out.there rfl)
 have HI : Hid ((Tryz.prog.info? 73).map (·.size) = some zs.toArray.size) := zh (by rw [hzs]; kernel_rfl)
 have HO : Hid (zs.toArray.all (·.oneCell') = true) := zh (by rw [hzs]; kernel_rfl)
 have HZS := zh hzs
 obtain ⟨W, hW⟩ : ∃ W, W5.setCells q 0 zs.toArray.toList = W := ⟨_, rfl⟩
 have FW : Frm (fun j => j = q) W5 W := by
  have := jE q zs.toArray.toList 0 W5
  have e : (fun k => q = k) = (fun k => k = q) := by funext k; exact propext eq_comm
  rw [e, hW] at this
  exact this
 have HDW : Hid (T1 w g q s3 zs W) := zh ⟨HD5.out.far FW (fun k e => by have := HGQ.out; omega), HGQ.out, by rw [← hW]; exact jG HB5.out (by rw [hzs]; rfl)⟩
 clear ha HD1 HDa1 HDa2 HDa3 FW hzs
 go_wp2_with (first | (refine zd rfl 73 (.tmp 5) (.tmp 14) rfl q 0 zs.toArray rfl (by rw [HZS.out]; rfl) HTH.out HI.out HO.out ?_) | (rw [hW5, hq]; refine zd rfl 73 (.tmp 5) (.tmp 14) rfl q 0 zs.toArray rfl (by rw [HZS.out]; rfl) HTH.out HI.out HO.out ?_) | (rw [hq, hW5]; refine zd rfl 73 (.tmp 5) (.tmp 14) rfl q 0 zs.toArray rfl (by rw [HZS.out]; rfl) HTH.out HI.out HO.out ?_) | (rw [hW5]; refine zd rfl 73 (.tmp 5) (.tmp 14) rfl q 0 zs.toArray rfl (by rw [HZS.out]; rfl) HTH.out HI.out HO.out ?_) | (rw [hq]; refine zd rfl 73 (.tmp 5) (.tmp 14) rfl q 0 zs.toArray rfl (by rw [HZS.out]; rfl) HTH.out HI.out HO.out ?_))
 try rw [hW]
 rw [HZS.out] at HDW
 have HTX := zh (pText W g s3 65536 (by omega) (by have := HDW.out.d.len; omega) HDW.out.d.rdr)
 rw [H4.out] at HTX
 clear hW hW5 hq HTH HI HO HZS HD5 HB5
 refine HTX.out.mono ?_
 rintro e w6 ⟨v6, rfl, hs6, hr6, f6⟩
 obtain ⟨A5, c5, rfl, _⟩ := hs6.shape
 have HD6 := zh (HDW.out.read hr6 HL4.out f6)
 have y6 : w6.cell? ⟨q, 3, none⟩ = some (.slice none 0 0) := HD6.out.box.cell 3
 have z6 : w6.frozen? ⟨q, 3, none⟩ = false := HD6.out.box.frozen 3
 obtain ⟨V6, hV6⟩ : ∃ V, w6.setCell ⟨q, 3, none⟩ (.slice A5 x4.length c5) = V := ⟨_, rfl⟩
 have HS6 : Hid (Sl V6 (q + 1) 5 1 (.slice A5 x4.length c5) x4.length (x4.map bv)) := zh (by
  have h0 := hs6.less (show q + 1 ≤ W.heap.size from HDW.out.box.lt)
  rw [← hV6]
  exact h0.frm ((za (fun k => k = q) w6).setCell (p := ⟨q, 3, none⟩) (fun _ => rfl) _) (fun k' hk' e => by have := (h0.lt _ hk').1; omega))
 obtain ⟨cz, hcz⟩ : ∃ cz : List Value, cz = tcel ⟨(x1 : Int), (x2 : Int), (x3 : Int), x4⟩ A5 c5 := ⟨_, rfl⟩
 have HDV : Hid (T1 w g q s4 cz V6) := zh (by rw [← hV6, hcz]; exact HD6.out.set 3 _)
 have HCE := zh hcz
 have HCI : Hid ((Tryz.prog.info? 73).map (·.size) = some cz.length) := zh (by rw [hcz]; kernel_rfl)
 have HCJ : Hid ((Tryz.prog.info? 73).map (·.size) = some cz.toArray.size) := zh (by rw [hcz]; kernel_rfl)
 have HON : Hid (cz.toArray.all (·.oneCell') = true) := zh (by rw [hcz]; kernel_rfl)
 have HTR : Hid (V6.there w.heap.size 0 cz.toArray.size) := zh (by rw [hcz]; exact HDV.out.d.res.there rfl)
 have HWH := zh (pWhole V6 g s4 HDV.out.d.rdr)
 have hqw : w.heap.size < q := by have := HDV.out.gq; have := HDV.out.d.low; omega
 have HCR : Hid (V6.rangeAt q 0 cz) := zh HDV.out.box.range
 obtain ⟨wh, hwh⟩ : ∃ b, b = wholeS s4 := ⟨_, rfl⟩
 rw [← hwh] at HWH
 have HWW := zh hwh
 have HDEC : Hid (readT bs = if wh = true then (⟨(x1 : Int), (x2 : Int), (x3 : Int), x4⟩, 0) else (⟨0, 0, 0, []⟩, 6)) := zh (by unfold readT; rw [HDS.out]; dsimp only; rw [HWW.out])
 clear hs6 hr6 f6 HD6 HDW hcz HTX hwh
 go_wp2_with fail
 try rw [hV6]
 clear hV6 y6 z6
 refine HWH.out.mono ?_
 rintro e w8 ⟨rfl, rfl⟩
 cases wh with
 | false =>
  rw [zk (by decide)] at HDEC
  obtain ⟨zs, hzs⟩ : ∃ zs : List Value, zs = [.int .i64 0, .int .i64 0, .int .i64 0, .slice none 0 0] := ⟨_, rfl⟩
  have HZS := zh hzs
  have HZJ : Hid ((Tryz.prog.info? 73).map (·.size) = some zs.toArray.size) := zh (by rw [hzs]; kernel_rfl)
  have HZI : Hid ((Tryz.prog.info? 73).map (·.size) = some zs.length) := zh (by rw [hzs]; kernel_rfl)
  have HZO : Hid (zs.toArray.all (·.oneCell') = true) := zh (by rw [hzs]; kernel_rfl)
  have HTH : Hid (V6.there w.heap.size 0 zs.toArray.size) := zh (by rw [hzs]; exact HDV.out.d.res.there rfl)
  clear hzs
  go_wp2_with (refine zd rfl 73 (.tmp 2) (.tmp 21) rfl w.heap.size 0 zs.toArray rfl (by rw [HZS.out]; rfl) HTH.out HZJ.out HZO.out ?_)
  have hra : (V6.setCells w.heap.size 0 zs).rangeAt w.heap.size 0 zs := World.rangeAt_setCells_same V6 w.heap.size 0 zs (by have := HTH.out; simpa using this)
  have hld := run_loadVar_mid (P := Tryz.prog) (V6.setCells w.heap.size 0 zs) w.heap.size 0 73 zs _ hra Tryz.underlying73 rfl HZI.out
  have hfc := jE w.heap.size zs 0 V6
  have HFZ : Fresh w (V6.setCells w.heap.size 0 zs) := HDV.out.d.frm.trans' hfc (fun k hk e => by omega)
  refine zi (v := .tuple #[.agg zs.toArray, .int .i64 6]) ?_ rfl ⟨none, 0, 6, _, HDEC.out, by rw [HZS.out]; rfl, Sl.nil _ _ _ _, HFZ⟩
  rw [results_cell_tmp Tryz.results51]
  show (((asAddr (.pointer (some ⟨w.heap.size, 0, none⟩))).run Tryz.prog (V6.setCells w.heap.size 0 zs)).andThen fun a w₁ => ((loadVar 73 a).run Tryz.prog w₁).andThen fun v w₂ => Result.ok (Value.tuple #[v, Value.int .i64 6]) w₂) = _
  simp only [asAddr, Sem.run_pure, Result.andThen_ok, hld]
 | true =>
  rw [zl rfl] at HDEC
  have HTH := HTR
  go_wp2_with (first | (with_reducible refine zM rfl 73 (.tmp 5) rfl q 0 rfl cz _ HCR.out Tryz.underlying73 rfl HCI.out ?_) | (with_reducible refine zd rfl 73 (.tmp 2) (.tmp 22) rfl w.heap.size 0 cz.toArray rfl rfl HTH.out HCJ.out HON.out ?_))
  have hra : (V6.setCells w.heap.size 0 cz).rangeAt w.heap.size 0 cz := World.rangeAt_setCells_same V6 w.heap.size 0 cz (by have := HTH.out; simpa using this)
  have hld := run_loadVar_mid (P := Tryz.prog) (V6.setCells w.heap.size 0 cz) w.heap.size 0 73 cz _ hra Tryz.underlying73 rfl HCI.out
  have hfc := jE w.heap.size cz 0 V6
  have HFZ : Fresh w (V6.setCells w.heap.size 0 cz) := HDV.out.d.frm.trans' hfc (fun k hk e => by omega)
  have hs2 := HS6.out.frm hfc (fun k' hk' e => by have h1 := (HS6.out.lt _ hk').1; omega)
  refine zi (v := .tuple #[.agg cz.toArray, .int .i64 0]) ?_ rfl ⟨A5, c5, 0, _, HDEC.out, by rw [← HCE.out], hs2.less (by omega), HFZ⟩
  rw [results_cell_tmp Tryz.results51]
  show (((asAddr (.pointer (some ⟨w.heap.size, 0, none⟩))).run Tryz.prog (V6.setCells w.heap.size 0 cz)).andThen fun a w₁ => ((loadVar 73 a).run Tryz.prog w₁).andThen fun v w₂ => Result.ok (Value.tuple #[v, Value.int .i64 0]) w₂) = _
  simp only [asAddr, Sem.run_pure, Result.andThen_ok, hld]
end
end Go.Proofs.YtnmokpbomeamfaaGreat

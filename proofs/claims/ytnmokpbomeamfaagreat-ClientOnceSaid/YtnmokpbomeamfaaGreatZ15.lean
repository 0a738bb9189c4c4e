/- Proved here, for the statement ClientOnceSaid: laws that its walk leans on. It holds with no condition. (Put together and shortened by a program out of many texts: On31, On32, On33.) -/
import Derived.Test.YtnmokpbomeamfaaGreatZ10
set_option linter.unusedVariables false
set_option maxRecDepth 100000
set_option maxHeartbeats 64000000
namespace Go.Proofs.YtnmokpbomeamfaaGreat
section
open Go.RowKit QueueM
theorem clockF_rel {x : Book} {i m : Nat} (hi : i < x.l.length) (hm : i + (m + 1) = x.l.length) (h : (bkAt x i).st = 1 ∧ (bkAt x i).un ≤ x.now) : clockF (m + 1) x i = clockF m (release x i (bkAt x i)) i := by rw [clockF, zl h]
theorem clockF_go {x : Book} {i m : Nat} (h : ¬ ((bkAt x i).st = 1 ∧ (bkAt x i).un ≤ x.now)) : clockF (m + 1) x i = clockF m x (i + 1) := by rw [clockF, zk h]
structure CJ (w : World) (cz : List Value) (B b n : Nat) (fin : Book) (tm : Int) (fsl i : Nat) (M' : BkM) (wr : World) : Prop where
 mid : Mid w wr cz B b n M'
 le : i ≤ M'.l.length
 now : M'.now = tm
 fl : M'.fs.length = fsl
 eq : fin = clockF (M'.l.length - i) M'.abs i
structure DJ (w : World) (cz : List Value) (B b n : Nat) (fin : Book) (fsl k : Nat) (M' : BkM) (wr : World) : Prop where
 mid : Mid w wr cz B b n M'
 fl : M'.fs.length = fsl
 le : k ≤ fsl
 now : M'.now = fin.now
 eq : fin = promAllF (fsl - k) M'.abs k
theorem promF_now : ∀ (m : Nat) (x : Book) (k : Nat), (promF m x k).now = x.now
 | 0, _, _ => rfl
 | m + 1, x, k => by
  rw [promF]
  split
  ·rfl
  ·rw [promF_now m]; rfl
theorem promAllF_now : ∀ (m : Nat) (x : Book) (k : Nat), (promAllF m x k).now = x.now
 | 0, _, _ => rfl
 | m + 1, x, k => by rw [promAllF, promAllF_now m]; exact promF_now _ _ _
theorem clock18_any (w : World) (B b : Nat) (M : BkM) (n : Nat) (c : Cm) (GA : Option Addr) (gc : Nat) (PA : Option Addr) (pc : Nat) (h : BookAt w B b M) (hB : B ≤ w.heap.size) (hk : BookOk n M.abs) (hn : n ≤ 100) (hc : CmB c) :
 Calls Tryz.prog 90 #[.pointer (some ⟨b, 0, none⟩), .agg (ccel c GA gc PA pc).toArray] w fun e w' => jN w B b (clockA M.abs c.tm) e w' := by
 obtain ⟨cz, hcz⟩ : ∃ x, x = ccel c GA gc PA pc := ⟨_, rfl⟩
 obtain ⟨W, hW⟩ : ∃ W, (w.alloc (.cells cz.toArray 95)).alloc (.cells rz.toArray 106) = W := ⟨_, rfl⟩
 have HPR : Hid (Pre w W cz) := zh (by rw [← hW]; exact pre_of w cz)
 have HM0 : Hid (Mid w W cz B b n M) := zh (Mid.of HPR.out h hk)
 have HC5 : Hid (∀ w', Blk w' w.heap.size 95 cz.toArray → w'.cell? ⟨w.heap.size, 5, none⟩ = some (.int .i64 c.tm)) := zh fun w' hb => by rw [hcz] at hb; exact hb.cell 5
 have HNW : Hid (0 ≤ c.tm ∧ c.tm ≤ 1099511627776) := zh hc.tm
 have HV : Hid (clockA M.abs c.tm = if c.tm < M.now then (M.abs, repC 7) else (promAllF M.fs.length (clockF M.l.length { M.abs with now := c.tm } 0) 0, { repC 0 with tm := c.tm })) := zh (by unfold clockA; rw [jJ]; rfl)
 generalize c.tm = tm at HC5 HNW HV ⊢
 rw [← hcz]
 have yb : W.cell? ⟨b, 0, none⟩ = some (.int .i64 M.now) := HM0.out.at_.blk.cell 0
 have yc := HC5.out W HPR.out.cmd
 have yf := HM0.out.at_.blk.frozen 0
 clear hcz h hk hc
 go_in
 go_upto_region 1 with fail
 first | rw [show (w.alloc (.cells cz.toArray 95)).alloc (.cells #[.int .i64 0, .string ⟨#[]⟩, .int .i64 0, .int .i64 0, .int .i64 0, .int .i64 0, .int .i64 0, .slice none 0 0, .slice none 0 0] 106) = W from hW] | skip
 clear hW
 go_wp2_with fail
 go_quiet (fail)
 rename_i nq
 have HMQ := zh (HM0.out.fresh ((za (fun _ => False) W).drewN nq))
 by_cases c0 : tm < M.now
 ·have d0 : decide (tm < M.now) = true := zc c0
  rw [zl c0] at HV
  obtain ⟨zs, hzs⟩ : ∃ zs : List Value, zs = [.int .i64 7, .string ⟨#[]⟩, .int .i64 0, .int .i64 0, .int .i64 0, .int .i64 0, .int .i64 0, .slice none 0 0, .slice none 0 0] := ⟨_, rfl⟩
  have HZ : Hid (RepZ (W.drewN nq) ((W.drewN nq)).heap.size zs (repC 7)) := zh (by rw [hzs]; exact jX _ _ _)
  have HZS := zh hzs
  have HTH := zh ((HMQ.out).there HZ.out)
  have HZJ := zh HZ.out.info
  have HZO := zh HZ.out.one
  clear hzs
  go_wp2_with (refine zd rfl 106 (.tmp 4) (.tmp 15) rfl (w.heap.size + 1) 0 zs.toArray rfl (by rw [HZS.out]; rfl) HTH.out HZJ.out HZO.out ?_)
  obtain ⟨E1, E2, E3⟩ := (HMQ.out).end_ HZ.out (jA (zR HMQ.out.size))
  exact zi (v := .agg zs.toArray) (jH (B := w.heap.size) Tryz.results90 rfl E1 E2) rfl (by rw [HV.out]; exact ⟨_, rfl, E2.v, E3⟩)
 ·have d0 : decide (tm < M.now) = false := zb c0
  rw [zk c0] at HV
  have yc2 := HC5.out _ HMQ.out.cmd
  have yb2 : (W.drewN nq).cell? ⟨b, 0, none⟩ = some (.int .i64 M.now) := HMQ.out.at_.blk.cell 0
  have yf2 := HMQ.out.at_.blk.frozen 0
  obtain ⟨M1, e1, HM1'⟩ := HMQ.out.stepB (HMQ.out.at_.setNow (FT.refl _ _ _) tm) (n' := n) (HMQ.out.ok.now' HNW.out)
  have HM1 := zh HM1'
  have HE1 := zh e1
  have HL1 : Hid (M1.l = M.l ∧ M1.now = tm ∧ M1.fs.length = M.fs.length) := zh ⟨congrArg Book.l e1, congrArg Book.now e1, by have := congrArg (fun x : Book => x.fs.length) e1; simp only at this; rw [jJ, jJ] at this; exact this⟩
  obtain ⟨X0, hX0⟩ : ∃ X0, (W.drewN nq).setCell ⟨b, 0, none⟩ (.int .i64 tm) = X0 := ⟨_, rfl⟩
  rw [hX0] at HM1
  clear HM1' e1
  obtain ⟨fin, hfin⟩ : ∃ x, x = clockF M.l.length { M.abs with now := tm } 0 := ⟨_, rfl⟩
  have HFIN := zh hfin
  go_wp2_with fail
  try rw [hX0]
  clear hX0 yc2 yb2 yf2 hfin
  go_loopw [5] (fun v5 wr => ∃ (i : Nat) (M' : BkM), v5 = .int .i64 (i : Int) ∧ CJ w cz B b n fin tm M.fs.length i M' wr) (fun v5 wr => bLen wr b - (intOf v5).toNat)
  case atStart => exact ⟨0, M1, rfl, HM1.out, by omega, HL1.out.2.1, HL1.out.2.2, by rw [HFIN.out, Nat.sub_zero, HL1.out.1, HE1.out]⟩
  case round =>
   obtain ⟨i, M', rfl, hj⟩ := hrel
   have hi0 : (0 : Int) ≤ (i : Int) := by omega
   have HJ := zh hj
   have y3 : wr.cell? ⟨b, 3, none⟩ = some (.slice M'.LA M'.l.length M'.lc) := hj.mid.at_.blk.cell 3
   have hbl := bLen_of hj.mid.at_
   have HBL := zh hbl
   clear hj hbl
   by_cases hlt : i < M'.l.length
   ·obtain ⟨g2, o2, hLA, hg2, c0, c1, c2, c3, c4, c5⟩ := HJ.out.mid.at_.bk hlt
    rw [hLA] at y3
    obtain ⟨V, hV⟩ : ∃ V, wr.alloc (.cells (bcel M'.l[i]).toArray 146) = V := ⟨_, rfl⟩
    have HFV : Hid (Fresh wr V) := zh (by rw [← hV]; exact jC _ _)
    have HBX : Hid (Blk V wr.heap.size 146 (bcel M'.l[i]).toArray) := zh (by rw [← hV]; exact Blk.new _ _ _)
    have HMV := zh (HJ.out.mid.fresh HFV.out)
    have x4 : V.cell? ⟨wr.heap.size, 4, none⟩ = some (.int .i64 M'.l[i].st) := HBX.out.cell 4
    have x5 : V.cell? ⟨wr.heap.size, 5, none⟩ = some (.int .i64 M'.l[i].un) := HBX.out.cell 5
    have xb : V.cell? ⟨b, 0, none⟩ = some (.int .i64 tm) := by rw [← HJ.out.now]; exact HMV.out.at_.blk.cell 0
    have HYA : Hid (bkAt M'.abs i = M'.l[i]) := zh (bkAt_get (x := M'.abs) hlt)
    have HNO : Hid (M'.abs.now = tm) := zh HJ.out.now
    have HHL := zh hlt
    have hib : i ≤ 100 := by have h1 := HJ.out.mid.ok.len; have e : M'.abs.l.length = M'.l.length := rfl; omega
    have hlti : (i : Int) < (M'.l.length : Int) := by omega
    obtain ⟨ln, hln⟩ : ∃ z, z = M'.l.length := ⟨_, rfl⟩
    rw [← hln] at y3 hlti
    have HLN := zh hln
    obtain ⟨Y, hY⟩ : ∃ z, z = M'.l[i]'hlt := ⟨_, rfl⟩
    simp only [← hY] at c0 c1 c2 c3 c4 c5 x4 x5
    have HYY := zh hY
    have hV2 : wr.alloc (.cells #[.int .i64 Y.id, .int .i64 Y.fl, .int .i64 Y.cl, .int .i64 Y.mn, .int .i64 Y.st, .int .i64 Y.un] 146) = V := by rw [hY]; exact hV
    clear hln hY hLA hV hg2
    by_cases hc : Y.st = 1 ∧ Y.un ≤ tm
    ·obtain ⟨hs1, hs2⟩ := hc
     have d1 : (Y.st == 1) = true := by rw [hs1]; rfl
     have d2 : decide (Y.un ≤ tm) = true := zc hs2
     have HCC : Hid ((bkAt M'.abs i).st = 1 ∧ (bkAt M'.abs i).un ≤ M'.abs.now) := zh (by rw [HYA.out, ← HYY.out, HNO.out]; exact ⟨hs1, hs2⟩)
     clear hs1 hs2
     go_wp2_with fail
     try rw [hV2]
     refine zj (S := (fun w' => w'.cell? ⟨wr.heap.size, 4, none⟩ = some (.int .i64 Y.st) ∧ w'.cell? ⟨wr.heap.size, 5, none⟩ = some (.int .i64 Y.un) ∧ w'.cell? ⟨b, 0, none⟩ = some (.int .i64 tm))) (by kernel_rfl) (⟨x4, x5, xb⟩) (fun hHeld => ?_)
     iterate 12 ((first | refine ztn (v := ?_) (zo rfl) ?_ | refine ztz (v := ?_) (zo rfl) ?_); try simp only [Act.put, zT, zZ, zS])
     refine wpAnyH_done (by kernel_rfl) ?_ _
     obtain ⟨nq7, hq7⟩ : ∃ q : Nat, V.drew = V.drewN q := ⟨1, rfl⟩
     rw [hq7]
     clear hq7
     clear hV2 c0 c1 c2 c3 c4 c5 x4 x5 xb d1 d2 y3
     obtain ⟨X, hX⟩ : ∃ X, V.drewN nq7 = X := ⟨_, rfl⟩
     have HMX : Hid (Mid w X cz B b n M') := zh (by rw [← hX]; exact HMV.out.fresh ((za _ _).drewN nq7))
     have HBY : Hid (Blk X wr.heap.size 146 (bcel Y).toArray) := zh (by rw [← hX, HYY.out]; exact HBX.out)
     have HXS : Hid (wr.heap.size < X.heap.size) := zh HBY.out.lt
     rw [hX]
     clear hX HMV HBX HFV
     obtain ⟨k, hkf, hke, hkz⟩ := HMX.out.ok.kAt (i := i) HHL.out
     have hkm : k < M'.fs.length := by rw [← jJ]; exact hkf
     have hye : M'.abs.l[i]'HHL.out = Y := HYY.out.symm
     rw [hye] at hke
     obtain ⟨g, o, hFA, hgl, hp0, hp1⟩ := HMX.out.at_.place hkm
     have hfew : M'.fs.length ≤ 8 := by have := HMX.out.ok.few; rw [jJ] at this; exact this
     have HFL : Hid (Calls Tryz.prog 70 #[.pointer (some ⟨b, 0, none⟩), .int .i64 Y.fl] X.drew fun e w'' => e = .returned (.int .i64 (k : Int)) ∧ w'' = X.drew) := zh (by rw [← hke]; exact qD X.drew B b M' _ (HMX.out.at_.fresh (za _ _).drew) hfew)
     obtain ⟨hfo, hgo, hhs, hws⟩ := HMX.out.ok.at_ hkm
     have hfat := ((HMX.out.at_.fresh (za (fun _ => False) X).drew).fl _ (ze hkm)).1
     have hbx : B ≤ X.drew.heap.size := by have h1 := HMX.out.ft.size; show B ≤ X.heap.size; omega
     have HGI := zh (give15_any X.drew B M'.fs[k].f M'.fs[k].m Y.id hfat hbx (by omega))
     have HFT := zh hfat
     have y2 : X.cell? ⟨b, 2, none⟩ = some (.slice (some ⟨g, o, none⟩) M'.fs.length M'.fc) := by rw [← hFA]; exact HMX.out.at_.blk.cell 2
     have HPB : Hid (∃ cs, Blk X.drew g 134 cs) := zh (by obtain ⟨cs, hc, _⟩ := HMX.out.at_.fsl.has (k := g) (by rw [hFA]; rfl); exact ⟨cs, hc⟩)
     have z1 : X.cell? ⟨wr.heap.size, 1, none⟩ = some (.int .i64 Y.fl) := HBY.out.cell 1
     have z0 : X.cell? ⟨wr.heap.size, 0, none⟩ = some (.int .i64 Y.id) := HBY.out.cell 0
     have k0 : (0 : Int) ≤ (k : Int) := by omega
     have k1 : (k : Int) < (M'.fs.length : Int) := by omega
     have HKM := zh hkm
     have HKE := zh hke
     have HBB : Hid (Blk X.drew b 87 (bkcel M')) := zh HMX.out.at_.blk
     have HS0 : Hid (X.drew.cell? ⟨b, 2, none⟩ = some (.slice (some ⟨g, o, none⟩) M'.fs.length M'.fc) ∧ X.drew.cell? ⟨wr.heap.size, 1, none⟩ = some (.int .i64 Y.fl) ∧ X.drew.cell? ⟨wr.heap.size, 0, none⟩ = some (.int .i64 Y.id) ∧ X.drew.cell? ⟨g, o + k * 2, none⟩ = some (.pointer (some ⟨M'.fs[k].f, 0, none⟩))) := zh ⟨y2, z1, z0, hp0⟩
     have HSG : Hid (∀ w8, StepF X.drew B M'.fs[k].f M'.fs[k].m (giveA M'.fs[k].m.abs Y.id).2 w8 → w8.cell? ⟨b, 2, none⟩ = some (.slice (some ⟨g, o, none⟩) M'.fs.length M'.fc) ∧ w8.cell? ⟨wr.heap.size, 1, none⟩ = some (.int .i64 Y.fl) ∧ w8.cell? ⟨wr.heap.size, 0, none⟩ = some (.int .i64 Y.id) ∧ w8.cell? ⟨g, o + k * 2, none⟩ = some (.pointer (some ⟨M'.fs[k].f, 0, none⟩))) := zh fun w8 hs8 => by
      obtain ⟨cs, hc⟩ := HPB.out
      have a1 := StepF.keep HFT.out hs8 HBB.out (by decide) (by decide)
      have a2 := StepF.keep HFT.out hs8 (show Blk X.drew _ _ _ from HBY.out) (by decide) (by decide)
      have a3 := StepF.keep HFT.out hs8 hc (by decide) (by decide)
      refine ⟨by rw [← hFA]; exact a1.cell 2, a2.cell 1, a2.cell 0, ?_⟩
      rw [a3.cell, ← hc.cell]
      exact hp0
     clear hkz hkf hye hp1 hgl hfat hbx hfo hgo hws y2 z1 z0
     generalize hfsl : M'.fs.length = fl at k1
     rw [hfsl] at HS0 HSG
     go_wp2_with fail
     refine zj (S := (fun w' => w'.cell? ⟨b, 2, none⟩ = some (.slice (some ⟨g, o, none⟩) fl M'.fc) ∧ w'.cell? ⟨wr.heap.size, 1, none⟩ = some (.int .i64 Y.fl) ∧ w'.cell? ⟨wr.heap.size, 0, none⟩ = some (.int .i64 Y.id) ∧ w'.cell? ⟨g, o + k * 2, none⟩ = some (.pointer (some ⟨M'.fs[k].f, 0, none⟩)))) (by kernel_rfl) (HS0.out) (fun hHeld => ?_)
     iterate 7 ((first | refine ztn (v := ?_) (zo rfl) ?_ | refine ztz (v := ?_) (zo rfl) ?_); try simp only [Act.put, zT, zZ, zS])
     (refine zt 11 (v := ?_) (zo rfl) ?_; try simp only [Act.put, zT, zZ, zS])
     iterate 1 (refine ztn (v := ?_) (zo rfl) ?_; try simp only [Act.put, zT, zZ, zS])
     refine zr1 7 (zo rfl) (fun K hK => ?_)
     go_simp
     refine (HFL.out).mono ?_
     rintro e w7 ⟨rfl, hw7⟩
     rw [hw7]
     clear hw7 w7
     refine hK.out _ _ (HS0.out) (fun hHeld => ?_)
     clear hK K
     try simp only [Act.put, zT, zZ, zS]
     iterate 3 (refine ztn (v := ?_) (zo rfl) ?_; try simp only [Act.put, zT, zZ, zS])
     refine zr1 13 (zo rfl) (fun K hK => ?_)
     go_simp
     refine (HGI.out).mono ?_
     rintro e w8 ⟨rfl, hs8⟩
     refine hK.out _ _ (HSG.out w8 hs8) (fun hHeld => ?_)
     clear hK K
     try simp only [Act.put, zT, zZ, zS]
     refine wpAnyH_done (by kernel_rfl) ?_ _
     have HMS := zh hs8
     clear hs8
     obtain ⟨m9, em9, hb9, ft9⟩ := (HMX.out.at_.fresh (za (fun _ => False) X).drew).setF (FT.refl bookT B X.drew) HKM.out HMS.out
     obtain ⟨M9, hM9⟩ : ∃ z : BkM, z = { M' with fs := M'.fs.set k { M'.fs[k] with m := m9 } } := ⟨_, rfl⟩
     have HB9 : Hid (BookAt w8 B b M9) := zh (by rw [hM9]; exact hb9)
     have HF9 := zh ft9
     have hl9 : M9.l = M'.l := by rw [hM9]
     have hbx9 : B ≤ w8.heap.size := by have h1 := HMX.out.ft.size; have h2 := ft9.size; have h3 : X.drew.heap.size = X.heap.size := rfl; omega
     have hlc : M9.l.length ≤ 1000 := by rw [hl9]; have := HMX.out.ok.len; have e : M'.abs.l.length = M'.l.length := rfl; omega
     have HOU := zh (out18_any w8 B b M9 i HB9.out hbx9 (by rw [hl9]; exact HHL.out) hlc)
     have HM9 : Hid ({ M9.abs with l := cutAt M9.l i } = release M'.abs i (bkAt M'.abs i)) := zh (by
      unfold release
      rw [HYA.out, ← HYY.out, HKE.out, zx, abs_at HKM.out, hl9, hM9, abs_setFs]
      unfold PlM.abs
      dsimp only
      rw [em9]
      rfl)
     have HN9 : Hid (M9.fs.length = M'.fs.length) := zh (by rw [hM9]; simp)
     clear hb9 ft9 hl9 hM9 em9 hbx9 hlc
     go_wp2_with fail
     refine HOU.out.mono ?_
     rintro e w9 ⟨rfl, hs9⟩
     have hrel9 := HMX.out.ok.release (i := i) HHL.out (by have := HCC.out.1; rw [HYA.out] at this; exact this)
     have HMA : Hid (Mid w w8 cz B b n M' → True) := zh fun _ => trivial
     obtain ⟨M10, e10, b10, F10⟩ := hs9
     rw [HM9.out] at e10
     have hmid : Mid w w9 cz B b n M10 := (HMX.out.fresh (za (fun _ => False) X).drew).step (HF9.out.trans F10) b10 (by rw [e10]; exact hrel9.1)
     have hl10 : M10.l.length + 1 = M'.l.length := by have := hrel9.2.2; rw [← e10] at this; exact this
     have hf10 : M10.fs.length = M'.fs.length := by have := hrel9.2.1; rw [← e10, jJ, jJ] at this; exact this
     have hn10 : M10.now = tm := (congrArg Book.now e10).trans HNO.out
     have heq : fin = clockF (M10.l.length - i) M10.abs i := by
      have h1 := HJ.out.eq
      have hil := HHL.out
      rw [show M'.l.length - i = (M10.l.length - i) + 1 by omega, clockF_rel hil (by show i + _ = M'.l.length; omega) HCC.out] at h1
      rw [h1, e10]
     have HCJ : Hid (CJ w cz B b n fin tm M.fs.length i M10 w9) := zh ⟨hmid, by have := HHL.out; omega, hn10, by rw [hf10]; exact HJ.out.fl, heq⟩
     have HBN : Hid (bLen w9 b = M10.l.length) := zh (bLen_of b10)
     have HL10 := zh hl10
     clear hrel9 e10 b10 F10 hmid hl10 hf10 hn10 heq
     go_wp2_with fail
     go_roundw
     case rel => exact ⟨i, M10, rfl, HCJ.out⟩
     case measure =>
      rw [HBL.out, HBN.out]
      have h1 := HL10.out
      have h2 := HHL.out
      simp [intOf]
      omega
    ·have HCC : Hid (¬ ((bkAt M'.abs i).st = 1 ∧ (bkAt M'.abs i).un ≤ M'.abs.now)) := zh (by rw [HYA.out, ← HYY.out, HNO.out]; exact hc)
     have HN : Hid (∀ q, CJ w cz B b n fin tm M.fs.length (i + 1) M' (V.drewN q)) := zh fun q => ⟨HMV.out.fresh ((za _ _).drewN q), HHL.out, HJ.out.now, HJ.out.fl, by
      have h1 := HJ.out.eq
      have hil := HHL.out
      rw [show M'.l.length - i = (M'.l.length - (i + 1)) + 1 by omega, clockF_go HCC.out] at h1
      exact h1⟩
     have HBN : Hid (∀ q, bLen (V.drewN q) b = M'.l.length) := zh fun q => bLen_of (HMV.out.at_.fresh ((za _ _).drewN q))
     by_cases hs1 : Y.st = 1
     ·have hs2 : ¬ Y.un ≤ tm := fun h => hc ⟨hs1, h⟩
      have d1 : (Y.st == 1) = true := by rw [hs1]; rfl
      have d2 : decide (Y.un ≤ tm) = false := zb hs2
      clear hs1 hs2 hc
      have HN1 : Hid (CJ w cz B b n fin tm M.fs.length (i + 1) M' V.drew) := zh (HN.out 1)
      have HN2 : Hid (bLen V.drew b = M'.l.length) := zh (HBN.out 1)
      go_wp2_with fail
      try rw [hV2]
      refine zj (S := (fun w' => w'.cell? ⟨wr.heap.size, 4, none⟩ = some (.int .i64 Y.st) ∧ w'.cell? ⟨wr.heap.size, 5, none⟩ = some (.int .i64 Y.un) ∧ w'.cell? ⟨b, 0, none⟩ = some (.int .i64 tm))) (by kernel_rfl) (⟨x4, x5, xb⟩) (fun hHeld => ?_)
      iterate 12 ((first | refine ztn (v := ?_) (zo rfl) ?_ | refine ztz (v := ?_) (zo rfl) ?_); try simp only [Act.put, zT, zZ, zS])
      refine wpAnyH_done (by kernel_rfl) ?_ _
      go_wp2_with fail
      go_roundw
      case rel => exact ⟨i + 1, M', by go_num, HN1.out⟩
      case measure =>
       rw [HBL.out, HN2.out]
       have h2 := HHL.out
       simp [intOf]
       omega
     ·have d1 : (Y.st == 1) = false := by rw [zC]; exact hs1
      clear hs1 hc
      have HN1 : Hid (CJ w cz B b n fin tm M.fs.length (i + 1) M' V.drew) := zh (HN.out 1)
      have HN2 : Hid (bLen V.drew b = M'.l.length) := zh (HBN.out 1)
      go_wp2_with fail
      try rw [hV2]
      refine zj (S := (fun w' => w'.cell? ⟨wr.heap.size, 4, none⟩ = some (.int .i64 Y.st) ∧ w'.cell? ⟨wr.heap.size, 5, none⟩ = some (.int .i64 Y.un) ∧ w'.cell? ⟨b, 0, none⟩ = some (.int .i64 tm))) (by kernel_rfl) (⟨x4, x5, xb⟩) (fun hHeld => ?_)
      iterate 4 ((first | refine ztn (v := ?_) (zo rfl) ?_ | refine ztz (v := ?_) (zo rfl) ?_); try simp only [Act.put, zT, zZ, zS])
      refine wpAnyH_take (i := 4) (v := undef) (zo rfl) (by kernel_rfl) (by kernel_rfl) (by kernel_rfl) (fun _ _ _ h => h) (Or.inr ⟨by rfl, rfl⟩) (by assumption) ?_
      try simp only [Act.put, zT, zZ, zS]
      refine wpAnyH_take (i := 5) (v := undef) (zo rfl) (by kernel_rfl) (by kernel_rfl) (by kernel_rfl) (fun _ _ _ h => h) (Or.inr ⟨by rfl, rfl⟩) (by assumption) ?_
      try simp only [Act.put, zT, zZ, zS]
      refine wpAnyH_take (i := 6) (v := undef) (zo rfl) (by kernel_rfl) (by kernel_rfl) (by kernel_rfl) (fun _ _ _ h => h) (Or.inr ⟨by rfl, rfl⟩) (by assumption) ?_
      try simp only [Act.put, zT, zZ, zS]
      refine wpAnyH_take (i := 7) (v := undef) (zo rfl) (by kernel_rfl) (by kernel_rfl) (by kernel_rfl) (fun _ _ _ h => h) (Or.inr ⟨by rfl, rfl⟩) (by assumption) ?_
      try simp only [Act.put, zT, zZ, zS]
      refine wpAnyH_take (i := 8) (v := undef) (zo rfl) (by kernel_rfl) (by kernel_rfl) (by kernel_rfl) (fun _ _ _ h => h) (Or.inr ⟨by rfl, rfl⟩) (by assumption) ?_
      try simp only [Act.put, zT, zZ, zS]
      refine wpAnyH_take (i := 9) (v := undef) (zo rfl) (by kernel_rfl) (by kernel_rfl) (by kernel_rfl) (fun _ _ _ h => h) (Or.inr ⟨by rfl, rfl⟩) (by assumption) ?_
      try simp only [Act.put, zT, zZ, zS]
      refine wpAnyH_take (i := 10) (v := undef) (zo rfl) (by kernel_rfl) (by kernel_rfl) (by kernel_rfl) (fun _ _ _ h => h) (Or.inr ⟨by rfl, rfl⟩) (by assumption) ?_
      try simp only [Act.put, zT, zZ, zS]
      (refine ztn (v := ?_) (zo rfl) ?_; try simp only [Act.put, zT, zZ, zS])
      refine wpAnyH_done (by kernel_rfl) ?_ _
      go_wp2_with fail
      go_roundw
      case rel => exact ⟨i + 1, M', by go_num, HN1.out⟩
      case measure =>
       rw [HBL.out, HN2.out]
       have h2 := HHL.out
       simp [intOf]
       omega
   ·have hlti : ¬ (i : Int) < (M'.l.length : Int) := by omega
    have hil : i = M'.l.length := by have := HJ.out.le; omega
    have HFI : Hid (fin = M'.abs) := zh (by have h1 := HJ.out.eq; rw [hil, Nat.sub_self] at h1; exact h1)
    have HD0 : Hid (DJ w cz B b n (promAllF M.fs.length fin 0) M.fs.length 0 M' wr) := zh ⟨HJ.out.mid, HJ.out.fl, zF _, by rw [promAllF_now, HFI.out]; rfl, by rw [HFI.out, Nat.sub_zero]⟩
    have HFN : Hid ((promAllF M.fs.length fin 0).now = tm) := zh (by rw [promAllF_now, HFI.out]; exact HJ.out.now)
    have HV2 : Hid (clockA M.abs tm = (promAllF M.fs.length fin 0, { repC 0 with tm := tm })) := zh (by rw [HV.out, HFIN.out])
    clear hil
    generalize promAllF M.fs.length fin 0 = fin2 at HD0 HFN HV2
    obtain ⟨fsl, hfsl⟩ : ∃ z, z = M.fs.length := ⟨_, rfl⟩
    rw [← hfsl] at HD0
    have hfs8 : fsl ≤ 8 := by rw [hfsl]; have := HM0.out.ok.few; rw [jJ] at this; exact this
    clear hfsl
    go_wp2_with fail
    go_loopw [7] (fun v7 wr => ∃ (k : Nat) (M2 : BkM), v7 = .int .i64 (k : Int) ∧ DJ w cz B b n fin2 fsl k M2 wr) (fun v7 _ => fsl - (intOf v7).toNat)
    case atStart => exact ⟨0, M', rfl, HD0.out⟩
    case round =>
     obtain ⟨k, M2, rfl, hd⟩ := hrel
     have hk0 : (0 : Int) ≤ (k : Int) := by omega
     have HD := zh hd
     have y2 : wr.cell? ⟨b, 2, none⟩ = some (.slice M2.FA fsl M2.fc) := by rw [← hd.fl]; exact hd.mid.at_.blk.cell 2
     clear hd
     by_cases hkl : k < fsl
     ·have hkli : (k : Int) < (fsl : Int) := by omega
      have hk2 : k < M2.fs.length := by rw [HD.out.fl]; exact hkl
      have HPR2 := zh (promote18_any wr B b M2 n k HD.out.mid.at_ (by have := HD.out.mid.ft.size; omega) HD.out.mid.ok hn hk2)
      have hpk := HD.out.mid.ok.promA (k := k) (by rw [jJ]; exact hk2)
      have HPK := zh hpk
      clear hpk
      go_wp2_with fail
      refine HPR2.out.mono ?_
      rintro e w3 ⟨rfl, hs3⟩
      obtain ⟨M3, e3, hm3⟩ := HD.out.mid.stepB hs3 HPK.out.1
      have HN3 : Hid (DJ w cz B b n fin2 fsl (k + 1) M3 w3) := zh ⟨hm3, by have h1 := HPK.out.2.1; rw [← e3, jJ, jJ] at h1; rw [h1]; exact HD.out.fl, hkl, ((congrArg Book.now e3).trans (promF_now _ _ _)).trans HD.out.now, by
       have h1 := HD.out.eq
       rw [show fsl - k = (fsl - (k + 1)) + 1 by omega, promAllF] at h1
       rw [h1, e3]⟩
      clear hs3 e3 hm3
      go_wp2_with fail
      go_roundw
      case rel => exact ⟨k + 1, M3, by go_num, HN3.out⟩
      case measure => simp [intOf]; omega
     ·have hkli : ¬ (k : Int) < (fsl : Int) := by omega
      have hkf : k = fsl := by have := HD.out.le; omega
      have HE2 : Hid (fin2 = M2.abs) := zh (by have h1 := HD.out.eq; rw [hkf, Nat.sub_self] at h1; exact h1)
      have yn : wr.cell? ⟨b, 0, none⟩ = some (.int .i64 tm) := by
       have h1 : M2.now = tm := HD.out.now.trans HFN.out
       rw [← h1]; exact HD.out.mid.at_.blk.cell 0
      clear hkf
      obtain ⟨zs, hzs⟩ : ∃ zs : List Value, zs = [.int .i64 0, .string ⟨#[]⟩, .int .i64 0, .int .i64 0, .int .i64 0, .int .i64 0, .int .i64 tm, .slice none 0 0, .slice none 0 0] := ⟨_, rfl⟩
      have HZ : Hid (RepZ wr (wr).heap.size zs ({ repC 0 with tm := tm })) := zh (by rw [hzs]; exact ⟨none, 0, none, 0, rfl, Sl.nil _ _ _ _, Sl.nil _ _ _ _⟩)
      have HZS := zh hzs
      have HTH := zh ((HD.out.mid).there HZ.out)
      have HZJ := zh HZ.out.info
      have HZO := zh HZ.out.one
      clear hzs
      go_wp2_with (refine zd rfl 106 (.tmp 4) (.tmp 82) rfl (w.heap.size + 1) 0 zs.toArray rfl (by rw [HZS.out]; rfl) HTH.out HZJ.out HZO.out ?_)
      obtain ⟨E1, E2, E3⟩ := (HD.out.mid).end_ HZ.out (jA (zR HD.out.mid.size))
      exact zi (v := .agg zs.toArray) (jH (B := w.heap.size) Tryz.results90 rfl E1 E2) rfl (by rw [HV2.out, HE2.out]; exact ⟨_, rfl, E2.v, E3⟩)
theorem takeA_no {m : Fl} {ow cl mn : Int} (h : (takeA m ow cl mn).1 ≠ 0) : (takeA m ow cl mn).2 = m := by
 unfold takeA at h ⊢
 split
 ·rfl
 ·rename_i h1
  rw [zk h1] at h
  split
  ·rfl
  ·rename_i h2
   rw [zk h2] at h
   split
   ·rename_i h3
    rw [zl h3] at h
    exact absurd rfl h
   ·rfl
theorem add_no' {x : Wt} {l : List Wt} (h : (add x l).1 ≠ 0) : (add x l).2 = l := by
 unfold add at h ⊢
 split
 ·rename_i h1
  rw [zl h1] at h
  split
  ·rfl
  ·rename_i h2
   rw [zk h2] at h
   split
   ·rfl
   ·rename_i h3
    rw [zk h3] at h
    exact absurd rfl h
 ·rfl
theorem BookAt.push {w1 w2 : World} {B b : Nat} {M : BkM} {A3 : Option Addr} {c3 : Nat} {y : Bk} (h : BookAt w1 B b M) (hs : Sl w2 B 146 6 (.slice A3 (M.l.length + 1) c3) (M.l.length + 1) (M.l.flatMap bcel ++ bcel y))
 (F : Frm (fun k => (Value.slice M.LA M.l.length M.lc).ownBlock = some k) w1 w2) :
 BookAt (w2.setCell ⟨b, 3, none⟩ (.slice A3 (M.l.length + 1) c3)) B b { M with LA := A3, lc := c3, l := M.l ++ [y] } ∧ FT bookT B w1 (w2.setCell ⟨b, 3, none⟩ (.slice A3 (M.l.length + 1) c3)) := by
 have hno : ∀ {g : Nat} {t : TypeId} {cs : Array Value}, Blk w1 g t cs → t ≠ 146 → ¬ ((Value.slice M.LA M.l.length M.lc).ownBlock = some g) := by
  intro g t cs hb h1 e
  obtain ⟨cs', hc, _⟩ := h.lsl.has e
  exact hb.apart hc h1 rfl
 have hsl : ∀ {v : Value} {e size n : Nat} {xs : List Value}, Sl w1 B e size v n xs → e ≠ 146 → Sl w2 B e size v n xs := by
  intro v e size n xs hs h1
  exact hs.frm F (fun i hi => by obtain ⟨cs, hc, _⟩ := hs.has hi; exact hno hc h1)
 have hb2 := h.blk.frm F (hno h.blk (by decide))
 have FS : Frm (fun k => k = b) w2 (w2.setCell ⟨b, 3, none⟩ (.slice A3 (M.l.length + 1) c3)) := (za (fun k => k = b) w2).setCell (p := ⟨b, 3, none⟩) (fun _ => rfl) _
 have hlen : (M.l ++ [y]).length = M.l.length + 1 := by simp
 have hfl : (M.l ++ [y]).flatMap bcel = M.l.flatMap bcel ++ bcel y := by simp
 have f1 : FT bookT B w1 w2 := FT.of_frm F (fun k hk e => by obtain ⟨cs, hc, hg⟩ := h.lsl.has e; exact ⟨hg, _, _, hc, by decide⟩)
 have f2 : FT bookT B w2 (w2.setCell ⟨b, 3, none⟩ (.slice A3 (M.l.length + 1) c3)) := FT.of_frm FS (fun k hk e => by subst e; exact ⟨h.ge, _, _, hb2, by decide⟩)
 refine ⟨⟨?_, h.ge, ?_, ?_, ?_, ?_, h.ap⟩, f1.trans f2⟩
 ·have := hb2.set 3 (.slice A3 (M.l.length + 1) c3)
  unfold bkcel at this ⊢
  dsimp only
  rw [hlen]
  exact this
 ·have h1 := hsl h.fsl (by decide)
  exact h1.frm FS (fun k hk e => by subst e; exact h1.apart hb2 (by decide) hk)
 ·dsimp only
  rw [hlen, hfl]
  exact hs.frm FS (fun k hk e => by subst e; exact hs.apart hb2 (by decide) hk)
 ·intro p hp
  obtain ⟨h1, h2⟩ := h.fl p hp
  have h3 : FlAt w2 B p.f p.m := h1.frm F (hno h1.blk (by decide)) (fun i hi => by obtain ⟨cs, hc, _⟩ := h1.hasH hi; exact hno hc (by decide)) (fun i cs hi => hno hi (by decide))
  refine ⟨h3.frm FS (fun e => h3.blk.apart hb2 (by decide) e) (fun k hk e => ?_) (fun k cs hk e => ?_), h2⟩
  ·subst e
   obtain ⟨cs, hc, _⟩ := h3.hasH hk
   exact hc.apart hb2 (by decide) rfl
  ·subst e
   exact hk.apart hb2 (by decide) rfl
 ·intro p hp
  have h1 := h.qu p hp
  have h3 : IsR w2 B p.q p.v p.ws := h1.frm F (hno h1.blk (by decide)) (fun i hi => by obtain ⟨cs, hc, _⟩ := h1.sl.has hi; exact hno hc (by decide))
  exact h3.frm FS (fun e => h3.blk.apart hb2 (by decide) e) (fun k hk e => by subst e; exact h3.sl.apart hb2 (by decide) hk)
theorem hold18_any (w : World) (B b : Nat) (M : BkM) (n : Nat) (c : Cm) (GA : Option Addr) (gc : Nat) (PA : Option Addr) (pc : Nat) (h : BookAt w B b M) (hB : B ≤ w.heap.size) (hk : BookOk n M.abs) (hn : n < 100) (hc : CmB c) :
 Calls Tryz.prog 88 #[.pointer (some ⟨b, 0, none⟩), .agg (ccel c GA gc PA pc).toArray] w fun e w' => jN w B b (holdA M.abs c) e w' := by
 obtain ⟨i0, hi0, hz0, hz1, hz2⟩ := info_parts info_bk
 obtain ⟨cz, hcz⟩ : ∃ x, x = ccel c GA gc PA pc := ⟨_, rfl⟩
 obtain ⟨W, hW⟩ : ∃ W, (w.alloc (.cells cz.toArray 95)).alloc (.cells rz.toArray 106) = W := ⟨_, rfl⟩
 have HPR : Hid (Pre w W cz) := zh (by rw [← hW]; exact pre_of w cz)
 have HM0 : Hid (Mid w W cz B b n M) := zh (Mid.of HPR.out h hk)
 have HCF : Hid (∀ w', Blk w' w.heap.size 95 cz.toArray → w'.cell? ⟨w.heap.size, 2, none⟩ = some (.int .i64 c.fl) ∧ w'.cell? ⟨w.heap.size, 3, none⟩ = some (.int .i64 c.cl) ∧ w'.cell? ⟨w.heap.size, 4, none⟩ = some (.int .i64 c.mn) ∧ w'.cell? ⟨w.heap.size, 5, none⟩ = some (.int .i64 c.tm)) := zh fun w' hb => by rw [hcz] at hb; exact ⟨hb.cell 2, hb.cell 3, hb.cell 4, hb.cell 5⟩
 have hfew : M.fs.length ≤ 8 := by have := hk.few; rw [jJ] at this; exact this
 have HFL : Hid (Calls Tryz.prog 70 #[.pointer (some ⟨b, 0, none⟩), .int .i64 c.fl] W fun e w'' => e = .returned (.int .i64 (qL c.fl M.abs)) ∧ w'' = W) := zh (qD W B b M c.fl HM0.out.at_ hfew)
 have HFU := zh (full18_any W B b M HM0.out.at_)
 have HCB := zh hc
 have HV : Hid (holdA M.abs c = if qL c.fl M.abs < 0 then (M.abs, repC 2)
  else if c.tm ≤ M.now then (M.abs, repC 1)
  else if fullA M.abs = true then (M.abs, repC 3)
  else if (takeA (plAt M.abs (qL c.fl M.abs).toNat).f M.next c.cl c.mn).1 ≠ 0 then (M.abs, repC (takeA (plAt M.abs (qL c.fl M.abs).toNat).f M.next c.cl c.mn).1)
  else (held M.abs (qL c.fl M.abs).toNat c, toldA (held M.abs (qL c.fl M.abs).toNat c) M.l.length)) := zh rfl
 have HFA : Hid (0 ≤ qL c.fl M.abs → ∃ (k : Nat), k < M.fs.length ∧ qL c.fl M.abs = (k : Int)) := zh fun h0 => by
  obtain ⟨k, hk1, e1, _⟩ := flightA_at h0
  exact ⟨k, by rw [← jJ]; exact hk1, e1⟩
 have HHELD : Hid (∀ k : Nat, k < M.fs.length → qL c.fl M.abs = (k : Int) → BookOk (n + 1) (held M.abs k c)) := zh fun k hk1 e1 => hk.held hc (by rw [jJ]; exact hk1) e1
 have HNX : Hid (1 ≤ M.next ∧ M.next ≤ (n : Int) + 1) := zh hk.next
 have hnx := hk.next
 have hnx1 : M.abs.next = M.next := rfl
 rw [hnx1] at hnx
 obtain ⟨x2, x3, x4, x5⟩ := HCF.out W HPR.out.cmd
 have hll : M.l.length ≤ 100 := by have h1 := hk.len; have e : M.abs.l.length = M.l.length := rfl; omega
 rw [← hcz]
 generalize qL c.fl M.abs = fa at HFL HV HFA HHELD
 generalize fullA M.abs = fu at HFU HV
 clear hcz h hk hc hnx1
 go_in
 go_upto_region 1 with fail
 first | rw [show (w.alloc (.cells cz.toArray 95)).alloc (.cells #[.int .i64 0, .string ⟨#[]⟩, .int .i64 0, .int .i64 0, .int .i64 0, .int .i64 0, .int .i64 0, .slice none 0 0, .slice none 0 0] 106) = W from hW] | skip
 clear hW
 go_wp2_with fail
 refine HFL.out.mono ?_
 rintro e w1 ⟨rfl, hw1⟩
 rw [hw1]
 clear hw1 w1
 go_wp2_with fail
 refine HFU.out.mono ?_
 rintro e w1 ⟨rfl, hw1⟩
 rw [hw1]
 clear hw1 w1 HFL HFU
 by_cases c0 : fa < 0
 ·have d0 : decide (fa < 0) = true := zc c0
  rw [zl c0] at HV
  obtain ⟨zs, hzs⟩ : ∃ zs : List Value, zs = [.int .i64 2, .string ⟨#[]⟩, .int .i64 0, .int .i64 0, .int .i64 0, .int .i64 0, .int .i64 0, .slice none 0 0, .slice none 0 0] := ⟨_, rfl⟩
  have HZ : Hid (RepZ W (W).heap.size zs (repC 2)) := zh (by rw [hzs]; exact jX _ _ _)
  have HZS := zh hzs
  have HTH := zh ((HM0.out).there HZ.out)
  have HZJ := zh HZ.out.info
  have HZO := zh HZ.out.one
  clear hzs
  go_wp2_with (refine zd rfl 106 (.tmp 4) (.tmp 17) rfl (w.heap.size + 1) 0 zs.toArray rfl (by rw [HZS.out]; rfl) HTH.out HZJ.out HZO.out ?_)
  obtain ⟨E1, E2, E3⟩ := (HM0.out).end_ HZ.out (jA (zR HM0.out.size))
  exact zi (v := .agg zs.toArray) (jH (B := w.heap.size) Tryz.results88 rfl E1 E2) rfl (by rw [HV.out]; exact ⟨_, rfl, E2.v, E3⟩)
 ·have d0 : decide (fa < 0) = false := zb c0
  rw [zk c0] at HV
  obtain ⟨k, hkm, hke⟩ := HFA.out (by omega)
  have HHK := zh (HHELD.out k hkm hke)
  subst hke
  rw [zx] at HV
  clear HFA HHELD
  have yb : W.cell? ⟨b, 0, none⟩ = some (.int .i64 M.now) := HM0.out.at_.blk.cell 0
  have HX1 := zh (HM0.out.fresh (za (fun _ => False) W).drew)
  go_wp2_with fail
  refine zj (S := (fun w' => w'.cell? ⟨w.heap.size, 5, none⟩ = some (.int .i64 c.tm) ∧ w'.cell? ⟨b, 0, none⟩ = some (.int .i64 M.now))) (by kernel_rfl) (⟨x5, yb⟩) (fun hHeld => ?_)
  iterate 8 ((first | refine ztn (v := ?_) (zo rfl) ?_ | refine ztz (v := ?_) (zo rfl) ?_); try simp only [Act.put, zT, zZ, zS])
  refine wpAnyH_done (by kernel_rfl) ?_ _
  obtain ⟨X, hX⟩ : ∃ X, W.drew = X := ⟨_, rfl⟩
  rw [hX] at HX1 ⊢
  clear hX yb x2 x3 x4 x5
  by_cases c1 : c.tm ≤ M.now
  ·have d1 : decide (c.tm ≤ M.now) = true := zc c1
   rw [zl c1] at HV
   obtain ⟨zs, hzs⟩ : ∃ zs : List Value, zs = [.int .i64 1, .string ⟨#[]⟩, .int .i64 0, .int .i64 0, .int .i64 0, .int .i64 0, .int .i64 0, .slice none 0 0, .slice none 0 0] := ⟨_, rfl⟩
   have HZ : Hid (RepZ X (X).heap.size zs (repC 1)) := zh (by rw [hzs]; exact jX _ _ _)
   have HZS := zh hzs
   have HTH := zh ((HX1.out).there HZ.out)
   have HZJ := zh HZ.out.info
   have HZO := zh HZ.out.one
   clear hzs
   go_wp2_with (refine zd rfl 106 (.tmp 4) (.tmp 26) rfl (w.heap.size + 1) 0 zs.toArray rfl (by rw [HZS.out]; rfl) HTH.out HZJ.out HZO.out ?_)
   obtain ⟨E1, E2, E3⟩ := (HX1.out).end_ HZ.out (jA (zR HX1.out.size))
   exact zi (v := .agg zs.toArray) (jH (B := w.heap.size) Tryz.results88 rfl E1 E2) rfl (by rw [HV.out]; exact ⟨_, rfl, E2.v, E3⟩)
  ·have d1 : decide (c.tm ≤ M.now) = false := zb c1
   rw [zk c1] at HV
   cases fu with
   | true =>
    rw [zl rfl] at HV
    obtain ⟨zs, hzs⟩ : ∃ zs : List Value, zs = [.int .i64 3, .string ⟨#[]⟩, .int .i64 0, .int .i64 0, .int .i64 0, .int .i64 0, .int .i64 0, .slice none 0 0, .slice none 0 0] := ⟨_, rfl⟩
    have HZ : Hid (RepZ X (X).heap.size zs (repC 3)) := zh (by rw [hzs]; exact jX _ _ _)
    have HZS := zh hzs
    have HTH := zh ((HX1.out).there HZ.out)
    have HZJ := zh HZ.out.info
    have HZO := zh HZ.out.one
    clear hzs
    go_wp2_with (refine zd rfl 106 (.tmp 4) (.tmp 29) rfl (w.heap.size + 1) 0 zs.toArray rfl (by rw [HZS.out]; rfl) HTH.out HZJ.out HZO.out ?_)
    obtain ⟨E1, E2, E3⟩ := (HX1.out).end_ HZ.out (jA (zR HX1.out.size))
    exact zi (v := .agg zs.toArray) (jH (B := w.heap.size) Tryz.results88 rfl E1 E2) rfl (by rw [HV.out]; exact ⟨_, rfl, E2.v, E3⟩)
   | false =>
    rw [zk (by simp)] at HV
    obtain ⟨g, o, hFA2, hgl, hp0, hp1⟩ := HX1.out.at_.place hkm
    have hpa := abs_at hkm
    rw [hpa] at HV
    obtain ⟨hfo, hgo, hhs, hws⟩ := HX1.out.ok.at_ hkm
    have hfat := ((HX1.out.at_.fresh (za (fun _ => False) X).drew).fl _ (ze hkm)).1
    have hbx : B ≤ X.drew.heap.size := by have h1 := HX1.out.ft.size; show B ≤ X.heap.size; omega
    have HTK := zh (take15_any X.drew B M.fs[k].f M.fs[k].m M.next c.cl c.mn hfat hbx (by omega) hfo.few.2 hfo.mn hfo.cl)
    obtain ⟨tr, htr⟩ : ∃ r, r = takeA M.fs[k].m.abs M.next c.cl c.mn := ⟨_, rfl⟩
    rw [← htr] at HTK
    have HTR := zh htr
    have HFT := zh hfat
    have HPB : Hid (∃ cs, Blk X.drew g 134 cs) := zh (by obtain ⟨cs, hc, _⟩ := HX1.out.at_.fsl.has (k := g) (by rw [hFA2]; rfl); exact ⟨cs, hc⟩)
    have HBB : Hid (Blk X.drew b 87 (bkcel M)) := zh HX1.out.at_.blk
    have HXC : Hid (Blk X.drew w.heap.size 95 cz.toArray) := zh HX1.out.cmd
    have HPV : Hid (plAt M.abs k = M.fs[k].abs) := zh hpa
    have HS0 : Hid (X.drew.cell? ⟨b, 2, none⟩ = some (.slice (some ⟨g, o, none⟩) M.fs.length M.fc) ∧ X.drew.cell? ⟨b, 1, none⟩ = some (.int .i64 M.next) ∧ X.drew.cell? ⟨w.heap.size, 3, none⟩ = some (.int .i64 c.cl) ∧ X.drew.cell? ⟨w.heap.size, 4, none⟩ = some (.int .i64 c.mn) ∧ X.drew.cell? ⟨g, o + k * 2, none⟩ = some (.pointer (some ⟨M.fs[k].f, 0, none⟩))) := zh ⟨by rw [← hFA2]; exact HBB.out.cell 2, HBB.out.cell 1, (HCF.out _ HXC.out).2.1, (HCF.out _ HXC.out).2.2.1, hp0⟩
    have HSG : Hid (∀ w8, StepF X.drew B M.fs[k].f M.fs[k].m tr.2 w8 → w8.cell? ⟨b, 2, none⟩ = some (.slice (some ⟨g, o, none⟩) M.fs.length M.fc) ∧ w8.cell? ⟨b, 1, none⟩ = some (.int .i64 M.next) ∧ w8.cell? ⟨w.heap.size, 3, none⟩ = some (.int .i64 c.cl) ∧ w8.cell? ⟨w.heap.size, 4, none⟩ = some (.int .i64 c.mn) ∧ w8.cell? ⟨g, o + k * 2, none⟩ = some (.pointer (some ⟨M.fs[k].f, 0, none⟩))) := zh fun w8 hs8 => by
     obtain ⟨cs, hc⟩ := HPB.out
     have a1 := StepF.keep HFT.out hs8 HBB.out (by decide) (by decide)
     have a2 := StepF.keep HFT.out hs8 HXC.out (by decide) (by decide)
     have a3 := StepF.keep HFT.out hs8 hc (by decide) (by decide)
     refine ⟨by rw [← hFA2]; exact a1.cell 2, a1.cell 1, (HCF.out _ a2).2.1, (HCF.out _ a2).2.2.1, ?_⟩
     rw [a3.cell, ← hc.cell]
     exact hp0
    have HKM := zh hkm
    clear htr hpa hfat hbx hfo hgo hws hp0 hp1 hgl hhs
    have k0 : (0 : Int) ≤ (k : Int) := by omega
    have k1 : (k : Int) < (M.fs.length : Int) := by omega
    generalize hfsl : M.fs.length = fl at k1
    rw [hfsl] at HS0 HSG
    go_wp2_with fail
    refine zj (S := (fun w' => w'.cell? ⟨b, 2, none⟩ = some (.slice (some ⟨g, o, none⟩) fl M.fc) ∧ w'.cell? ⟨b, 1, none⟩ = some (.int .i64 M.next) ∧ w'.cell? ⟨w.heap.size, 3, none⟩ = some (.int .i64 c.cl) ∧ w'.cell? ⟨w.heap.size, 4, none⟩ = some (.int .i64 c.mn) ∧ w'.cell? ⟨g, o + k * 2, none⟩ = some (.pointer (some ⟨M.fs[k].f, 0, none⟩)))) (by kernel_rfl) (HS0.out) (fun hHeld => ?_)
    iterate 16 ((first | refine ztn (v := ?_) (zo rfl) ?_ | refine ztz (v := ?_) (zo rfl) ?_); try simp only [Act.put, zT, zZ, zS])
    refine zr1 16 (zo rfl) (fun K hK => ?_)
    go_simp
    refine (HTK.out).mono ?_
    rintro e w8 ⟨rfl, hs8⟩
    refine hK.out _ _ (HSG.out w8 hs8) (fun hHeld => ?_)
    clear hK K
    try simp only [Act.put, zT, zZ, zS]
    (refine ztn (v := ?_) (zo rfl) ?_; try simp only [Act.put, zT, zZ, zS])
    refine wpAnyH_done (by kernel_rfl) ?_ _
    obtain ⟨m9, em9, hb9', ft9⟩ := (HX1.out.at_.fresh (za (fun _ => False) X).drew).setF (FT.refl bookT B X.drew) HKM.out hs8
    obtain ⟨M9, hM9⟩ : ∃ z : BkM, z = { M with fs := M.fs.set k { M.fs[k] with m := m9 } } := ⟨_, rfl⟩
    have hb9 : BookAt w8 B b M9 := by rw [hM9]; exact hb9'
    clear hb9'
    have h9a : M9.abs = { M.abs with fs := M.abs.fs.set k ⟨tr.2, (plAt M.abs k).q⟩ } := by
     rw [hM9, abs_setFs, HPV.out]
     unfold PlM.abs
     dsimp only
     rw [em9]
     rfl
    have hft9 : FT bookT B X w8 := (FT.of_fresh (za (fun _ => False) X).drew).trans ft9
    have HTV : Hid ((plAt M.abs k).f = M.fs[k].m.abs) := zh (by rw [HPV.out]; rfl)
    have HTE : Hid (tr = takeA (plAt M.abs k).f M.next c.cl c.mn) := zh (by rw [HTV.out]; exact HTR.out)
    have HV2 : Hid (holdA M.abs c = if tr.1 ≠ 0 then (M.abs, repC tr.1) else (held M.abs k c, toldA (held M.abs k c) M.l.length)) := zh (by rw [HTE.out, HTV.out]; exact HV.out)
    clear hs8 HV
    by_cases c2 : tr.1 = 0
    ·rw [zk (by simpa using c2)] at HV2
     have d2 : (tr.1 != 0) = false := by simpa using c2
     have HB9 := zh hb9
     have HF9 := zh hft9
     have HA9 := zh h9a
     have hl9 : M9.l = M.l := by rw [hM9]
     have hn9 : M9.next = M.next := by rw [hM9]
     have hB9 : Hid (B ≤ w8.heap.size) := zh (by have h1 := HX1.out.ft.size; have h2 := hft9.size; omega)
     have HC9 := zh (hft9.blk HX1.out.cmd (by decide))
     have HR9 := zh (hft9.blk HX1.out.rep (by decide))
     have HL9 := zh hl9
     have HN9 := zh hn9
     clear hb9 ft9 hft9 h9a hM9 em9 c2
     go_wp2_with fail
     have HFV : Hid (Fresh w8 (w8.drew.alloc (.cells #[.int .i64 M.next, .int .i64 c.fl, .int .i64 c.cl, .int .i64 c.mn, .int .i64 1, .int .i64 c.tm] 146))) := zh ((za (fun _ => False) w8).drew.alloc _)
     have RV : Hid (Rd (w8.drew.alloc (.cells #[.int .i64 M.next, .int .i64 c.fl, .int .i64 c.cl, .int .i64 c.mn, .int .i64 1, .int .i64 c.tm] 146)) (w8.drew.heap.size + 1) (some ⟨w8.drew.heap.size, 0, none⟩) (bcel ⟨M.next, c.fl, c.cl, c.mn, 1, c.tm⟩)) := zh (jL w8.drew (bcel ⟨M.next, c.fl, c.cl, c.mn, 1, c.tm⟩) 146)
     have HBV : Hid (BookAt (w8.drew.alloc (.cells #[.int .i64 M.next, .int .i64 c.fl, .int .i64 c.cl, .int .i64 c.mn, .int .i64 1, .int .i64 c.tm] 146)) B b M9) := zh (HB9.out.fresh HFV.out)
     have hb0 : w8.drew.cell? ⟨b, 3, none⟩ = some (.slice M9.LA M.l.length M9.lc) := by rw [← HL9.out]; exact HB9.out.blk.cell 3
     have hb1 : (w8.drew.alloc (.cells #[.int .i64 M.next, .int .i64 c.fl, .int .i64 c.cl, .int .i64 c.mn, .int .i64 1, .int .i64 c.tm] 146)).cell? ⟨b, 3, none⟩ = some (.slice M9.LA M.l.length M9.lc) := by rw [← HL9.out]; exact HBV.out.blk.cell 3
     have hb2 : (w8.alloc (.cells #[.int .i64 M.next, .int .i64 c.fl, .int .i64 c.cl, .int .i64 c.mn, .int .i64 1, .int .i64 c.tm] 146)).drew.cell? ⟨b, 3, none⟩ = some (.slice M9.LA M.l.length M9.lc) := hb1
     have HSL : Hid (Sl (w8.drew.alloc (.cells #[.int .i64 M.next, .int .i64 c.fl, .int .i64 c.cl, .int .i64 c.mn, .int .i64 1, .int .i64 c.tm] 146)) B 146 6 (.slice M9.LA M.l.length M9.lc) M.l.length (M.l.flatMap bcel)) := zh (by have h1 := HBV.out.lsl; rw [HL9.out] at h1; exact h1)
     have HON : Hid (∀ u ∈ bcel ⟨M.next, c.fl, c.cl, c.mn, 1, c.tm⟩, u.oneCell' = true) := zh (by have h1 := bcel_one [⟨M.next, c.fl, c.cl, c.mn, 1, c.tm⟩]; simpa using h1)
     have HGB : Hid (∀ k', (Value.slice M9.LA M.l.length M9.lc).ownBlock = some k' → k' ≠ b) := zh fun k' hk' e => by subst e; exact HSL.out.apart HBV.out.blk (by decide) hk'
     have HCV : Hid (Blk (w8.drew.alloc (.cells #[.int .i64 M.next, .int .i64 c.fl, .int .i64 c.cl, .int .i64 c.mn, .int .i64 1, .int .i64 c.tm] 146)) w.heap.size 95 cz.toArray) := zh (HC9.out.frm HFV.out (fun f => f))
     have HPB3 : w.heap.size ≠ b := HCV.out.apart HBV.out.blk (by decide)
     have HS8 : Hid (∀ w', Fresh w8 w' → w'.cell? ⟨b, 1, none⟩ = some (.int .i64 M.next) ∧ w'.cell? ⟨w.heap.size, 2, none⟩ = some (.int .i64 c.fl) ∧ w'.cell? ⟨w.heap.size, 3, none⟩ = some (.int .i64 c.cl) ∧ w'.cell? ⟨w.heap.size, 4, none⟩ = some (.int .i64 c.mn) ∧ w'.cell? ⟨w.heap.size, 5, none⟩ = some (.int .i64 c.tm)) := zh fun w' F => ⟨by rw [← HN9.out]; exact (HB9.out.fresh F).blk.cell 1, HCF.out w' (HC9.out.frm F (fun f => f))⟩
     have HSA : Hid (∀ wa, Frm (fun k => (Value.slice M9.LA M.l.length M9.lc).ownBlock = some k) (w8.drew.alloc (.cells #[.int .i64 M.next, .int .i64 c.fl, .int .i64 c.cl, .int .i64 c.mn, .int .i64 1, .int .i64 c.tm] 146)) wa → wa.cell? ⟨b, 1, none⟩ = some (.int .i64 M.next) ∧ wa.cell? ⟨w.heap.size, 2, none⟩ = some (.int .i64 c.fl) ∧ wa.cell? ⟨w.heap.size, 3, none⟩ = some (.int .i64 c.cl) ∧ wa.cell? ⟨w.heap.size, 4, none⟩ = some (.int .i64 c.mn) ∧ wa.cell? ⟨w.heap.size, 5, none⟩ = some (.int .i64 c.tm)) := zh fun wa F => ⟨by rw [← HN9.out]; exact (HBV.out.blk.frm F (fun e => HGB.out _ e rfl)).cell 1, HCF.out wa (HCV.out.frm F (fun e => HSL.out.apart HCV.out (by decide) e))⟩
     have HSB : Hid (∀ wa u, Frm (fun k => (Value.slice M9.LA M.l.length M9.lc).ownBlock = some k) (w8.drew.alloc (.cells #[.int .i64 M.next, .int .i64 c.fl, .int .i64 c.cl, .int .i64 c.mn, .int .i64 1, .int .i64 c.tm] 146)) wa → (wa.setCell ⟨b, 3, none⟩ u).cell? ⟨b, 1, none⟩ = some (.int .i64 M.next) ∧ (wa.setCell ⟨b, 3, none⟩ u).cell? ⟨w.heap.size, 2, none⟩ = some (.int .i64 c.fl) ∧ (wa.setCell ⟨b, 3, none⟩ u).cell? ⟨w.heap.size, 3, none⟩ = some (.int .i64 c.cl) ∧ (wa.setCell ⟨b, 3, none⟩ u).cell? ⟨w.heap.size, 4, none⟩ = some (.int .i64 c.mn) ∧ (wa.setCell ⟨b, 3, none⟩ u).cell? ⟨w.heap.size, 5, none⟩ = some (.int .i64 c.tm)) := zh fun wa u F => ⟨by rw [← HN9.out]; exact ((HBV.out.blk.frm F (fun e => HGB.out _ e rfl)).set 3 u).cell 1, HCF.out _ ((HCV.out.frm F (fun e => HSL.out.apart HCV.out (by decide) e)).far (p := ⟨b, 3, none⟩) HPB3 u)⟩
     have hnw : IntKind.i64.wrap (M.next + 1) = M.next + 1 := zm _ (by omega)
     refine zj (S := (fun w' => w'.cell? ⟨b, 1, none⟩ = some (.int .i64 M.next) ∧ w'.cell? ⟨w.heap.size, 2, none⟩ = some (.int .i64 c.fl) ∧ w'.cell? ⟨w.heap.size, 3, none⟩ = some (.int .i64 c.cl) ∧ w'.cell? ⟨w.heap.size, 4, none⟩ = some (.int .i64 c.mn) ∧ w'.cell? ⟨w.heap.size, 5, none⟩ = some (.int .i64 c.tm))) (by kernel_rfl) (HS8.out _ (za _ _).drew) (fun hHeld => ?_)
     iterate 4 ((first | refine ztn (v := ?_) (zo rfl) ?_ | refine ztz (v := ?_) (zo rfl) ?_); try simp only [Act.put, zT, zZ, zS])
     (refine zt 5 (v := ?_) (zo rfl) ?_; try simp only [Act.put, zT, zZ, zS])
     iterate 12 (refine ztn (v := ?_) (zo rfl) ?_; try simp only [Act.put, zT, zZ, zS])
     refine zr2 4 18 (zo rfl) (zo rfl) (fun K hK => ?_) (fun K hK => ?_)
     ·go_simp
      refine hK.out _ _ (HS8.out _ (za _ _).drew) (fun hHeld => ?_)
      clear hK K
      try simp only [Act.put, zT, zZ, zS]
      refine zr1 18 (zo rfl) (fun K hK => ?_)
      go_simp
      refine hK.out _ _ (HS8.out _ HFV.out) (fun hHeld => ?_)
      clear hK K
      try simp only [Act.put, zT, zZ, zS]
      refine zr1 19 (zo rfl) (fun K hK => ?_)
      refine jF (by rfl) (.tmp 55) (.tmp 69) _ (by rfl) B 146 i0 _ 6 48 Tryz.underlying85 hi0 hz0 hz1 hz2 rfl (by omega) (.slice M9.LA M.l.length M9.lc) M.l.length (M.l.flatMap bcel) (by simp [Act.eval, Act.put]) HSL.out (w8.drew.heap.size + 1) (some ⟨w8.drew.heap.size, 0, none⟩) 1 1 (bcel ⟨M.next, c.fl, c.cl, c.mn, 1, c.tm⟩) (by simp [Act.eval, Act.put]) rfl RV.out HON.out (by unfold maxLen; omega) (by omega) (zp hB9.out HFV.out.size) ?_
      intro v1 wa hs1 hf1 ha1
      obtain ⟨A3, c3, rfl, _⟩ := hs1.shape
      have HS1 := zh hs1
      have HF1 := zh hf1
      have hba := HBV.out.blk.frm hf1 (fun e => HGB.out _ e rfl)
      have hca : wa.cell? ⟨b, 3, none⟩ = some (.slice M9.LA M9.l.length M9.lc) := hba.cell 3
      have hfa := hba.frozen 3
      clear hs1 hf1 ha1 hba
      refine hK.out _ _ (HSA.out wa HF1.out) (fun hHeld => ?_)
      clear hK K
      try simp only [Act.put, zT, zZ, zS]
      iterate 2 (refine ztn (v := ?_) (zo rfl) ?_; try simp only [Act.put, zT, zZ, zS])
      refine zr1 22 (zo rfl) (fun K hK => ?_)
      go_simp
      refine hK.out _ _ (HSB.out wa _ HF1.out) (fun hHeld => ?_)
      clear hK K
      try simp only [Act.put, zT, zZ, zS]
      refine wpAnyH_done (by kernel_rfl) ?_ _
      have hp := HBV.out.push (A3 := A3) (c3 := c3) (y := ⟨M.next, c.fl, c.cl, c.mn, 1, c.tm⟩) (by rw [HL9.out]; exact HS1.out) (by rw [HL9.out]; exact HF1.out)
      rw [HL9.out] at hp
      obtain ⟨hb10, ft10⟩ := hp
      obtain ⟨X10, hX10⟩ : ∃ z, z = wa.setCell ⟨b, 3, none⟩ (.slice A3 (M.l.length + 1) c3) := ⟨_, rfl⟩
      rw [← hX10] at hb10 ft10 ⊢
      have hM10 : Mid w X10 cz B b n M9 → True := fun _ => trivial
      have HFT10 : Hid (FT bookT B w8 X10) := zh ((FT.of_fresh HFV.out).trans ft10)
      have HC10 := zh (HFT10.out.blk HC9.out (by decide))
      have HR10 := zh (HFT10.out.blk HR9.out (by decide))
      have z1 : X10.cell? ⟨b, 1, none⟩ = some (.int .i64 M.next) := by rw [← HN9.out]; exact hb10.blk.cell 1
      have z2 := hb10.blk.frozen 1
      obtain ⟨M11, e11, hb11, ft11⟩ := hb10.setNext (FT.refl bookT B X10) (M.next + 1)
      have HE11 : Hid (M11.abs = held M.abs k c) := zh (by have hTE : tr = takeA (plAt M.abs k).f M.abs.next c.cl c.mn := HTE.out; have q1 : M9.now = M.now := congrArg Book.now HA9.out; have q3 : M9.fs.map PlM.abs = M.abs.fs.set k ⟨tr.2, (plAt M.abs k).q⟩ := congrArg Book.fs HA9.out; rw [e11]; unfold held; rw [← hTE]; show (⟨M9.now, M.next + 1, M9.fs.map PlM.abs, M.l ++ [⟨M.next, c.fl, c.cl, c.mn, 1, c.tm⟩]⟩ : Book) = _; rw [q1, q3]; rfl)
      have hl11 : M11.l.length = M.l.length + 1 := by have h1 : M11.l = M.l ++ [⟨M.next, c.fl, c.cl, c.mn, 1, c.tm⟩] := congrArg Book.l e11; rw [h1]; simp
      obtain ⟨X11, hX11⟩ : ∃ z, X10.setCell ⟨b, 1, none⟩ (.int .i64 (M.next + 1)) = z := ⟨_, rfl⟩
      rw [hX11] at hb11 ft11
      have HM11 : Hid (Mid w X11 cz B b (n + 1) M11) := zh ⟨ft11.blk HC10.out (by decide), ft11.blk HR10.out (by decide), (HX1.out.ft.trans (HF9.out.trans HFT10.out)).trans ft11, hb11, by rw [HE11.out]; exact HHK.out⟩
      have y3 : X11.cell? ⟨b, 3, none⟩ = some (.slice M11.LA M11.l.length M11.lc) := hb11.blk.cell 3
      have hls : ((M11.l.length : Nat) : Int) - 1 = (M.l.length : Int) := by omega
      have hlw : IntKind.i64.wrap ((M11.l.length : Int) - 1) = (M.l.length : Int) := by rw [hls]; exact zm _ (by omega)
      have HTO := zh (told18_any X11 B b M11 (n + 1) M.l.length hb11 HM11.out.ok (by omega) (by omega))
      generalize M11.l.length = L11 at y3 hls hlw
      clear hb10 ft10 hX10 e11 hl11 hb11 ft11 hca hfa hb0 hb1 hb2
      go_wp2_with fail
      clear hX11
      refine HTO.out.mono ?_
      rintro e X12 ⟨v12, rfl, hv12, f12⟩
      obtain ⟨zs, rfl, hz12⟩ := hv12.z
      have HM12 := zh (HM11.out.fresh f12)
      have HZ12 := zh hz12
      have HTH := zh (HM12.out.there HZ12.out)
      have HZJ := zh HZ12.out.info
      have HZO := zh HZ12.out.one
      clear f12 hv12 hz12
      go_wp2_with (refine zd rfl 106 (.tmp 4) (.tmp 87) rfl (w.heap.size + 1) 0 zs.toArray rfl rfl HTH.out HZJ.out HZO.out ?_)
      obtain ⟨E1, E2, E3⟩ := HM12.out.end_ HZ12.out (by have := HM11.out.size; omega)
      exact zi (v := .agg zs.toArray) (jH (B := w.heap.size) Tryz.results88 rfl E1 E2) rfl (by rw [HV2.out, ← HE11.out]; exact ⟨_, rfl, E2.v, E3⟩)
     ·go_simp
      refine hK.out _ _ (HS8.out _ ((za (fun _ => False) w8).drew.alloc _)) (fun hHeld => ?_)
      clear hK K
      try simp only [Act.put, zT, zZ, zS]
      refine zr1 4 (zo rfl) (fun K hK => ?_)
      go_simp
      refine hK.out _ _ (HS8.out _ ((za (fun _ => False) w8).drew.alloc _)) (fun hHeld => ?_)
      clear hK K
      try simp only [Act.put, zT, zZ, zS]
      refine zr1 19 (zo rfl) (fun K hK => ?_)
      refine jF (by rfl) (.tmp 55) (.tmp 69) _ (by rfl) B 146 i0 _ 6 48 Tryz.underlying85 hi0 hz0 hz1 hz2 rfl (by omega) (.slice M9.LA M.l.length M9.lc) M.l.length (M.l.flatMap bcel) (by simp [Act.eval, Act.put]) HSL.out (w8.drew.heap.size + 1) (some ⟨w8.drew.heap.size, 0, none⟩) 1 1 (bcel ⟨M.next, c.fl, c.cl, c.mn, 1, c.tm⟩) (by simp [Act.eval, Act.put]) rfl RV.out HON.out (by unfold maxLen; omega) (by omega) (zp hB9.out HFV.out.size) ?_
      intro v1 wa hs1 hf1 ha1
      obtain ⟨A3, c3, rfl, _⟩ := hs1.shape
      have HS1 := zh hs1
      have HF1 := zh hf1
      have hba := HBV.out.blk.frm hf1 (fun e => HGB.out _ e rfl)
      have hca : wa.cell? ⟨b, 3, none⟩ = some (.slice M9.LA M9.l.length M9.lc) := hba.cell 3
      have hfa := hba.frozen 3
      clear hs1 hf1 ha1 hba
      refine hK.out _ _ (HSA.out wa HF1.out) (fun hHeld => ?_)
      clear hK K
      try simp only [Act.put, zT, zZ, zS]
      iterate 2 (refine ztn (v := ?_) (zo rfl) ?_; try simp only [Act.put, zT, zZ, zS])
      refine zr1 22 (zo rfl) (fun K hK => ?_)
      go_simp
      refine hK.out _ _ (HSB.out wa _ HF1.out) (fun hHeld => ?_)
      clear hK K
      try simp only [Act.put, zT, zZ, zS]
      refine wpAnyH_done (by kernel_rfl) ?_ _
      have hp := HBV.out.push (A3 := A3) (c3 := c3) (y := ⟨M.next, c.fl, c.cl, c.mn, 1, c.tm⟩) (by rw [HL9.out]; exact HS1.out) (by rw [HL9.out]; exact HF1.out)
      rw [HL9.out] at hp
      obtain ⟨hb10, ft10⟩ := hp
      obtain ⟨X10, hX10⟩ : ∃ z, z = wa.setCell ⟨b, 3, none⟩ (.slice A3 (M.l.length + 1) c3) := ⟨_, rfl⟩
      rw [← hX10] at hb10 ft10 ⊢
      have hM10 : Mid w X10 cz B b n M9 → True := fun _ => trivial
      have HFT10 : Hid (FT bookT B w8 X10) := zh ((FT.of_fresh HFV.out).trans ft10)
      have HC10 := zh (HFT10.out.blk HC9.out (by decide))
      have HR10 := zh (HFT10.out.blk HR9.out (by decide))
      have z1 : X10.cell? ⟨b, 1, none⟩ = some (.int .i64 M.next) := by rw [← HN9.out]; exact hb10.blk.cell 1
      have z2 := hb10.blk.frozen 1
      obtain ⟨M11, e11, hb11, ft11⟩ := hb10.setNext (FT.refl bookT B X10) (M.next + 1)
      have HE11 : Hid (M11.abs = held M.abs k c) := zh (by have hTE : tr = takeA (plAt M.abs k).f M.abs.next c.cl c.mn := HTE.out; have q1 : M9.now = M.now := congrArg Book.now HA9.out; have q3 : M9.fs.map PlM.abs = M.abs.fs.set k ⟨tr.2, (plAt M.abs k).q⟩ := congrArg Book.fs HA9.out; rw [e11]; unfold held; rw [← hTE]; show (⟨M9.now, M.next + 1, M9.fs.map PlM.abs, M.l ++ [⟨M.next, c.fl, c.cl, c.mn, 1, c.tm⟩]⟩ : Book) = _; rw [q1, q3]; rfl)
      have hl11 : M11.l.length = M.l.length + 1 := by have h1 : M11.l = M.l ++ [⟨M.next, c.fl, c.cl, c.mn, 1, c.tm⟩] := congrArg Book.l e11; rw [h1]; simp
      obtain ⟨X11, hX11⟩ : ∃ z, X10.setCell ⟨b, 1, none⟩ (.int .i64 (M.next + 1)) = z := ⟨_, rfl⟩
      rw [hX11] at hb11 ft11
      have HM11 : Hid (Mid w X11 cz B b (n + 1) M11) := zh ⟨ft11.blk HC10.out (by decide), ft11.blk HR10.out (by decide), (HX1.out.ft.trans (HF9.out.trans HFT10.out)).trans ft11, hb11, by rw [HE11.out]; exact HHK.out⟩
      have y3 : X11.cell? ⟨b, 3, none⟩ = some (.slice M11.LA M11.l.length M11.lc) := hb11.blk.cell 3
      have hls : ((M11.l.length : Nat) : Int) - 1 = (M.l.length : Int) := by omega
      have hlw : IntKind.i64.wrap ((M11.l.length : Int) - 1) = (M.l.length : Int) := by rw [hls]; exact zm _ (by omega)
      have HTO := zh (told18_any X11 B b M11 (n + 1) M.l.length hb11 HM11.out.ok (by omega) (by omega))
      generalize M11.l.length = L11 at y3 hls hlw
      clear hb10 ft10 hX10 e11 hl11 hb11 ft11 hca hfa hb0 hb1 hb2
      go_wp2_with fail
      clear hX11
      refine HTO.out.mono ?_
      rintro e X12 ⟨v12, rfl, hv12, f12⟩
      obtain ⟨zs, rfl, hz12⟩ := hv12.z
      have HM12 := zh (HM11.out.fresh f12)
      have HZ12 := zh hz12
      have HTH := zh (HM12.out.there HZ12.out)
      have HZJ := zh HZ12.out.info
      have HZO := zh HZ12.out.one
      clear f12 hv12 hz12
      go_wp2_with (refine zd rfl 106 (.tmp 4) (.tmp 87) rfl (w.heap.size + 1) 0 zs.toArray rfl rfl HTH.out HZJ.out HZO.out ?_)
      obtain ⟨E1, E2, E3⟩ := HM12.out.end_ HZ12.out (by have := HM11.out.size; omega)
      exact zi (v := .agg zs.toArray) (jH (B := w.heap.size) Tryz.results88 rfl E1 E2) rfl (by rw [HV2.out, ← HE11.out]; exact ⟨_, rfl, E2.v, E3⟩)
    ·have d2 : (tr.1 != 0) = true := by simpa using c2
     rw [zl c2] at HV2
     have he9 : M9.abs = M.abs := by
      rw [HTE.out] at c2
      rw [h9a, HTE.out, takeA_no c2]
      have hkf : k < M.abs.fs.length := by rw [jJ]; exact HKM.out
      rw [jP hkf, show (⟨M.abs.fs[k].f, M.abs.fs[k].q⟩ : Pl) = M.abs.fs[k] from rfl, set_self hkf]
     have HM9 : Hid (Mid w w8 cz B b n M9) := zh (HX1.out.step hft9 hb9 (by rw [he9]; exact HX1.out.ok))
     have HE9 := zh he9
     clear hb9 ft9 hft9 h9a hM9 em9 he9 c2
     obtain ⟨te, tf⟩ := tr
     dsimp only at d2 HV2
     obtain ⟨zs, hzs⟩ : ∃ zs : List Value, zs = [.int .i64 te, .string ⟨#[]⟩, .int .i64 0, .int .i64 0, .int .i64 0, .int .i64 0, .int .i64 0, .slice none 0 0, .slice none 0 0] := ⟨_, rfl⟩
     have HZ : Hid (RepZ w8 (w8).heap.size zs (repC te)) := zh (by rw [hzs]; exact jX _ _ _)
     have HZS := zh hzs
     have HTH := zh ((HM9.out).there HZ.out)
     have HZJ := zh HZ.out.info
     have HZO := zh HZ.out.one
     clear hzs
     go_wp2_with (refine zd rfl 106 (.tmp 4) (.tmp 50) rfl (w.heap.size + 1) 0 zs.toArray rfl (by rw [HZS.out]; rfl) HTH.out HZJ.out HZO.out ?_)
     obtain ⟨E1, E2, E3⟩ := (HM9.out).end_ HZ.out (jA (zR HM9.out.size))
     exact zi (v := .agg zs.toArray) (jH (B := w.heap.size) Tryz.results88 rfl E1 E2) rfl (by rw [HV2.out, ← HE9.out]; exact ⟨_, rfl, E2.v, E3⟩)
end
end Go.Proofs.YtnmokpbomeamfaaGreat

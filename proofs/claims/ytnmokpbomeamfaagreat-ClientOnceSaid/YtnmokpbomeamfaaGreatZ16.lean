/- Proved here, for the statement ClientOnceSaid: laws that its walk leans on. It holds with no condition. (Put together and shortened by a program out of many texts: On34, On35.) -/
import Derived.Test.YtnmokpbomeamfaaGreatZ15
set_option linter.unusedVariables false
set_option maxRecDepth 100000
set_option maxHeartbeats 64000000
namespace Go.Proofs.YtnmokpbomeamfaaGreat
section
open Go.RowKit QueueM
theorem wait18_any (w : World) (B b : Nat) (M : BkM) (n : Nat) (c : Cm) (GA : Option Addr) (gc : Nat) (PA : Option Addr) (pc : Nat) (h : BookAt w B b M) (hB : B ≤ w.heap.size) (hk : BookOk n M.abs) (hn : n < 100) (hc : CmB c) :
 Calls Tryz.prog 89 #[.pointer (some ⟨b, 0, none⟩), .agg (ccel c GA gc PA pc).toArray] w fun e w' => jN w B b (waitA M.abs c) e w' := by
 obtain ⟨i0, hi0, hz0, hz1, hz2⟩ := info_parts info_bk
 obtain ⟨cz, hcz⟩ : ∃ x, x = ccel c GA gc PA pc := ⟨_, rfl⟩
 obtain ⟨W, hW⟩ : ∃ W, (w.alloc (.cells cz.toArray 95)).alloc (.cells rz.toArray 106) = W := ⟨_, rfl⟩
 have HPR : Hid (Pre w W cz) := zh (by rw [← hW]; exact pre_of w cz)
 have HM0 : Hid (Mid w W cz B b n M) := zh (Mid.of HPR.out h hk)
 have HCF : Hid (∀ w', Blk w' w.heap.size 95 cz.toArray → w'.cell? ⟨w.heap.size, 2, none⟩ = some (.int .i64 c.fl) ∧ w'.cell? ⟨w.heap.size, 3, none⟩ = some (.int .i64 c.cl) ∧ w'.cell? ⟨w.heap.size, 4, none⟩ = some (.int .i64 c.mn) ∧ w'.cell? ⟨w.heap.size, 6, none⟩ = some (.float .f64 c.sc)) := zh fun w' hb => by rw [hcz] at hb; exact ⟨hb.cell 2, hb.cell 3, hb.cell 4, hb.cell 6⟩
 have hfew : M.fs.length ≤ 8 := by have := hk.few; rw [jJ] at this; exact this
 have HFL : Hid (Calls Tryz.prog 70 #[.pointer (some ⟨b, 0, none⟩), .int .i64 c.fl] W fun e w'' => e = .returned (.int .i64 (qL c.fl M.abs)) ∧ w'' = W) := zh (qD W B b M c.fl HM0.out.at_ hfew)
 have HFU := zh (full18_any W B b M HM0.out.at_)
 have HCB := zh hc
 have HV : Hid (waitA M.abs c = if qL c.fl M.abs < 0 then (M.abs, repC 2)
  else if ((plAt M.abs (qL c.fl M.abs).toNat).f.lims.length : Int) ≤ c.cl then (M.abs, repC 1)
  else if fullA M.abs = true then (M.abs, repC 3)
  else if (add (wtOf M.abs c) (plAt M.abs (qL c.fl M.abs).toNat).q).1 ≠ 0 then (M.abs, repC (add (wtOf M.abs c) (plAt M.abs (qL c.fl M.abs).toNat).q).1)
  else (promA (waits M.abs (qL c.fl M.abs).toNat c) (qL c.fl M.abs).toNat, toldA (promA (waits M.abs (qL c.fl M.abs).toNat c) (qL c.fl M.abs).toNat) M.l.length)) := zh rfl
 have HFA : Hid (0 ≤ qL c.fl M.abs → ∃ (k : Nat), k < M.fs.length ∧ qL c.fl M.abs = (k : Int)) := zh fun h0 => by
  obtain ⟨k, hk1, e1, _⟩ := flightA_at h0
  exact ⟨k, by rw [← jJ]; exact hk1, e1⟩
 have HHELD : Hid (∀ k : Nat, k < M.fs.length → qL c.fl M.abs = (k : Int) → (add (wtOf M.abs c) (plAt M.abs k).q).1 = 0 → BookOk (n + 1) (waits M.abs k c)) := zh fun k hk1 e1 ha => hk.waits hc (by rw [jJ]; exact hk1) e1 ha
 have HNX : Hid (1 ≤ M.next ∧ M.next ≤ (n : Int) + 1) := zh hk.next
 have hnx := hk.next
 have hnx1 : M.abs.next = M.next := rfl
 rw [hnx1] at hnx
 obtain ⟨x2, x3, x4, x5⟩ := HCF.out W HPR.out.cmd
 have hll : M.l.length ≤ 100 := by have h1 := hk.len; have e : M.abs.l.length = M.l.length := rfl; omega
 rw [← hcz]
 generalize qL c.fl M.abs = fa at HFL HV HFA HHELD
 generalize fullA M.abs = fu at HFU HV
 clear hcz h hk hc hnx1
 go_in
 go_upto_region 1 with fail
 first | rw [show (w.alloc (.cells cz.toArray 95)).alloc (.cells #[.int .i64 0, .string ⟨#[]⟩, .int .i64 0, .int .i64 0, .int .i64 0, .int .i64 0, .int .i64 0, .slice none 0 0, .slice none 0 0] 106) = W from hW] | skip
 clear hW
 go_wp2_with fail
 refine HFL.out.mono ?_
 rintro e w1 ⟨rfl, hw1⟩
 rw [hw1]
 clear hw1 w1
 go_wp2_with fail
 refine HFU.out.mono ?_
 rintro e w1 ⟨rfl, hw1⟩
 rw [hw1]
 clear hw1 w1 HFL HFU
 by_cases c0 : fa < 0
 ·have d0 : decide (fa < 0) = true := zc c0
  rw [zl c0] at HV
  obtain ⟨zs, hzs⟩ : ∃ zs : List Value, zs = [.int .i64 2, .string ⟨#[]⟩, .int .i64 0, .int .i64 0, .int .i64 0, .int .i64 0, .int .i64 0, .slice none 0 0, .slice none 0 0] := ⟨_, rfl⟩
  have HZ : Hid (RepZ W (W).heap.size zs (repC 2)) := zh (by rw [hzs]; exact jX _ _ _)
  have HZS := zh hzs
  have HTH := zh ((HM0.out).there HZ.out)
  have HZJ := zh HZ.out.info
  have HZO := zh HZ.out.one
  clear hzs
  go_wp2_with (refine zd rfl 106 (.tmp 4) (.tmp 17) rfl (w.heap.size + 1) 0 zs.toArray rfl (by rw [HZS.out]; rfl) HTH.out HZJ.out HZO.out ?_)
  obtain ⟨E1, E2, E3⟩ := (HM0.out).end_ HZ.out (jA (zR HM0.out.size))
  exact zi (v := .agg zs.toArray) (jH (B := w.heap.size) Tryz.results89 rfl E1 E2) rfl (by rw [HV.out]; exact ⟨_, rfl, E2.v, E3⟩)
 ·have d0 : decide (fa < 0) = false := zb c0
  rw [zk c0] at HV
  obtain ⟨k, hkm, hke⟩ := HFA.out (by omega)
  have HHK := zh (HHELD.out k hkm hke)
  subst hke
  rw [zx] at HV
  clear HFA HHELD
  obtain ⟨g, o, hFA2, hgl, hp0, hp1⟩ := HM0.out.at_.place hkm
  have hpa := abs_at hkm
  rw [hpa] at HV
  have yb : W.cell? ⟨b, 2, none⟩ = some (.slice (some ⟨g, o, none⟩) M.fs.length M.fc) := by rw [← hFA2]; exact HM0.out.at_.blk.cell 2
  have yl : W.cell? ⟨M.fs[k].f, 3, none⟩ = some (.slice M.fs[k].m.LA M.fs[k].m.lims.length M.fs[k].m.lc) := (HM0.out.at_.fl _ (ze hkm)).1.blk.cell 3
  have HX1 := zh (HM0.out.fresh (za (fun _ => False) W).drew)
  have HLI : Hid (M.fs[k].abs.f.lims.length = M.fs[k].m.lims.length) := zh rfl
  rw [HLI.out] at HV
  have k0 : (0 : Int) ≤ (k : Int) := by omega
  obtain ⟨fl, hfl⟩ : ∃ z, z = M.fs.length := ⟨_, rfl⟩
  have HFLN := zh hfl
  rw [← hfl] at yb
  have k1 : (k : Int) < (fl : Int) := by omega
  obtain ⟨fk, hfk⟩ : ∃ z, z = M.fs[k].f := ⟨_, rfl⟩
  have hp0' : W.cell? ⟨g, o + k * 2, none⟩ = some (.pointer (some ⟨fk, 0, none⟩)) := by rw [hfk]; exact hp0
  rw [← hfk] at yl
  obtain ⟨li, hli⟩ : ∃ z, z = M.fs[k].m.lims.length := ⟨_, rfl⟩
  rw [← hli] at yl HV
  generalize M.fs[k].m.LA = LLA at yl
  generalize M.fs[k].m.lc = llc at yl
  clear hfl hfk hli hp0
  go_wp2_with fail
  refine zj (S := (fun w' => w'.cell? ⟨w.heap.size, 3, none⟩ = some (.int .i64 c.cl) ∧ w'.cell? ⟨b, 2, none⟩ = some (.slice (some ⟨g, o, none⟩) fl M.fc) ∧ w'.cell? ⟨g, o + k * 2, none⟩ = some (.pointer (some ⟨fk, 0, none⟩)) ∧ w'.cell? ⟨fk, 3, none⟩ = some (.slice LLA li llc))) (by kernel_rfl) (⟨x3, yb, hp0', yl⟩) (fun hHeld => ?_)
  iterate 16 ((first | refine ztn (v := ?_) (zo rfl) ?_ | refine ztz (v := ?_) (zo rfl) ?_); try simp only [Act.put, zT, zZ, zS])
  refine wpAnyH_done (by kernel_rfl) ?_ _
  obtain ⟨X, hX⟩ : ∃ X, W.drew = X := ⟨_, rfl⟩
  have hq1 : X.cell? ⟨g, o + k * 2 + 1, none⟩ = some (.pointer (some ⟨M.fs[k].q, 0, none⟩)) := by rw [← hX]; exact hp1
  rw [hX] at HX1 ⊢
  clear hX yb x2 x3 x4 x5 yl hp0' hp1
  by_cases c1 : (li : Int) ≤ c.cl
  ·have d1 : decide ((li : Int) ≤ c.cl) = true := zc c1
   rw [zl c1] at HV
   obtain ⟨zs, hzs⟩ : ∃ zs : List Value, zs = [.int .i64 1, .string ⟨#[]⟩, .int .i64 0, .int .i64 0, .int .i64 0, .int .i64 0, .int .i64 0, .slice none 0 0, .slice none 0 0] := ⟨_, rfl⟩
   have HZ : Hid (RepZ X (X).heap.size zs (repC 1)) := zh (by rw [hzs]; exact jX _ _ _)
   have HZS := zh hzs
   have HTH := zh ((HX1.out).there HZ.out)
   have HZJ := zh HZ.out.info
   have HZO := zh HZ.out.one
   clear hzs
   go_wp2_with (refine zd rfl 106 (.tmp 4) (.tmp 34) rfl (w.heap.size + 1) 0 zs.toArray rfl (by rw [HZS.out]; rfl) HTH.out HZJ.out HZO.out ?_)
   obtain ⟨E1, E2, E3⟩ := (HX1.out).end_ HZ.out (jA (zR HX1.out.size))
   exact zi (v := .agg zs.toArray) (jH (B := w.heap.size) Tryz.results89 rfl E1 E2) rfl (by rw [HV.out]; exact ⟨_, rfl, E2.v, E3⟩)
  ·have d1 : decide ((li : Int) ≤ c.cl) = false := zb c1
   rw [zk c1] at HV
   cases fu with
   | true =>
    rw [zl rfl] at HV
    obtain ⟨zs, hzs⟩ : ∃ zs : List Value, zs = [.int .i64 3, .string ⟨#[]⟩, .int .i64 0, .int .i64 0, .int .i64 0, .int .i64 0, .int .i64 0, .slice none 0 0, .slice none 0 0] := ⟨_, rfl⟩
    have HZ : Hid (RepZ X (X).heap.size zs (repC 3)) := zh (by rw [hzs]; exact jX _ _ _)
    have HZS := zh hzs
    have HTH := zh ((HX1.out).there HZ.out)
    have HZJ := zh HZ.out.info
    have HZO := zh HZ.out.one
    clear hzs
    go_wp2_with (refine zd rfl 106 (.tmp 4) (.tmp 37) rfl (w.heap.size + 1) 0 zs.toArray rfl (by rw [HZS.out]; rfl) HTH.out HZJ.out HZO.out ?_)
    obtain ⟨E1, E2, E3⟩ := (HX1.out).end_ HZ.out (jA (zR HX1.out.size))
    exact zi (v := .agg zs.toArray) (jH (B := w.heap.size) Tryz.results89 rfl E1 E2) rfl (by rw [HV.out]; exact ⟨_, rfl, E2.v, E3⟩)
   | false =>
    rw [zk (by simp)] at HV
    obtain ⟨hfo, hgo, hhs, hws⟩ := HX1.out.ok.at_ hkm
    have hqat := (HX1.out.at_.fresh (za (fun _ => False) X).drew).qu _ (ze hkm)
    have HTK := zh (refAdd_any X.drew B M.fs[k].q M.fs[k].v M.fs[k].ws (wtOf M.abs c) hqat hgo)
    unfold wagg wtOf at HTK
    dsimp only at HTK
    obtain ⟨tr, htr⟩ : ∃ r, r = add (wtOf M.abs c) M.fs[k].ws := ⟨_, rfl⟩
    unfold AddPostR at HTK
    have htr2 : add ⟨M.abs.next, c.cl, c.mn, M.abs.now, c.sc⟩ M.fs[k].ws = tr := htr.symm
    rw [htr2] at HTK
    have HTR := zh htr
    have HFT := zh hqat
    have HPB : Hid (∃ cs, Blk X.drew g 134 cs) := zh (by obtain ⟨cs, hc, _⟩ := HX1.out.at_.fsl.has (k := g) (by rw [hFA2]; rfl); exact ⟨cs, hc⟩)
    have HBB : Hid (Blk X.drew b 87 (bkcel M)) := zh HX1.out.at_.blk
    have HXC : Hid (Blk X.drew w.heap.size 95 cz.toArray) := zh HX1.out.cmd
    have HPV : Hid (plAt M.abs k = M.fs[k].abs) := zh hpa
    have HS0 : Hid (X.drew.cell? ⟨b, 2, none⟩ = some (.slice (some ⟨g, o, none⟩) fl M.fc) ∧ X.drew.cell? ⟨b, 1, none⟩ = some (.int .i64 M.abs.next) ∧ X.drew.cell? ⟨b, 0, none⟩ = some (.int .i64 M.abs.now) ∧ X.drew.cell? ⟨w.heap.size, 3, none⟩ = some (.int .i64 c.cl) ∧ X.drew.cell? ⟨w.heap.size, 4, none⟩ = some (.int .i64 c.mn) ∧ X.drew.cell? ⟨w.heap.size, 6, none⟩ = some (.float .f64 c.sc) ∧ X.drew.cell? ⟨g, o + k * 2 + 1, none⟩ = some (.pointer (some ⟨M.fs[k].q, 0, none⟩))) := zh ⟨by rw [← hFA2, HFLN.out]; exact HBB.out.cell 2, HBB.out.cell 1, HBB.out.cell 0, (HCF.out _ HXC.out).2.1, (HCF.out _ HXC.out).2.2.1, (HCF.out _ HXC.out).2.2.2, hq1⟩
    have HSG : Hid (∀ w8, StepR X.drew B M.fs[k].q tr.2 w8 → w8.cell? ⟨b, 2, none⟩ = some (.slice (some ⟨g, o, none⟩) fl M.fc) ∧ w8.cell? ⟨b, 1, none⟩ = some (.int .i64 M.abs.next) ∧ w8.cell? ⟨b, 0, none⟩ = some (.int .i64 M.abs.now) ∧ w8.cell? ⟨w.heap.size, 3, none⟩ = some (.int .i64 c.cl) ∧ w8.cell? ⟨w.heap.size, 4, none⟩ = some (.int .i64 c.mn) ∧ w8.cell? ⟨w.heap.size, 6, none⟩ = some (.float .f64 c.sc) ∧ w8.cell? ⟨g, o + k * 2 + 1, none⟩ = some (.pointer (some ⟨M.fs[k].q, 0, none⟩))) := zh fun w8 hs8 => by
     obtain ⟨_, _, F8⟩ := hs8
     obtain ⟨cs, hc⟩ := HPB.out
     have a1 := HBB.out.frm F8 (HBB.out.apart HFT.out.blk (by decide))
     have a2 := HXC.out.frm F8 (HXC.out.apart HFT.out.blk (by decide))
     have a3 := hc.frm F8 (hc.apart HFT.out.blk (by decide))
     refine ⟨by rw [← hFA2, HFLN.out]; exact a1.cell 2, a1.cell 1, a1.cell 0, (HCF.out _ a2).2.1, (HCF.out _ a2).2.2.1, (HCF.out _ a2).2.2.2, ?_⟩
     rw [a3.cell, ← hc.cell]
     exact hq1
    have HKM := zh hkm
    clear htr htr2 hpa hqat hfo hgo hws hq1 hgl hhs
    go_wp2_with fail
    refine zj (S := (fun w' => w'.cell? ⟨b, 2, none⟩ = some (.slice (some ⟨g, o, none⟩) fl M.fc) ∧ w'.cell? ⟨b, 1, none⟩ = some (.int .i64 M.abs.next) ∧ w'.cell? ⟨b, 0, none⟩ = some (.int .i64 M.abs.now) ∧ w'.cell? ⟨w.heap.size, 3, none⟩ = some (.int .i64 c.cl) ∧ w'.cell? ⟨w.heap.size, 4, none⟩ = some (.int .i64 c.mn) ∧ w'.cell? ⟨w.heap.size, 6, none⟩ = some (.float .f64 c.sc) ∧ w'.cell? ⟨g, o + k * 2 + 1, none⟩ = some (.pointer (some ⟨M.fs[k].q, 0, none⟩)))) (by kernel_rfl) (HS0.out) (fun hHeld => ?_)
    iterate 23 ((first | refine ztn (v := ?_) (zo rfl) ?_ | refine ztz (v := ?_) (zo rfl) ?_); try simp only [Act.put, zT, zZ, zS])
    refine zr1 23 (zo rfl) (fun K hK => ?_)
    go_simp
    refine (HTK.out).mono ?_
    rintro e w8 ⟨rfl, hs8⟩
    refine hK.out _ _ (HSG.out w8 hs8) (fun hHeld => ?_)
    clear hK K
    try simp only [Act.put, zT, zZ, zS]
    (refine ztn (v := ?_) (zo rfl) ?_; try simp only [Act.put, zT, zZ, zS])
    refine wpAnyH_done (by kernel_rfl) ?_ _
    obtain ⟨v9, hb9', ft9⟩ := (HX1.out.at_.fresh (za (fun _ => False) X).drew).setQ (FT.refl bookT B X.drew) HKM.out hs8
    obtain ⟨M9, hM9⟩ : ∃ z : BkM, z = { M with fs := M.fs.set k { M.fs[k] with v := v9, ws := tr.2 } } := ⟨_, rfl⟩
    have hb9 : BookAt w8 B b M9 := by rw [hM9]; exact hb9'
    clear hb9'
    have h9a : M9.abs = { M.abs with fs := M.abs.fs.set k ⟨(plAt M.abs k).f, tr.2⟩ } := by
     rw [hM9, abs_setFs, HPV.out]
     rfl
    have hft9 : FT bookT B X w8 := (FT.of_fresh (za (fun _ => False) X).drew).trans ft9
    have HTV : Hid ((plAt M.abs k).q = M.fs[k].ws) := zh (by rw [HPV.out]; rfl)
    have HTE : Hid (tr = add (wtOf M.abs c) (plAt M.abs k).q) := zh (by rw [HTV.out]; exact HTR.out)
    have HV2 : Hid (waitA M.abs c = if tr.1 ≠ 0 then (M.abs, repC tr.1) else (promA (waits M.abs k c) k, toldA (promA (waits M.abs k c) k) M.l.length)) := zh (by rw [HTE.out, HTV.out]; exact HV.out)
    clear hs8 HV
    by_cases c2 : tr.1 = 0
    ·rw [zk (by simpa using c2)] at HV2
     have HHW := zh (HHK.out (by rw [← HTE.out]; exact c2))
     have d2 : (tr.1 != 0) = false := by simpa using c2
     have HB9 := zh hb9
     have HF9 := zh hft9
     have HA9 := zh h9a
     have hl9 : M9.l = M.l := by rw [hM9]
     have hn9 : M9.next = M.next := by rw [hM9]
     have hB9 : Hid (B ≤ w8.heap.size) := zh (by have h1 := HX1.out.ft.size; have h2 := hft9.size; omega)
     have HC9 := zh (hft9.blk HX1.out.cmd (by decide))
     have HR9 := zh (hft9.blk HX1.out.rep (by decide))
     have HL9 := zh hl9
     have HN9 := zh hn9
     clear hb9 ft9 hft9 h9a hM9 c2
     go_wp2_with fail
     have HFV : Hid (Fresh w8 (w8.drew.alloc (.cells #[.int .i64 M.next, .int .i64 c.fl, .int .i64 c.cl, .int .i64 c.mn, .int .i64 3, .int .i64 0] 146))) := zh ((za (fun _ => False) w8).drew.alloc _)
     have RV : Hid (Rd (w8.drew.alloc (.cells #[.int .i64 M.next, .int .i64 c.fl, .int .i64 c.cl, .int .i64 c.mn, .int .i64 3, .int .i64 0] 146)) (w8.drew.heap.size + 1) (some ⟨w8.drew.heap.size, 0, none⟩) (bcel ⟨M.next, c.fl, c.cl, c.mn, 3, 0⟩)) := zh (jL w8.drew (bcel ⟨M.next, c.fl, c.cl, c.mn, 3, 0⟩) 146)
     have HBV : Hid (BookAt (w8.drew.alloc (.cells #[.int .i64 M.next, .int .i64 c.fl, .int .i64 c.cl, .int .i64 c.mn, .int .i64 3, .int .i64 0] 146)) B b M9) := zh (HB9.out.fresh HFV.out)
     have hb0 : w8.drew.cell? ⟨b, 3, none⟩ = some (.slice M9.LA M.l.length M9.lc) := by rw [← HL9.out]; exact HB9.out.blk.cell 3
     have hb1 : (w8.drew.alloc (.cells #[.int .i64 M.next, .int .i64 c.fl, .int .i64 c.cl, .int .i64 c.mn, .int .i64 3, .int .i64 0] 146)).cell? ⟨b, 3, none⟩ = some (.slice M9.LA M.l.length M9.lc) := by rw [← HL9.out]; exact HBV.out.blk.cell 3
     have hb2 : (w8.alloc (.cells #[.int .i64 M.next, .int .i64 c.fl, .int .i64 c.cl, .int .i64 c.mn, .int .i64 3, .int .i64 0] 146)).drew.cell? ⟨b, 3, none⟩ = some (.slice M9.LA M.l.length M9.lc) := hb1
     have HSL : Hid (Sl (w8.drew.alloc (.cells #[.int .i64 M.next, .int .i64 c.fl, .int .i64 c.cl, .int .i64 c.mn, .int .i64 3, .int .i64 0] 146)) B 146 6 (.slice M9.LA M.l.length M9.lc) M.l.length (M.l.flatMap bcel)) := zh (by have h1 := HBV.out.lsl; rw [HL9.out] at h1; exact h1)
     have HON : Hid (∀ u ∈ bcel ⟨M.next, c.fl, c.cl, c.mn, 3, 0⟩, u.oneCell' = true) := zh (by have h1 := bcel_one [⟨M.next, c.fl, c.cl, c.mn, 3, 0⟩]; simpa using h1)
     have HGB : Hid (∀ k', (Value.slice M9.LA M.l.length M9.lc).ownBlock = some k' → k' ≠ b) := zh fun k' hk' e => by subst e; exact HSL.out.apart HBV.out.blk (by decide) hk'
     have HCV : Hid (Blk (w8.drew.alloc (.cells #[.int .i64 M.next, .int .i64 c.fl, .int .i64 c.cl, .int .i64 c.mn, .int .i64 3, .int .i64 0] 146)) w.heap.size 95 cz.toArray) := zh (HC9.out.frm HFV.out (fun f => f))
     have HPB3 : w.heap.size ≠ b := HCV.out.apart HBV.out.blk (by decide)
     have HS8 : Hid (∀ w', Fresh w8 w' → w'.cell? ⟨b, 1, none⟩ = some (.int .i64 M.next) ∧ w'.cell? ⟨w.heap.size, 2, none⟩ = some (.int .i64 c.fl) ∧ w'.cell? ⟨w.heap.size, 3, none⟩ = some (.int .i64 c.cl) ∧ w'.cell? ⟨w.heap.size, 4, none⟩ = some (.int .i64 c.mn) ∧ w'.cell? ⟨w.heap.size, 6, none⟩ = some (.float .f64 c.sc)) := zh fun w' F => ⟨by rw [← HN9.out]; exact (HB9.out.fresh F).blk.cell 1, HCF.out w' (HC9.out.frm F (fun f => f))⟩
     have HSA : Hid (∀ wa, Frm (fun k => (Value.slice M9.LA M.l.length M9.lc).ownBlock = some k) (w8.drew.alloc (.cells #[.int .i64 M.next, .int .i64 c.fl, .int .i64 c.cl, .int .i64 c.mn, .int .i64 3, .int .i64 0] 146)) wa → wa.cell? ⟨b, 1, none⟩ = some (.int .i64 M.next) ∧ wa.cell? ⟨w.heap.size, 2, none⟩ = some (.int .i64 c.fl) ∧ wa.cell? ⟨w.heap.size, 3, none⟩ = some (.int .i64 c.cl) ∧ wa.cell? ⟨w.heap.size, 4, none⟩ = some (.int .i64 c.mn) ∧ wa.cell? ⟨w.heap.size, 6, none⟩ = some (.float .f64 c.sc)) := zh fun wa F => ⟨by rw [← HN9.out]; exact (HBV.out.blk.frm F (fun e => HGB.out _ e rfl)).cell 1, HCF.out wa (HCV.out.frm F (fun e => HSL.out.apart HCV.out (by decide) e))⟩
     have HSB : Hid (∀ wa u, Frm (fun k => (Value.slice M9.LA M.l.length M9.lc).ownBlock = some k) (w8.drew.alloc (.cells #[.int .i64 M.next, .int .i64 c.fl, .int .i64 c.cl, .int .i64 c.mn, .int .i64 3, .int .i64 0] 146)) wa → (wa.setCell ⟨b, 3, none⟩ u).cell? ⟨b, 1, none⟩ = some (.int .i64 M.next) ∧ (wa.setCell ⟨b, 3, none⟩ u).cell? ⟨w.heap.size, 2, none⟩ = some (.int .i64 c.fl) ∧ (wa.setCell ⟨b, 3, none⟩ u).cell? ⟨w.heap.size, 3, none⟩ = some (.int .i64 c.cl) ∧ (wa.setCell ⟨b, 3, none⟩ u).cell? ⟨w.heap.size, 4, none⟩ = some (.int .i64 c.mn) ∧ (wa.setCell ⟨b, 3, none⟩ u).cell? ⟨w.heap.size, 6, none⟩ = some (.float .f64 c.sc)) := zh fun wa u F => ⟨by rw [← HN9.out]; exact ((HBV.out.blk.frm F (fun e => HGB.out _ e rfl)).set 3 u).cell 1, HCF.out _ ((HCV.out.frm F (fun e => HSL.out.apart HCV.out (by decide) e)).far (p := ⟨b, 3, none⟩) HPB3 u)⟩
     have hnw : IntKind.i64.wrap (M.next + 1) = M.next + 1 := zm _ (by omega)
     refine zj (S := (fun w' => w'.cell? ⟨b, 1, none⟩ = some (.int .i64 M.next) ∧ w'.cell? ⟨w.heap.size, 2, none⟩ = some (.int .i64 c.fl) ∧ w'.cell? ⟨w.heap.size, 3, none⟩ = some (.int .i64 c.cl) ∧ w'.cell? ⟨w.heap.size, 4, none⟩ = some (.int .i64 c.mn) ∧ w'.cell? ⟨w.heap.size, 6, none⟩ = some (.float .f64 c.sc))) (by kernel_rfl) (HS8.out _ (za _ _).drew) (fun hHeld => ?_)
     iterate 4 ((first | refine ztn (v := ?_) (zo rfl) ?_ | refine ztz (v := ?_) (zo rfl) ?_); try simp only [Act.put, zT, zZ, zS])
     (refine zt 5 (v := ?_) (zo rfl) ?_; try simp only [Act.put, zT, zZ, zS])
     iterate 10 (refine ztn (v := ?_) (zo rfl) ?_; try simp only [Act.put, zT, zZ, zS])
     refine zr2 4 16 (zo rfl) (zo rfl) (fun K hK => ?_) (fun K hK => ?_)
     ·go_simp
      refine hK.out _ _ (HS8.out _ (za _ _).drew) (fun hHeld => ?_)
      clear hK K
      try simp only [Act.put, zT, zZ, zS]
      refine zr1 16 (zo rfl) (fun K hK => ?_)
      go_simp
      refine hK.out _ _ (HS8.out _ HFV.out) (fun hHeld => ?_)
      clear hK K
      try simp only [Act.put, zT, zZ, zS]
      refine zr1 17 (zo rfl) (fun K hK => ?_)
      refine jF (by rfl) (.tmp 70) (.tmp 82) _ (by rfl) B 146 i0 _ 6 48 Tryz.underlying85 hi0 hz0 hz1 hz2 rfl (by omega) (.slice M9.LA M.l.length M9.lc) M.l.length (M.l.flatMap bcel) (by simp [Act.eval, Act.put]) HSL.out (w8.drew.heap.size + 1) (some ⟨w8.drew.heap.size, 0, none⟩) 1 1 (bcel ⟨M.next, c.fl, c.cl, c.mn, 3, 0⟩) (by simp [Act.eval, Act.put]) rfl RV.out HON.out (by unfold maxLen; omega) (by omega) (zp hB9.out HFV.out.size) ?_
      intro v1 wa hs1 hf1 ha1
      obtain ⟨A3, c3, rfl, _⟩ := hs1.shape
      have HS1 := zh hs1
      have HF1 := zh hf1
      have hba := HBV.out.blk.frm hf1 (fun e => HGB.out _ e rfl)
      have hca : wa.cell? ⟨b, 3, none⟩ = some (.slice M9.LA M9.l.length M9.lc) := hba.cell 3
      have hfa := hba.frozen 3
      clear hs1 hf1 ha1 hba
      refine hK.out _ _ (HSA.out wa HF1.out) (fun hHeld => ?_)
      clear hK K
      try simp only [Act.put, zT, zZ, zS]
      iterate 2 (refine ztn (v := ?_) (zo rfl) ?_; try simp only [Act.put, zT, zZ, zS])
      refine zr1 20 (zo rfl) (fun K hK => ?_)
      go_simp
      refine hK.out _ _ (HSB.out wa _ HF1.out) (fun hHeld => ?_)
      clear hK K
      try simp only [Act.put, zT, zZ, zS]
      refine wpAnyH_done (by kernel_rfl) ?_ _
      have hp := HBV.out.push (A3 := A3) (c3 := c3) (y := ⟨M.next, c.fl, c.cl, c.mn, 3, 0⟩) (by rw [HL9.out]; exact HS1.out) (by rw [HL9.out]; exact HF1.out)
      rw [HL9.out] at hp
      obtain ⟨hb10, ft10⟩ := hp
      obtain ⟨X10, hX10⟩ : ∃ z, z = wa.setCell ⟨b, 3, none⟩ (.slice A3 (M.l.length + 1) c3) := ⟨_, rfl⟩
      rw [← hX10] at hb10 ft10 ⊢
      have hM10 : Mid w X10 cz B b n M9 → True := fun _ => trivial
      have HFT10 : Hid (FT bookT B w8 X10) := zh ((FT.of_fresh HFV.out).trans ft10)
      have HC10 := zh (HFT10.out.blk HC9.out (by decide))
      have HR10 := zh (HFT10.out.blk HR9.out (by decide))
      have z1 : X10.cell? ⟨b, 1, none⟩ = some (.int .i64 M.next) := by rw [← HN9.out]; exact hb10.blk.cell 1
      have z2 := hb10.blk.frozen 1
      obtain ⟨M11, e11, hb11, ft11⟩ := hb10.setNext (FT.refl bookT B X10) (M.next + 1)
      have HE11 : Hid (M11.abs = waits M.abs k c) := zh (by have hTE : tr = add (wtOf M.abs c) (plAt M.abs k).q := HTE.out; have q1 : M9.now = M.now := congrArg Book.now HA9.out; have q3 : M9.fs.map PlM.abs = M.abs.fs.set k ⟨(plAt M.abs k).f, tr.2⟩ := congrArg Book.fs HA9.out; rw [e11]; unfold waits; rw [← hTE]; show (⟨M9.now, M.next + 1, M9.fs.map PlM.abs, M.l ++ [⟨M.next, c.fl, c.cl, c.mn, 3, 0⟩]⟩ : Book) = _; rw [q1, q3]; rfl)
      have hl11 : M11.l.length = M.l.length + 1 := by have h1 : M11.l = M.l ++ [⟨M.next, c.fl, c.cl, c.mn, 3, 0⟩] := congrArg Book.l e11; rw [h1]; simp
      obtain ⟨X11, hX11⟩ : ∃ z, X10.setCell ⟨b, 1, none⟩ (.int .i64 (M.next + 1)) = z := ⟨_, rfl⟩
      rw [hX11] at hb11 ft11
      have HM11 : Hid (Mid w X11 cz B b (n + 1) M11) := zh ⟨ft11.blk HC10.out (by decide), ft11.blk HR10.out (by decide), (HX1.out.ft.trans (HF9.out.trans HFT10.out)).trans ft11, hb11, by rw [HE11.out]; exact HHW.out⟩
      have hkl11 : k < M11.fs.length := by rw [← jJ, HE11.out]; unfold waits; show k < (M.abs.fs.set k _).length; rw [zz, jJ]; exact HKM.out
      have HPM := zh (promote18_any X11 B b M11 (n + 1) k hb11 (by have h1 := HM11.out.ft.size; omega) HM11.out.ok (by omega) hkl11)
      have HPK := zh (HM11.out.ok.promA (k := k) (by rw [jJ]; exact hkl11))
      have HL11 := zh hl11
      clear hb10 ft10 hX10 e11 hl11 hb11 ft11 hca hfa hb0 hb1 hb2 hkl11
      go_wp2_with fail
      clear hX11
      refine HPM.out.mono ?_
      rintro e X13 ⟨rfl, hs13⟩
      obtain ⟨M13, e13, hm13⟩ := HM11.out.stepB hs13 HPK.out.1
      have HM13 := zh hm13
      have HE13 : Hid (M13.abs = promA (waits M.abs k c) k) := zh (by rw [e13, HE11.out])
      have hl13 : M13.l.length = M.l.length + 1 := by have h1 := HPK.out.2.2; rw [← e13] at h1; exact h1.trans HL11.out
      have y3 : X13.cell? ⟨b, 3, none⟩ = some (.slice M13.LA M13.l.length M13.lc) := hm13.at_.blk.cell 3
      have hls : ((M13.l.length : Nat) : Int) - 1 = (M.l.length : Int) := by omega
      have hlw : IntKind.i64.wrap ((M13.l.length : Int) - 1) = (M.l.length : Int) := by rw [hls]; exact zm _ (by omega)
      have HTO := zh (told18_any X13 B b M13 (n + 1) M.l.length hm13.at_ hm13.ok (by omega) (by omega))
      generalize M13.l.length = L13 at y3 hls hlw
      clear hs13 e13 hm13 hl13
      go_wp2_with fail
      refine HTO.out.mono ?_
      rintro e X12 ⟨v12, rfl, hv12, f12⟩
      obtain ⟨zs, rfl, hz12⟩ := hv12.z
      have HM12 := zh (HM13.out.fresh f12)
      have HZ12 := zh hz12
      have HTH := zh (HM12.out.there HZ12.out)
      have HZJ := zh HZ12.out.info
      have HZO := zh HZ12.out.one
      clear f12 hv12 hz12
      go_wp2_with (refine zd rfl 106 (.tmp 4) (.tmp 103) rfl (w.heap.size + 1) 0 zs.toArray rfl rfl HTH.out HZJ.out HZO.out ?_)
      obtain ⟨E1, E2, E3⟩ := HM12.out.end_ HZ12.out (by have := HM13.out.size; omega)
      exact zi (v := .agg zs.toArray) (jH (B := w.heap.size) Tryz.results89 rfl E1 E2) rfl (by rw [HV2.out, ← HE13.out]; exact ⟨_, rfl, E2.v, E3⟩)
     ·go_simp
      refine hK.out _ _ (HS8.out _ ((za (fun _ => False) w8).drew.alloc _)) (fun hHeld => ?_)
      clear hK K
      try simp only [Act.put, zT, zZ, zS]
      refine zr1 4 (zo rfl) (fun K hK => ?_)
      go_simp
      refine hK.out _ _ (HS8.out _ ((za (fun _ => False) w8).drew.alloc _)) (fun hHeld => ?_)
      clear hK K
      try simp only [Act.put, zT, zZ, zS]
      refine zr1 17 (zo rfl) (fun K hK => ?_)
      refine jF (by rfl) (.tmp 70) (.tmp 82) _ (by rfl) B 146 i0 _ 6 48 Tryz.underlying85 hi0 hz0 hz1 hz2 rfl (by omega) (.slice M9.LA M.l.length M9.lc) M.l.length (M.l.flatMap bcel) (by simp [Act.eval, Act.put]) HSL.out (w8.drew.heap.size + 1) (some ⟨w8.drew.heap.size, 0, none⟩) 1 1 (bcel ⟨M.next, c.fl, c.cl, c.mn, 3, 0⟩) (by simp [Act.eval, Act.put]) rfl RV.out HON.out (by unfold maxLen; omega) (by omega) (zp hB9.out HFV.out.size) ?_
      intro v1 wa hs1 hf1 ha1
      obtain ⟨A3, c3, rfl, _⟩ := hs1.shape
      have HS1 := zh hs1
      have HF1 := zh hf1
      have hba := HBV.out.blk.frm hf1 (fun e => HGB.out _ e rfl)
      have hca : wa.cell? ⟨b, 3, none⟩ = some (.slice M9.LA M9.l.length M9.lc) := hba.cell 3
      have hfa := hba.frozen 3
      clear hs1 hf1 ha1 hba
      refine hK.out _ _ (HSA.out wa HF1.out) (fun hHeld => ?_)
      clear hK K
      try simp only [Act.put, zT, zZ, zS]
      iterate 2 (refine ztn (v := ?_) (zo rfl) ?_; try simp only [Act.put, zT, zZ, zS])
      refine zr1 20 (zo rfl) (fun K hK => ?_)
      go_simp
      refine hK.out _ _ (HSB.out wa _ HF1.out) (fun hHeld => ?_)
      clear hK K
      try simp only [Act.put, zT, zZ, zS]
      refine wpAnyH_done (by kernel_rfl) ?_ _
      have hp := HBV.out.push (A3 := A3) (c3 := c3) (y := ⟨M.next, c.fl, c.cl, c.mn, 3, 0⟩) (by rw [HL9.out]; exact HS1.out) (by rw [HL9.out]; exact HF1.out)
      rw [HL9.out] at hp
      obtain ⟨hb10, ft10⟩ := hp
      obtain ⟨X10, hX10⟩ : ∃ z, z = wa.setCell ⟨b, 3, none⟩ (.slice A3 (M.l.length + 1) c3) := ⟨_, rfl⟩
      rw [← hX10] at hb10 ft10 ⊢
      have hM10 : Mid w X10 cz B b n M9 → True := fun _ => trivial
      have HFT10 : Hid (FT bookT B w8 X10) := zh ((FT.of_fresh HFV.out).trans ft10)
      have HC10 := zh (HFT10.out.blk HC9.out (by decide))
      have HR10 := zh (HFT10.out.blk HR9.out (by decide))
      have z1 : X10.cell? ⟨b, 1, none⟩ = some (.int .i64 M.next) := by rw [← HN9.out]; exact hb10.blk.cell 1
      have z2 := hb10.blk.frozen 1
      obtain ⟨M11, e11, hb11, ft11⟩ := hb10.setNext (FT.refl bookT B X10) (M.next + 1)
      have HE11 : Hid (M11.abs = waits M.abs k c) := zh (by have hTE : tr = add (wtOf M.abs c) (plAt M.abs k).q := HTE.out; have q1 : M9.now = M.now := congrArg Book.now HA9.out; have q3 : M9.fs.map PlM.abs = M.abs.fs.set k ⟨(plAt M.abs k).f, tr.2⟩ := congrArg Book.fs HA9.out; rw [e11]; unfold waits; rw [← hTE]; show (⟨M9.now, M.next + 1, M9.fs.map PlM.abs, M.l ++ [⟨M.next, c.fl, c.cl, c.mn, 3, 0⟩]⟩ : Book) = _; rw [q1, q3]; rfl)
      have hl11 : M11.l.length = M.l.length + 1 := by have h1 : M11.l = M.l ++ [⟨M.next, c.fl, c.cl, c.mn, 3, 0⟩] := congrArg Book.l e11; rw [h1]; simp
      obtain ⟨X11, hX11⟩ : ∃ z, X10.setCell ⟨b, 1, none⟩ (.int .i64 (M.next + 1)) = z := ⟨_, rfl⟩
      rw [hX11] at hb11 ft11
      have HM11 : Hid (Mid w X11 cz B b (n + 1) M11) := zh ⟨ft11.blk HC10.out (by decide), ft11.blk HR10.out (by decide), (HX1.out.ft.trans (HF9.out.trans HFT10.out)).trans ft11, hb11, by rw [HE11.out]; exact HHW.out⟩
      have hkl11 : k < M11.fs.length := by rw [← jJ, HE11.out]; unfold waits; show k < (M.abs.fs.set k _).length; rw [zz, jJ]; exact HKM.out
      have HPM := zh (promote18_any X11 B b M11 (n + 1) k hb11 (by have h1 := HM11.out.ft.size; omega) HM11.out.ok (by omega) hkl11)
      have HPK := zh (HM11.out.ok.promA (k := k) (by rw [jJ]; exact hkl11))
      have HL11 := zh hl11
      clear hb10 ft10 hX10 e11 hl11 hb11 ft11 hca hfa hb0 hb1 hb2 hkl11
      go_wp2_with fail
      clear hX11
      refine HPM.out.mono ?_
      rintro e X13 ⟨rfl, hs13⟩
      obtain ⟨M13, e13, hm13⟩ := HM11.out.stepB hs13 HPK.out.1
      have HM13 := zh hm13
      have HE13 : Hid (M13.abs = promA (waits M.abs k c) k) := zh (by rw [e13, HE11.out])
      have hl13 : M13.l.length = M.l.length + 1 := by have h1 := HPK.out.2.2; rw [← e13] at h1; exact h1.trans HL11.out
      have y3 : X13.cell? ⟨b, 3, none⟩ = some (.slice M13.LA M13.l.length M13.lc) := hm13.at_.blk.cell 3
      have hls : ((M13.l.length : Nat) : Int) - 1 = (M.l.length : Int) := by omega
      have hlw : IntKind.i64.wrap ((M13.l.length : Int) - 1) = (M.l.length : Int) := by rw [hls]; exact zm _ (by omega)
      have HTO := zh (told18_any X13 B b M13 (n + 1) M.l.length hm13.at_ hm13.ok (by omega) (by omega))
      generalize M13.l.length = L13 at y3 hls hlw
      clear hs13 e13 hm13 hl13
      go_wp2_with fail
      refine HTO.out.mono ?_
      rintro e X12 ⟨v12, rfl, hv12, f12⟩
      obtain ⟨zs, rfl, hz12⟩ := hv12.z
      have HM12 := zh (HM13.out.fresh f12)
      have HZ12 := zh hz12
      have HTH := zh (HM12.out.there HZ12.out)
      have HZJ := zh HZ12.out.info
      have HZO := zh HZ12.out.one
      clear f12 hv12 hz12
      go_wp2_with (refine zd rfl 106 (.tmp 4) (.tmp 103) rfl (w.heap.size + 1) 0 zs.toArray rfl rfl HTH.out HZJ.out HZO.out ?_)
      obtain ⟨E1, E2, E3⟩ := HM12.out.end_ HZ12.out (by have := HM13.out.size; omega)
      exact zi (v := .agg zs.toArray) (jH (B := w.heap.size) Tryz.results89 rfl E1 E2) rfl (by rw [HV2.out, ← HE13.out]; exact ⟨_, rfl, E2.v, E3⟩)
    ·have d2 : (tr.1 != 0) = true := by simpa using c2
     rw [zl c2] at HV2
     have he9 : M9.abs = M.abs := by
      rw [HTE.out] at c2
      rw [h9a, HTE.out, add_no' c2]
      have hkf : k < M.abs.fs.length := by rw [jJ]; exact HKM.out
      rw [jP hkf, show (⟨M.abs.fs[k].f, M.abs.fs[k].q⟩ : Pl) = M.abs.fs[k] from rfl, set_self hkf]
     have HM9 : Hid (Mid w w8 cz B b n M9) := zh (HX1.out.step hft9 hb9 (by rw [he9]; exact HX1.out.ok))
     have HE9 := zh he9
     clear hb9 ft9 hft9 h9a hM9 he9 c2
     obtain ⟨te, tf⟩ := tr
     dsimp only at d2 HV2
     obtain ⟨zs, hzs⟩ : ∃ zs : List Value, zs = [.int .i64 te, .string ⟨#[]⟩, .int .i64 0, .int .i64 0, .int .i64 0, .int .i64 0, .int .i64 0, .slice none 0 0, .slice none 0 0] := ⟨_, rfl⟩
     have HZ : Hid (RepZ w8 (w8).heap.size zs (repC te)) := zh (by rw [hzs]; exact jX _ _ _)
     have HZS := zh hzs
     have HTH := zh ((HM9.out).there HZ.out)
     have HZJ := zh HZ.out.info
     have HZO := zh HZ.out.one
     clear hzs
     go_wp2_with (refine zd rfl 106 (.tmp 4) (.tmp 65) rfl (w.heap.size + 1) 0 zs.toArray rfl (by rw [HZS.out]; rfl) HTH.out HZJ.out HZO.out ?_)
     obtain ⟨E1, E2, E3⟩ := (HM9.out).end_ HZ.out (jA (zR HM9.out.size))
     exact zi (v := .agg zs.toArray) (jH (B := w.heap.size) Tryz.results89 rfl E1 E2) rfl (by rw [HV2.out, ← HE9.out]; exact ⟨_, rfl, E2.v, E3⟩)
theorem pcel_one (l : List PlM) : ∀ u ∈ l.flatMap pcel, u.oneCell' = true := by
 intro u hu
 obtain ⟨h, _, hm⟩ := List.mem_flatMap.1 hu
 simp [pcel] at hm
 rcases hm with rfl | rfl <;> rfl
theorem info_pl : (Tryz.prog.info? 134).map (fun i => (i.zero, i.size, i.bytes)) = some (some (.agg #[.pointer none, .pointer none]), 2, 16) := by kernel_rfl
def insP (l : List PlM) (i : Nat) (x : PlM) : List PlM := l.take i ++ [x] ++ l.drop i
theorem insP_flat (l : List PlM) (i : Nat) (x : PlM) : (insP l i x).flatMap pcel = [] ++ (l.take i).flatMap pcel ++ pcel x ++ (l.drop i).flatMap pcel := by
 unfold insP; simp
theorem insP_len {l : List PlM} {i : Nat} (x : PlM) (h : i ≤ l.length) : (insP l i x).length = 0 + i + 1 + (l.length - i) := by
 unfold insP; simp; omega
theorem insP_mem {l : List PlM} {i : Nat} {x y : PlM} : y ∈ insP l i x → y = x ∨ y ∈ l := by
 intro h
 unfold insP at h
 simp only [zy, zO] at h
 rcases h with (h | h) | h
 ·exact .inr (List.mem_of_mem_take h)
 ·exact .inl h
 ·exact .inr (List.mem_of_mem_drop h)
theorem insP_ap {l : List PlM} {i : Nat} {x : PlM} (h : l.Pairwise Apart) (h1 : ∀ p ∈ l, Apart p x) (h2 : ∀ p ∈ l, Apart x p) : (insP l i x).Pairwise Apart := by
 unfold insP
 rw [← List.take_append_drop i l] at h
 rw [List.pairwise_append] at h
 obtain ⟨a1, a2, a3⟩ := h
 rw [List.pairwise_append, List.pairwise_append]
 refine ⟨⟨a1, by simp, fun p hp q hq => ?_⟩, a2, fun p hp q hq => ?_⟩
 ·simp at hq
  subst hq
  exact h1 p (List.mem_of_mem_take hp)
 ·rcases zy.1 hp with hp | hp
  ·exact a3 p hp q hq
  ·simp at hp
   subst hp
   exact h2 q (List.mem_of_mem_drop hq)
def atM (n : Int) : List PlM → Nat
 | [] => 0
 | p :: r => if p.m.num < n then atM n r + 1 else 0
theorem atM_eq (n : Int) : ∀ l : List PlM, atM n l = atNum n (l.map PlM.abs)
 | [] => rfl
 | p :: r => by rw [zW, atM, atNum, atM_eq n r]; rfl
theorem atM_step {l : List PlM} {i : Nat} (h : i < l.length) (n : Int) : atM n (l.drop i) = if l[i].m.num < n then atM n (l.drop (i + 1)) + 1 else 0 := by
 rw [zK h, atM]
theorem insP_abs (M : BkM) (i : Nat) (x : PlM) : (insP M.fs i x).map PlM.abs = M.abs.fs.take i ++ [x.abs] ++ M.abs.fs.drop i := by
 unfold insP BkM.abs; simp
theorem BookAt.openF {w0 w1 : World} {B b : Nat} {M : BkM} {A3 : Option Addr} {c3 i : Nat} {x : PlM} (h0 : BookAt w0 B b M) (F : Fresh w0 w1) (hf : FlAt w1 B x.f x.m) (hq : IsR w1 B x.q x.v x.ws) (hfw : w0.heap.size ≤ x.f) (hqw : w0.heap.size ≤ x.q) (hhb : x.m.hb = none) (hB : B ≤ w0.heap.size)
 (hs : Sl w1 B 134 2 (.slice A3 (insP M.fs i x).length c3) (insP M.fs i x).length ((insP M.fs i x).flatMap pcel)) :
 BookAt (w1.setCell ⟨b, 2, none⟩ (.slice A3 (insP M.fs i x).length c3)) B b { M with FA := A3, fc := c3, fs := insP M.fs i x } ∧ FT bookT B w1 (w1.setCell ⟨b, 2, none⟩ (.slice A3 (insP M.fs i x).length c3)) := by
 have h := h0.fresh F
 have FS : Frm (fun k => k = b) w1 (w1.setCell ⟨b, 2, none⟩ (.slice A3 (insP M.fs i x).length c3)) := (za (fun k => k = b) w1).setCell (p := ⟨b, 2, none⟩) (fun _ => rfl) _
 have hfl : ∀ p ∈ insP M.fs i x, FlAt w1 B p.f p.m ∧ B ≤ p.f := fun p hp => by
  rcases insP_mem hp with rfl | hp
  ·exact ⟨hf, by omega⟩
  ·exact h.fl p hp
 have hqu : ∀ p ∈ insP M.fs i x, IsR w1 B p.q p.v p.ws := fun p hp => by
  rcases insP_mem hp with rfl | hp
  ·exact hq
  ·exact h.qu p hp
 refine ⟨⟨h.blk.set 2 _, h.ge, hs.frm FS (fun k hk e => by subst e; exact hs.apart h.blk (by decide) hk), h.lsl.frm FS (fun k hk e => by subst e; exact h.lsl.apart h.blk (by decide) hk), ?_, ?_, ?_⟩, FT.of_frm FS (fun k hk e => by subst e; exact ⟨h.ge, _, _, h.blk, by decide⟩)⟩
 ·intro p hp
  obtain ⟨h1, h2⟩ := hfl p hp
  refine ⟨h1.frm FS (fun e => h1.blk.apart h.blk (by decide) e) (fun k hk e => ?_) (fun k cs hk e => ?_), h2⟩
  ·subst e
   obtain ⟨cs, hc, _⟩ := h1.hasH hk
   exact hc.apart h.blk (by decide) rfl
  ·subst e
   exact hk.apart h.blk (by decide) rfl
 ·intro p hp
  have h1 := hqu p hp
  exact h1.frm FS (fun e => h1.blk.apart h.blk (by decide) e) (fun k hk e => by subst e; exact h1.sl.apart h.blk (by decide) hk)
 ·refine insP_ap h0.ap (fun p hp => ?_) (fun p hp => ?_)
  ·have a1 := (h0.fl p hp).1.blk.lt
   have a2 := (h0.qu p hp).blk.lt
   exact ⟨by omega, by omega, fun k hk hk' => by rw [hhb] at hk'; cases hk'⟩
  ·have a1 := (h0.fl p hp).1.blk.lt
   have a2 := (h0.qu p hp).blk.lt
   exact ⟨by omega, by omega, fun k hk hk' => by rw [hhb] at hk; cases hk⟩
end
end Go.Proofs.YtnmokpbomeamfaaGreat

/- Proved here, for the statement ClientOnceSaid: laws that its walk leans on. It holds with no condition. (Put together and shortened by a program out of many texts: On37, On38, NumR, TextR, On39.) -/
import Derived.Test.YtnmokpbomeamfaaGreatZ17
set_option linter.unusedVariables false
set_option maxRecDepth 100000
set_option maxHeartbeats 64000000
namespace Go.Proofs.YtnmokpbomeamfaaGreat
section
open Go.RowKit QueueM
theorem seatA_no {m : Fl} {ow : Int} {b : List UInt8} (h : (seatA m ow b).1 ≠ 0) : (seatA m ow b).2 = m := by
 revert h
 unfold seatA
 split
 ·intro _; rfl
 ·split
  ·intro _; rfl
  ·split
   ·intro _; rfl
   ·intro h; exact absurd rfl h
theorem autoA_no {m : Fl} {ow : Int} (h : (autoA m ow).1 ≠ 0) : (autoA m ow).2 = m := by
 revert h
 unfold autoA
 split
 ·intro _; rfl
 ·split
  ·intro _; rfl
  ·split
   ·intro _; rfl
   ·intro h; exact absurd rfl h
theorem setFl_abs {M : BkM} {k : Nat} (hk : k < M.fs.length) : setFl M.abs k M.fs[k].m.abs = M.abs := by
 have hkf : k < M.abs.fs.length := by rw [jJ]; exact hk
 have e : (⟨M.fs[k].m.abs, (plAt M.abs k).q⟩ : Pl) = M.abs.fs[k] := by
  rw [← jP hkf, abs_at hk]
  rfl
 unfold setFl
 rw [e, set_self hkf]
theorem BookAt.cutF {U w8 : World} {B b : Nat} {M : BkM} (h : BookAt U B b M) {k : Nat} (hk : k < M.fs.length) {m' : Fl} (hs : StepF U B M.fs[k].f M.fs[k].m m' w8) : ∃ M9 : BkM, M9.abs = setFl M.abs k m' ∧ M9.l = M.l ∧ BookAt w8 B b M9 ∧ FT bookT B U w8 := by
 obtain ⟨m1, e1, h1, h2⟩ := h.setF (FT.refl bookT B U) hk hs
 refine ⟨{ M with fs := M.fs.set k { M.fs[k] with m := m1 } }, ?_, rfl, h1, h2⟩
 rw [abs_setFs]
 unfold setFl
 rw [abs_at hk]
 show ({ M.abs with fs := M.abs.fs.set k ⟨m1.abs, M.fs[k].ws⟩ } : Book) = _
 rw [e1]
 rfl
theorem BookAt.cutQ {U w8 : World} {B b : Nat} {M : BkM} (h : BookAt U B b M) {k : Nat} (hk : k < M.fs.length) {ws' : List Wt} (hs : StepR U B M.fs[k].q ws' w8) : ∃ M9 : BkM, M9.abs = setQu M.abs k ws' ∧ M9.l = M.l ∧ BookAt w8 B b M9 ∧ FT bookT B U w8 := by
 obtain ⟨v', h1, h2⟩ := h.setQ (FT.refl bookT B U) hk hs
 refine ⟨{ M with fs := M.fs.set k { M.fs[k] with v := v', ws := ws' } }, ?_, rfl, h1, h2⟩
 rw [abs_setFs]
 unfold setQu
 rw [abs_at hk]
 rfl
theorem Mid.cut {w U w8 w10 : World} {cz : List Value} {B b n : Nat} {M : BkM} {x : Book} (h : Mid w U cz B b n M) (F9 : FT bookT B U w8) (hs : StepB w8 B b x w10) (hk : BookOk n x) : ∃ M10 : BkM, M10.abs = x ∧ Mid w w10 cz B b n M10 := by
 obtain ⟨M', e, hb, F⟩ := hs
 exact ⟨M', e, h.step (F9.trans F) hb (by rw [e]; exact hk)⟩
theorem Mid.upF {w U w8 : World} {cz : List Value} {B b n : Nat} {M : BkM} (h : Mid w U cz B b n M) {k : Nat} (hk : k < M.fs.length) {m' : Fl} (hs : StepF U B M.fs[k].f M.fs[k].m m' w8) (hok : BookOk n (setFl M.abs k m')) : ∃ M9 : BkM, M9.abs = setFl M.abs k m' ∧ M9.l = M.l ∧ Mid w w8 cz B b n M9 := by
 obtain ⟨M9, e, el, h1, h2⟩ := h.at_.cutF hk hs
 exact ⟨M9, e, el, h.step h2 h1 (by rw [e]; exact hok)⟩
theorem BookAt.conf {U : World} {B b : Nat} {M : BkM} (h : BookAt U B b M) {i : Nat} (hi : i < M.l.length) {g o : Nat} (hA : M.LA = some ⟨g, o, none⟩) :
 ∃ M2 : BkM, M2.abs = confirmed M.abs i ∧ M2.l.length = M.l.length ∧
 (U.setCell ⟨g, o + i * 6 + 4, none⟩ (.int .i64 2)).cell? ⟨b, 3, none⟩ = some (.slice (some ⟨g, o, none⟩) M.l.length M.lc) ∧
 (∃ v, (U.setCell ⟨g, o + i * 6 + 4, none⟩ (.int .i64 2)).cell? ⟨g, o + i * 6 + 5, none⟩ = some (.int .i64 v)) ∧
 BookAt ((U.setCell ⟨g, o + i * 6 + 4, none⟩ (.int .i64 2)).setCell ⟨g, o + i * 6 + 5, none⟩ (.int .i64 0)) B b M2 ∧
 FT bookT B U ((U.setCell ⟨g, o + i * 6 + 4, none⟩ (.int .i64 2)).setCell ⟨g, o + i * 6 + 5, none⟩ (.int .i64 0)) := by
 obtain ⟨h1, f1⟩ := h.setB' hi hA 4 (by omega) (.int .i64 2) { M.l[i] with st := 2 } rfl
 have hi1 : i < (M.l.set i { M.l[i] with st := 2 }).length := by rw [zz]; exact hi
 have e1 : (M.l.set i { M.l[i] with st := 2 })[i]'hi1 = { M.l[i] with st := 2 } := zP hi1
 obtain ⟨h2, f2⟩ := h1.setB' (i := i) hi1 hA 5 (by omega) (.int .i64 0) { M.l[i] with st := 2, un := 0 } (by dsimp only; rw [e1]; rfl)
 have y3 : (U.setCell ⟨g, o + i * 6 + 4, none⟩ (.int .i64 2)).cell? ⟨b, 3, none⟩ = some (.slice M.LA (M.l.set i { M.l[i] with st := 2 }).length M.lc) := h1.blk.cell 3
 rw [zz, hA] at y3
 obtain ⟨g2, o2, hA2, _, _, _, _, _, _, c5⟩ := h1.bk hi1
 have hA3 : M.LA = some ⟨g2, o2, none⟩ := hA2
 rw [hA] at hA3
 injection hA3 with hA3
 injection hA3 with q1 q2 _
 subst q1 q2
 refine ⟨_, ?_, ?_, y3, ⟨_, c5⟩, h2, f1.trans f2⟩
 ·unfold confirmed
  rw [setStUn (l := M.abs.l) hi]
  show (⟨M.now, M.next, M.fs.map PlM.abs, (M.l.set i _).set i _⟩ : Book) = _
  rw [List.set_set]
  rfl
 ·show ((M.l.set i _).set i _).length = _
  rw [zz, zz]
theorem one18_any (w : World) (B b : Nat) (M : BkM) (n i : Nat) (c : Cm) (GA : Option Addr) (gc : Nat) (PA : Option Addr) (pc : Nat) (h : BookAt w B b M) (hB : B ≤ w.heap.size) (hk : BookOk n M.abs) (hn : n ≤ 100) (hi : i < M.l.length) :
 Calls Tryz.prog 91 #[.pointer (some ⟨b, 0, none⟩), .int .i64 (i : Int), .agg (ccel c GA gc PA pc).toArray] w fun e w' => jN w B b (oneA M.abs i c) e w' := by
 obtain ⟨cz, hcz⟩ : ∃ x, x = ccel c GA gc PA pc := ⟨_, rfl⟩
 obtain ⟨W, hW⟩ : ∃ W, (w.alloc (.cells cz.toArray 95)).alloc (.cells rz.toArray 106) = W := ⟨_, rfl⟩
 have HPR : Hid (Pre w W cz) := zh (by rw [← hW]; exact pre_of w cz)
 have HM0 : Hid (Mid w W cz B b n M) := zh (Mid.of HPR.out h hk)
 have HCF : Hid (∀ w', Blk w' w.heap.size 95 cz.toArray → w'.cell? ⟨w.heap.size, 0, none⟩ = some (.int .i64 c.kind) ∧ w'.cell? ⟨w.heap.size, 1, none⟩ = some (.string (str c.pnr)) ∧ w'.cell? ⟨w.heap.size, 7, none⟩ = some (.string (str c.lb))) := zh fun w' hb => by rw [hcz] at hb; exact ⟨hb.cell 0, hb.cell 1, hb.cell 7⟩
 have hfew : M.fs.length ≤ 8 := by have := hk.few; rw [jJ] at this; exact this
 have hll : M.l.length ≤ 100 := by have h1 := hk.len; have e : M.abs.l.length = M.l.length := rfl; omega
 have hbi : bkAt M.abs i = M.l[i] := bkAt_get (x := M.abs) hi
 obtain ⟨k, hkf, hke, hkr⟩ := hk.kAt (i := i) hi
 have hke' : qL M.l[i].fl M.abs = (k : Int) := hke
 have hkm : k < M.fs.length := by rw [← jJ]; exact hkf
 have hko : kOf M.abs i = k := by unfold kOf; rw [hbi, hke']; rfl
 have hpa := abs_at hkm
 obtain ⟨hfo, hgo, hhs, hws⟩ := hk.at_ hkm
 have HV : Hid (oneA M.abs i c = if c.kind = 3 then (if M.l[i].st ≠ 1 then (M.abs, repC 7) else (confirmed M.abs i, toldA (confirmed M.abs i) i))
  else if c.kind = 4 then (promA (cancelled M.abs i) k, { repC 0 with pnr := c.pnr })
  else if M.l[i].st = 3 then (M.abs, repC 7)
  else if c.kind = 5 then (if (seatA M.fs[k].m.abs M.l[i].id c.lb).1 ≠ 0 then (M.abs, repC (seatA M.fs[k].m.abs M.l[i].id c.lb).1) else (setFl M.abs k (seatA M.fs[k].m.abs M.l[i].id c.lb).2, toldA (setFl M.abs k (seatA M.fs[k].m.abs M.l[i].id c.lb).2) i))
  else (if (autoA M.fs[k].m.abs M.l[i].id).1 ≠ 0 then (M.abs, repC (autoA M.fs[k].m.abs M.l[i].id).1) else (setFl M.abs k (autoA M.fs[k].m.abs M.l[i].id).2, toldA (setFl M.abs k (autoA M.fs[k].m.abs M.l[i].id).2) i))) := zh (by unfold oneA; rw [hbi, hko, hpa]; rfl)
 have HCAN : Hid (cancelled M.abs i = if M.l[i].st = 3 then { setQu M.abs k (remove M.l[i].id M.fs[k].ws).2 with l := cutAt M.l i } else { setFl M.abs k (giveA M.fs[k].m.abs M.l[i].id).2 with l := cutAt M.l i }) := zh (by unfold cancelled; rw [hbi, hko, hpa]; rfl)
 have HOKC := zh (hk.cancelled (i := i) hi)
 have HOK1 := zh (hk.oneA (i := i) hi c)
 have HKC : Hid (k < (cancelled M.abs i).fs.length) := zh (by rw [HOKC.out.2.1]; exact hkf)
 obtain ⟨V, hV⟩ : ∃ V, W.alloc (.cells (bcel M.l[i]).toArray 146) = V := ⟨_, rfl⟩
 have HFV : Hid (Fresh W V) := zh (by rw [← hV]; exact jC _ _)
 have HBX : Hid (Blk V W.heap.size 146 (bcel M.l[i]).toArray) := zh (by rw [← hV]; exact Blk.new _ _ _)
 have HMV := zh (HM0.out.fresh HFV.out)
 obtain ⟨U, hU⟩ : ∃ U, V.alloc (.cells #[.pointer (some ⟨M.fs[k].f, 0, none⟩), .pointer (some ⟨M.fs[k].q, 0, none⟩)] 134) = U := ⟨_, rfl⟩
 have HFU : Hid (Fresh V U) := zh (by rw [← hU]; exact jC _ _)
 have HPX : Hid (Blk U V.heap.size 134 #[.pointer (some ⟨M.fs[k].f, 0, none⟩), .pointer (some ⟨M.fs[k].q, 0, none⟩)]) := zh (by rw [← hU]; exact Blk.new _ _ _)
 have HMU := zh (HMV.out.fresh HFU.out)
 have hBU : B ≤ U.heap.size := zp hB (zp HPR.out.frm.size (zp HFV.out.size HFU.out.size))
 have hfq := HMU.out.at_.qu _ (ze hkm)
 have hff := (HMU.out.at_.fl _ (ze hkm)).1
 have HRM := zh (refRemove_any U B M.fs[k].q M.fs[k].v M.fs[k].ws M.l[i].id hfq (by omega))
 have HGI := zh (give15_any U B M.fs[k].f M.fs[k].m M.l[i].id hff hBU (by omega))
 have HSE := zh (seat15_any U B M.fs[k].f M.fs[k].m M.l[i].id c.lb hff hBU hfo (by omega))
 have HAU := zh (auto15_any U B M.fs[k].f M.fs[k].m M.l[i].id hff hBU hfo (by omega))
 have HFL : Hid (Calls Tryz.prog 70 #[.pointer (some ⟨b, 0, none⟩), .int .i64 M.l[i].fl] V fun e w'' => e = .returned (.int .i64 (k : Int)) ∧ w'' = V) := zh (by rw [← hke']; exact qD V B b M _ HMV.out.at_ hfew)
 obtain ⟨g2, o2, hLA, hg2, c0, c1, c2, c3, c4, c5⟩ := HM0.out.at_.bk hi
 have y3 : W.cell? ⟨b, 3, none⟩ = some (.slice M.LA M.l.length M.lc) := HM0.out.at_.blk.cell 3
 obtain ⟨g, o, hFA, hgl, hp0, hp1⟩ := HMV.out.at_.place hkm
 have y2 : V.cell? ⟨b, 2, none⟩ = some (.slice M.FA M.fs.length M.fc) := HMV.out.at_.blk.cell 2
 rw [hLA] at y3
 rw [hFA] at y2
 have x0 := (HCF.out U HMU.out.cmd).1
 have x7 := (HCF.out U HMU.out.cmd).2.2
 have HBU : Hid (Blk U W.heap.size 146 (bcel M.l[i]).toArray) := zh (HBX.out.frm HFU.out (fun f => f))
 have b1 : V.cell? ⟨W.heap.size, 1, none⟩ = some (.int .i64 M.l[i].fl) := HBX.out.cell 1
 have b0 : U.cell? ⟨W.heap.size, 0, none⟩ = some (.int .i64 M.l[i].id) := HBU.out.cell 0
 have b4 : U.cell? ⟨W.heap.size, 4, none⟩ = some (.int .i64 M.l[i].st) := HBU.out.cell 4
 have p0 : U.cell? ⟨V.heap.size, 0, none⟩ = some (.pointer (some ⟨M.fs[k].f, 0, none⟩)) := HPX.out.cell 0
 have p1 : U.cell? ⟨V.heap.size, 1, none⟩ = some (.pointer (some ⟨M.fs[k].q, 0, none⟩)) := HPX.out.cell 1
 have HLA := zh hLA
 have hi0 : (0 : Int) ≤ (i : Int) := by omega
 have hi1 : (i : Int) < (M.l.length : Int) := by omega
 have k0 : (0 : Int) ≤ (k : Int) := by omega
 have k1 : (k : Int) < (M.fs.length : Int) := by omega
 have HUF : Hid (∀ m', StepF U B M.fs[k].f M.fs[k].m m' U → True) := zh fun _ _ => trivial
 have HST1 : Hid (∀ {w8 m'}, StepF U B M.fs[k].f M.fs[k].m m' w8 → BookOk n (setFl M.abs k m') → ∃ M9 : BkM, M9.abs = setFl M.abs k m' ∧ M9.l = M.l ∧ Mid w w8 cz B b n M9) := zh fun hs hok => HMU.out.upF hkm hs hok
 have HSTF : Hid (∀ {w8 m'}, StepF U B M.fs[k].f M.fs[k].m m' w8 → ∃ M9 : BkM, M9.abs = setFl M.abs k m' ∧ M9.l = M.l ∧ BookAt w8 B b M9 ∧ FT bookT B U w8) := zh fun hs => HMU.out.at_.cutF hkm hs
 have HSTQ : Hid (∀ {w8 ws'}, StepR U B M.fs[k].q ws' w8 → ∃ M9 : BkM, M9.abs = setQu M.abs k ws' ∧ M9.l = M.l ∧ BookAt w8 B b M9 ∧ FT bookT B U w8) := zh fun hs => HMU.out.at_.cutQ hkm hs
 have HSELF : Hid (setFl M.abs k M.fs[k].m.abs = M.abs) := zh (setFl_abs hkm)
 obtain ⟨Y, hY⟩ : ∃ z, z = M.l[i]'hi := ⟨_, rfl⟩
 have hV2 : W.alloc (.cells #[.int .i64 Y.id, .int .i64 Y.fl, .int .i64 Y.cl, .int .i64 Y.mn, .int .i64 Y.st, .int .i64 Y.un] 146) = V := by rw [hY]; exact hV
 simp only [← hY] at c0 c1 c2 c3 c4 c5 b0 b1 b4 HV HCAN HRM HGI HSE HAU HFL
 obtain ⟨fk, hfk⟩ : ∃ z, z = M.fs[k].f := ⟨_, rfl⟩
 obtain ⟨qk, hqk⟩ : ∃ z, z = M.fs[k].q := ⟨_, rfl⟩
 have hU2 : V.alloc (.cells #[.pointer (some ⟨fk, 0, none⟩), .pointer (some ⟨qk, 0, none⟩)] 134) = U := by rw [hfk, hqk]; exact hU
 simp only [← hfk, ← hqk] at p0 p1 hp0 hp1 HRM HGI HSE HAU HST1 HSTF HSTQ
 obtain ⟨ln, hln⟩ : ∃ z, z = M.l.length := ⟨_, rfl⟩
 obtain ⟨fn, hfn⟩ : ∃ z, z = M.fs.length := ⟨_, rfl⟩
 rw [← hln] at y3 hi1
 rw [← hfn] at y2 k1
 have HLN := zh hln
 have HBL : Hid (B ≤ w.heap.size) := zh hB
 have hnn := hn
 rw [← hcz]
 clear hkr hcz h hk hV hU hY hfk hqk hln hfn hLA hFA hbi hke hke' hko hpa hfo hgo hhs hws hfq hff hkf hgl hg2 hfew hll HUF
 go_in
 go_upto_region 1 with fail
 first | rw [show (w.alloc (.cells cz.toArray 95)).alloc (.cells #[.int .i64 0, .string ⟨#[]⟩, .int .i64 0, .int .i64 0, .int .i64 0, .int .i64 0, .int .i64 0, .slice none 0 0, .slice none 0 0] 106) = W from hW] | skip
 clear hW
 go_upto_region 2 with fail
 try rw [hV2]
 clear hV2 y3 c0 c1 c2 c3 c4 c5
 go_wp2_with fail
 refine HFL.out.mono ?_
 rintro e w1 ⟨rfl, hw1⟩
 rw [hw1]
 clear hw1 w1 HFL
 go_upto_region 4 with fail
 try rw [hU2]
 clear hU2 y2 hp0 hp1 b1
 by_cases q3 : c.kind = 3
 ·have d3 : (c.kind == 3) = true := by simpa using q3
  rw [zl q3] at HV
  clear q3
  by_cases s1 : Y.st = 1
  ·have e1 : (Y.st != 1) = false := by simpa using s1
   rw [zk (by simpa using s1)] at HV
   clear s1
   have hok := HOK1.out
   rw [HV.out] at hok
   dsimp only at hok
   obtain ⟨M2, e2, el, y3, ⟨vv, z5⟩, hb2, f2⟩ := HMU.out.at_.conf hi HLA.out
   have hm2 := HMU.out.step f2 hb2 (by rw [e2]; exact hok)
   have HM2 := zh hm2
   have HE2 := zh e2
   have HL2 : Hid (i < M2.l.length) := zh (by rw [el]; exact hi)
   have y3u : U.cell? ⟨b, 3, none⟩ = some (.slice (some ⟨g2, o2, none⟩) ln M.lc) := by rw [HLN.out, ← HLA.out]; exact HMU.out.at_.blk.cell 3
   rw [← HLN.out] at y3
   obtain ⟨g3, o3, hA3, hg3, a0, a1, a2, a3, a4, a5⟩ := HMU.out.at_.bk hi
   rw [HLA.out] at hA3
   injection hA3 with hA3
   injection hA3 with r1 r2 _
   subst r1 r2
   have hbg : ∃ cs, Blk U g2 146 cs := by obtain ⟨cs, hc, _⟩ := HMU.out.at_.lsl.has (k := g2) (by rw [HLA.out]; rfl); exact ⟨cs, hc⟩
   obtain ⟨cs, hbg⟩ := hbg
   have z4 := hbg.frozen (o2 + i * 6 + 4)
   have z5f := (hbg.set (o2 + i * 6 + 4) (.int .i64 2)).frozen (o2 + i * 6 + 5)
   obtain ⟨Z, hZ⟩ : ∃ Z, (U.setCell ⟨g2, o2 + i * 6 + 4, none⟩ (.int .i64 2)).setCell ⟨g2, o2 + i * 6 + 5, none⟩ (.int .i64 0) = Z := ⟨_, rfl⟩
   rw [hZ] at HM2
   clear hok e2 el hb2 f2 hm2 hbg a0 a1 a2 a3 a5 hg3
   go_upto_region 25 with fail
   try rw [hZ]
   clear hZ y3 z5 z5f z4 y3u a4
   have HTO := zh (told18_any Z B b M2 n i HM2.out.at_ HM2.out.ok hnn HL2.out)
   go_wp2_with fail
   refine HTO.out.mono ?_
   rintro e X12 ⟨v12, rfl, hv12, f12⟩
   obtain ⟨zs, rfl, hz12⟩ := hv12.z
   have HM12 := zh (HM2.out.fresh f12)
   have HZ12 := zh hz12
   have HTH := zh (HM12.out.there HZ12.out)
   have HZJ := zh HZ12.out.info
   have HZO := zh HZ12.out.one
   clear f12 hv12 hz12
   go_wp2_with (refine zd rfl 106 (.tmp 6) (.tmp 103) rfl (w.heap.size + 1) 0 zs.toArray rfl rfl HTH.out HZJ.out HZO.out ?_)
   obtain ⟨E1, E2, E3⟩ := HM12.out.end_ HZ12.out (by have := HM2.out.size; omega)
   exact zi (v := .agg zs.toArray) (jH (B := w.heap.size) Tryz.results91 rfl E1 E2) rfl (by rw [HV.out, ← HE2.out]; exact ⟨_, rfl, E2.v, E3⟩)
  ·have e1 : (Y.st != 1) = true := by simpa using s1
   rw [zl s1] at HV
   clear s1
   obtain ⟨zs, hzs⟩ : ∃ zs : List Value, zs = [.int .i64 7, .string ⟨#[]⟩, .int .i64 0, .int .i64 0, .int .i64 0, .int .i64 0, .int .i64 0, .slice none 0 0, .slice none 0 0] := ⟨_, rfl⟩
   have HZ : Hid (RepZ U (U).heap.size zs (repC 7)) := zh (by rw [hzs]; exact jX _ _ _)
   have HZS := zh hzs
   have HTH := zh ((HMU.out).there HZ.out)
   have HZJ := zh HZ.out.info
   have HZO := zh HZ.out.one
   clear hzs
   go_wp2_with (refine zd rfl 106 (.tmp 6) (.tmp 62) rfl (w.heap.size + 1) 0 zs.toArray rfl (by rw [HZS.out]; rfl) HTH.out HZJ.out HZO.out ?_)
   obtain ⟨E1, E2, E3⟩ := (HMU.out).end_ HZ.out (jA (zR HMU.out.size))
   exact zi (v := .agg zs.toArray) (jH (B := w.heap.size) Tryz.results91 rfl E1 E2) rfl (by rw [HV.out]; exact ⟨_, rfl, E2.v, E3⟩)
 ·have d3 : (c.kind == 3) = false := by simpa using q3
  rw [zk q3] at HV
  clear q3
  by_cases q4 : c.kind = 4
  ·have d4 : (c.kind == 4) = true := by simpa using q4
   rw [zl q4] at HV
   clear q4
   by_cases s3 : Y.st = 3
   ·have e1 : (Y.st == 3) = true := by simpa using s3
    rw [zl s3] at HCAN
    clear s3
    go_wp2_with fail
    refine HRM.out.mono ?_
    rintro e w8 ⟨rfl, hs8⟩
    obtain ⟨M9, e9, el9, hb9, f9⟩ := HSTQ.out hs8
    have HB9 := zh hb9
    have HF9 := zh f9
    have h9 : B ≤ w8.heap.size := zp hBU f9.size
    have hi9 : i < M9.l.length := by rw [el9]; exact hi
    have hl9 : M9.l.length ≤ 1000 := by have h1 := HMU.out.ok.len; have e : M.abs.l.length = M.l.length := rfl; rw [el9]; omega
    have HOU := zh (out18_any w8 B b M9 i hb9 h9 hi9 hl9)
    have HCE : Hid (({ M9.abs with l := cutAt M9.l i } : Book) = cancelled M.abs i) := zh (by rw [HCAN.out, e9, el9])
    clear e9 el9 hb9 f9 hs8 h9 hi9 hl9
    go_wp2_with fail
    refine HOU.out.mono ?_
    rintro e w10 ⟨rfl, hs10⟩
    rw [HCE.out] at hs10
    obtain ⟨M10, e10, hm10⟩ := HMU.out.cut HF9.out hs10 HOKC.out.1
    have HM10 := zh hm10
    have HE10 := zh e10
    have hk10 : k < M10.fs.length := by rw [← jJ, e10]; exact HKC.out
    have HPM := zh (promote18_any w10 B b M10 n k hm10.at_ (by have h1 := hm10.ft.size; have h2 := HBL.out; omega) hm10.ok hnn hk10)
    have HPK := zh (hm10.ok.promA (k := k) (by rw [jJ]; exact hk10))
    clear hs10 hm10 e10 hk10
    go_wp2_with fail
    refine HPM.out.mono ?_
    rintro e X13 ⟨rfl, hs13⟩
    obtain ⟨M13, e13, hm13⟩ := HM10.out.stepB hs13 HPK.out.1
    have HM13 := zh hm13
    have HE13 : Hid (M13.abs = promA (cancelled M.abs i) k) := zh (by rw [e13, HE10.out])
    have x1 := (HCF.out X13 hm13.cmd).2.1
    clear hs13 e13 hm13
    obtain ⟨zs, hzs⟩ : ∃ zs : List Value, zs = [.int .i64 0, .string (str c.pnr), .int .i64 0, .int .i64 0, .int .i64 0, .int .i64 0, .int .i64 0, .slice none 0 0, .slice none 0 0] := ⟨_, rfl⟩
    have HZ : Hid (RepZ X13 (X13).heap.size zs ({ repC 0 with pnr := c.pnr })) := zh (by rw [hzs]; exact ⟨none, 0, none, 0, rfl, Sl.nil _ _ _ _, Sl.nil _ _ _ _⟩)
    have HZS := zh hzs
    have HTH := zh ((HM13.out).there HZ.out)
    have HZJ := zh HZ.out.info
    have HZO := zh HZ.out.one
    clear hzs
    go_wp2_with (refine zd rfl 106 (.tmp 6) (.tmp 100) rfl (w.heap.size + 1) 0 zs.toArray rfl (by rw [HZS.out]; rfl) HTH.out HZJ.out HZO.out ?_)
    obtain ⟨E1, E2, E3⟩ := (HM13.out).end_ HZ.out (jA (zR HM13.out.size))
    exact zi (v := .agg zs.toArray) (jH (B := w.heap.size) Tryz.results91 rfl E1 E2) rfl (by rw [HV.out, ← HE13.out]; exact ⟨_, rfl, E2.v, E3⟩)
   ·have e1 : (Y.st == 3) = false := by simpa using s3
    rw [zk s3] at HCAN
    clear s3
    go_wp2_with fail
    refine HGI.out.mono ?_
    rintro e w8 ⟨rfl, hs8⟩
    obtain ⟨M9, e9, el9, hb9, f9⟩ := HSTF.out hs8
    have HB9 := zh hb9
    have HF9 := zh f9
    have h9 : B ≤ w8.heap.size := zp hBU f9.size
    have hi9 : i < M9.l.length := by rw [el9]; exact hi
    have hl9 : M9.l.length ≤ 1000 := by have h1 := HMU.out.ok.len; have e : M.abs.l.length = M.l.length := rfl; rw [el9]; omega
    have HOU := zh (out18_any w8 B b M9 i hb9 h9 hi9 hl9)
    have HCE : Hid (({ M9.abs with l := cutAt M9.l i } : Book) = cancelled M.abs i) := zh (by rw [HCAN.out, e9, el9])
    clear e9 el9 hb9 f9 hs8 h9 hi9 hl9
    go_wp2_with fail
    refine HOU.out.mono ?_
    rintro e w10 ⟨rfl, hs10⟩
    rw [HCE.out] at hs10
    obtain ⟨M10, e10, hm10⟩ := HMU.out.cut HF9.out hs10 HOKC.out.1
    have HM10 := zh hm10
    have HE10 := zh e10
    have hk10 : k < M10.fs.length := by rw [← jJ, e10]; exact HKC.out
    have HPM := zh (promote18_any w10 B b M10 n k hm10.at_ (by have h1 := hm10.ft.size; have h2 := HBL.out; omega) hm10.ok hnn hk10)
    have HPK := zh (hm10.ok.promA (k := k) (by rw [jJ]; exact hk10))
    clear hs10 hm10 e10 hk10
    go_wp2_with fail
    refine HPM.out.mono ?_
    rintro e X13 ⟨rfl, hs13⟩
    obtain ⟨M13, e13, hm13⟩ := HM10.out.stepB hs13 HPK.out.1
    have HM13 := zh hm13
    have HE13 : Hid (M13.abs = promA (cancelled M.abs i) k) := zh (by rw [e13, HE10.out])
    have x1 := (HCF.out X13 hm13.cmd).2.1
    clear hs13 e13 hm13
    obtain ⟨zs, hzs⟩ : ∃ zs : List Value, zs = [.int .i64 0, .string (str c.pnr), .int .i64 0, .int .i64 0, .int .i64 0, .int .i64 0, .int .i64 0, .slice none 0 0, .slice none 0 0] := ⟨_, rfl⟩
    have HZ : Hid (RepZ X13 (X13).heap.size zs ({ repC 0 with pnr := c.pnr })) := zh (by rw [hzs]; exact ⟨none, 0, none, 0, rfl, Sl.nil _ _ _ _, Sl.nil _ _ _ _⟩)
    have HZS := zh hzs
    have HTH := zh ((HM13.out).there HZ.out)
    have HZJ := zh HZ.out.info
    have HZO := zh HZ.out.one
    clear hzs
    go_wp2_with (refine zd rfl 106 (.tmp 6) (.tmp 100) rfl (w.heap.size + 1) 0 zs.toArray rfl (by rw [HZS.out]; rfl) HTH.out HZJ.out HZO.out ?_)
    obtain ⟨E1, E2, E3⟩ := (HM13.out).end_ HZ.out (jA (zR HM13.out.size))
    exact zi (v := .agg zs.toArray) (jH (B := w.heap.size) Tryz.results91 rfl E1 E2) rfl (by rw [HV.out, ← HE13.out]; exact ⟨_, rfl, E2.v, E3⟩)
  ·have d4 : (c.kind == 4) = false := by simpa using q4
   rw [zk q4] at HV
   clear q4
   by_cases s3 : Y.st = 3
   ·have e1 : (Y.st == 3) = true := by simpa using s3
    rw [zl s3] at HV
    clear s3
    obtain ⟨zs, hzs⟩ : ∃ zs : List Value, zs = [.int .i64 7, .string ⟨#[]⟩, .int .i64 0, .int .i64 0, .int .i64 0, .int .i64 0, .int .i64 0, .slice none 0 0, .slice none 0 0] := ⟨_, rfl⟩
    have HZ : Hid (RepZ U (U).heap.size zs (repC 7)) := zh (by rw [hzs]; exact jX _ _ _)
    have HZS := zh hzs
    have HTH := zh ((HMU.out).there HZ.out)
    have HZJ := zh HZ.out.info
    have HZO := zh HZ.out.one
    clear hzs
    go_wp2_with (refine zd rfl 106 (.tmp 6) (.tmp 34) rfl (w.heap.size + 1) 0 zs.toArray rfl (by rw [HZS.out]; rfl) HTH.out HZJ.out HZO.out ?_)
    obtain ⟨E1, E2, E3⟩ := (HMU.out).end_ HZ.out (jA (zR HMU.out.size))
    exact zi (v := .agg zs.toArray) (jH (B := w.heap.size) Tryz.results91 rfl E1 E2) rfl (by rw [HV.out]; exact ⟨_, rfl, E2.v, E3⟩)
   ·have e1 : (Y.st == 3) = false := by simpa using s3
    rw [zk s3] at HV
    clear s3
    by_cases q5 : c.kind = 5
    ·have d5 : (c.kind == 5) = true := by simpa using q5
     rw [zl q5] at HV
     clear q5
     have HNO := zh (@seatA_no (M.fs[k]'hkm).m.abs Y.id c.lb)
     generalize seatA (M.fs[k]'hkm).m.abs Y.id c.lb = tr at HV HSE HNO
     go_wp2_with fail
     refine HSE.out.mono ?_
     rintro e w8 ⟨rfl, hs8⟩
     by_cases t0 : tr.1 = 0
     ·have d8 : (tr.1 != 0) = false := by simpa using t0
      rw [zk (by simpa using t0)] at HV
      clear t0 HNO
      have hok := HOK1.out
      rw [HV.out] at hok
      dsimp only at hok
      obtain ⟨M9, e9, el9, hm9⟩ := HST1.out hs8 hok
      have HM9 := zh hm9
      have HE9 := zh e9
      have HL9 : Hid (i < M9.l.length) := zh (by rw [el9]; exact hi)
      clear hok e9 el9 hm9 hs8
      have HTO := zh (told18_any w8 B b M9 n i HM9.out.at_ HM9.out.ok hnn HL9.out)
      go_wp2_with fail
      refine HTO.out.mono ?_
      rintro e X12 ⟨v12, rfl, hv12, f12⟩
      obtain ⟨zs, rfl, hz12⟩ := hv12.z
      have HM12 := zh (HM9.out.fresh f12)
      have HZ12 := zh hz12
      have HTH := zh (HM12.out.there HZ12.out)
      have HZJ := zh HZ12.out.info
      have HZO := zh HZ12.out.one
      clear f12 hv12 hz12
      go_wp2_with (refine zd rfl 106 (.tmp 6) (.tmp 103) rfl (w.heap.size + 1) 0 zs.toArray rfl rfl HTH.out HZJ.out HZO.out ?_)
      obtain ⟨E1, E2, E3⟩ := HM12.out.end_ HZ12.out (by have := HM9.out.size; omega)
      exact zi (v := .agg zs.toArray) (jH (B := w.heap.size) Tryz.results91 rfl E1 E2) rfl (by rw [HV.out, ← HE9.out]; exact ⟨_, rfl, E2.v, E3⟩)
     ·have d8 : (tr.1 != 0) = true := by simpa using t0
      rw [zl t0] at HV
      have h2 := HNO.out t0
      rw [h2] at hs8
      obtain ⟨M9, e9, el9, hm9⟩ := HST1.out hs8 (by rw [HSELF.out]; exact HMU.out.ok)
      rw [HSELF.out] at e9
      have HM9 := zh hm9
      have HE9 := zh e9
      clear t0 HNO h2 e9 el9 hm9 hs8
      obtain ⟨te, tf⟩ := tr
      dsimp only at d8 HV
      obtain ⟨zs, hzs⟩ : ∃ zs : List Value, zs = [.int .i64 te, .string ⟨#[]⟩, .int .i64 0, .int .i64 0, .int .i64 0, .int .i64 0, .int .i64 0, .slice none 0 0, .slice none 0 0] := ⟨_, rfl⟩
      have HZ : Hid (RepZ w8 (w8).heap.size zs (repC te)) := zh (by rw [hzs]; exact jX _ _ _)
      have HZS := zh hzs
      have HTH := zh ((HM9.out).there HZ.out)
      have HZJ := zh HZ.out.info
      have HZO := zh HZ.out.one
      clear hzs
      go_wp2_with (refine zd rfl 106 (.tmp 6) (.tmp 56) rfl (w.heap.size + 1) 0 zs.toArray rfl (by rw [HZS.out]; rfl) HTH.out HZJ.out HZO.out ?_)
      obtain ⟨E1, E2, E3⟩ := (HM9.out).end_ HZ.out (jA (zR HM9.out.size))
      exact zi (v := .agg zs.toArray) (jH (B := w.heap.size) Tryz.results91 rfl E1 E2) rfl (by rw [HV.out, ← HE9.out]; exact ⟨_, rfl, E2.v, E3⟩)
    ·have d5 : (c.kind == 5) = false := by simpa using q5
     rw [zk q5] at HV
     clear q5
     have HNO := zh (@autoA_no (M.fs[k]'hkm).m.abs Y.id)
     generalize autoA (M.fs[k]'hkm).m.abs Y.id = tr at HV HAU HNO
     go_wp2_with fail
     refine HAU.out.mono ?_
     rintro e w8 ⟨v8, rfl, hs8⟩
     by_cases t0 : tr.1 = 0
     ·have d8 : (tr.1 != 0) = false := by simpa using t0
      rw [zk (by simpa using t0)] at HV
      clear t0 HNO
      have hok := HOK1.out
      rw [HV.out] at hok
      dsimp only at hok
      obtain ⟨M9, e9, el9, hm9⟩ := HST1.out hs8 hok
      have HM9 := zh hm9
      have HE9 := zh e9
      have HL9 : Hid (i < M9.l.length) := zh (by rw [el9]; exact hi)
      clear hok e9 el9 hm9 hs8
      have HTO := zh (told18_any w8 B b M9 n i HM9.out.at_ HM9.out.ok hnn HL9.out)
      go_wp2_with fail
      refine HTO.out.mono ?_
      rintro e X12 ⟨v12, rfl, hv12, f12⟩
      obtain ⟨zs, rfl, hz12⟩ := hv12.z
      have HM12 := zh (HM9.out.fresh f12)
      have HZ12 := zh hz12
      have HTH := zh (HM12.out.there HZ12.out)
      have HZJ := zh HZ12.out.info
      have HZO := zh HZ12.out.one
      clear f12 hv12 hz12
      go_wp2_with (refine zd rfl 106 (.tmp 6) (.tmp 103) rfl (w.heap.size + 1) 0 zs.toArray rfl rfl HTH.out HZJ.out HZO.out ?_)
      obtain ⟨E1, E2, E3⟩ := HM12.out.end_ HZ12.out (by have := HM9.out.size; omega)
      exact zi (v := .agg zs.toArray) (jH (B := w.heap.size) Tryz.results91 rfl E1 E2) rfl (by rw [HV.out, ← HE9.out]; exact ⟨_, rfl, E2.v, E3⟩)
     ·have d8 : (tr.1 != 0) = true := by simpa using t0
      rw [zl t0] at HV
      have h2 := HNO.out t0
      rw [h2] at hs8
      obtain ⟨M9, e9, el9, hm9⟩ := HST1.out hs8 (by rw [HSELF.out]; exact HMU.out.ok)
      rw [HSELF.out] at e9
      have HM9 := zh hm9
      have HE9 := zh e9
      clear t0 HNO h2 e9 el9 hm9 hs8
      obtain ⟨te, tf⟩ := tr
      dsimp only at d8 HV
      obtain ⟨zs, hzs⟩ : ∃ zs : List Value, zs = [.int .i64 te, .string ⟨#[]⟩, .int .i64 0, .int .i64 0, .int .i64 0, .int .i64 0, .int .i64 0, .slice none 0 0, .slice none 0 0] := ⟨_, rfl⟩
      have HZ : Hid (RepZ w8 (w8).heap.size zs (repC te)) := zh (by rw [hzs]; exact jX _ _ _)
      have HZS := zh hzs
      have HTH := zh ((HM9.out).there HZ.out)
      have HZJ := zh HZ.out.info
      have HZO := zh HZ.out.one
      clear hzs
      go_wp2_with (refine zd rfl 106 (.tmp 6) (.tmp 56) rfl (w.heap.size + 1) 0 zs.toArray rfl (by rw [HZS.out]; rfl) HTH.out HZJ.out HZO.out ?_)
      obtain ⟨E1, E2, E3⟩ := (HM9.out).end_ HZ.out (jA (zR HM9.out.size))
      exact zi (v := .agg zs.toArray) (jH (B := w.heap.size) Tryz.results91 rfl E1 E2) rfl (by rw [HV.out, ← HE9.out]; exact ⟨_, rfl, E2.v, E3⟩)
noncomputable def applyR (x : Book) (c : Cm) : Book × Rep := if 1 ≤ c.kind then applyA x c else (x, repC 1)
theorem BookOk.applyR {n : Nat} {x : Book} (h : BookOk n x) {c : Cm} (hc : CmB c) : BookOk (n + 1) (applyR x c).1 := by
 unfold Go.Proofs.YtnmokpbomeamfaaGreat.applyR
 split
 ·exact h.applyA hc
 ·exact h.more (Nat.le_succ n)
theorem app_far {w X X2 : World} {cz : List Value} {B b n : Nat} {M : BkM} {r : Book × Rep} {e : Ending} (h : Mid w X cz B b n M) (hp : jN X B b r e X2) :
 ∃ zs, e = .returned (.agg zs.toArray) ∧ RepZ X2 X.heap.size zs r.2 ∧ StepB w B b r.1 X2 ∧ Blk X2 (w.heap.size + 1) 106 rz.toArray := by
 obtain ⟨v, rfl, hv, M', e, hb, F⟩ := hp
 obtain ⟨zs, rfl, hz⟩ := hv.z
 exact ⟨zs, rfl, hz, ⟨M', e, hb, h.ft.trans F⟩, F.blk h.rep (by decide)⟩
theorem app_told {w X X2 : World} {cz : List Value} {B b n : Nat} {M : BkM} {r : Rep} {e : Ending} (h : Mid w X cz B b n M) (hp : ToldPost X r e X2) : jN X B b (M.abs, r) e X2 := by
 obtain ⟨v, rfl, hv, F⟩ := hp
 exact ⟨v, rfl, hv, M, rfl, h.at_.fresh F, FT.of_fresh F⟩
theorem apply18_any (w : World) (B b : Nat) (M : BkM) (n : Nat) (c : Cm) (GA : Option Addr) (gc : Nat) (PA : Option Addr) (pc : Nat) (h : BookAt w B b M) (hB : B ≤ w.heap.size) (hk : BookOk n M.abs) (hn : n < 100) (hc : CmB c) (hL : CmL w c GA gc PA pc) :
 Calls Tryz.prog 73 #[.pointer (some ⟨b, 0, none⟩), .agg (ccel c GA gc PA pc).toArray] w fun e w' => jN w B b (applyR M.abs c) e w' := by
 obtain ⟨cz, hcz⟩ : ∃ x, x = ccel c GA gc PA pc := ⟨_, rfl⟩
 obtain ⟨W, hW⟩ : ∃ W, (w.alloc (.cells cz.toArray 95)).alloc (.cells rz.toArray 106) = W := ⟨_, rfl⟩
 have HPR : Hid (Pre w W cz) := zh (by rw [← hW]; exact pre_of w cz)
 have HM0 : Hid (Mid w W cz B b n M) := zh (Mid.of HPR.out h hk)
 have HCF : Hid (∀ w', Blk w' w.heap.size 95 cz.toArray → w'.cell? ⟨w.heap.size, 0, none⟩ = some (.int .i64 c.kind) ∧ w'.cell? ⟨w.heap.size, 1, none⟩ = some (.string (str c.pnr))) := zh fun w' hb => by rw [hcz] at hb; exact ⟨hb.cell 0, hb.cell 1⟩
 have HCI : Hid ((Tryz.prog.info? 95).map (·.size) = some cz.length) := zh (by rw [hcz]; kernel_rfl)
 have hLW := hL.fresh HPR.out.frm
 have HRI : Hid (Calls Tryz.prog 67 #[.agg cz.toArray] W fun e w'' => e = .returned (.bool (decide (1 ≤ c.kind))) ∧ Fresh W w'') := zh (by rw [hcz]; exact cmdRight_any W c hc GA gc PA pc hLW)
 have hll : M.l.length ≤ 100 := by have h1 := hk.len; have e : M.abs.l.length = M.l.length := rfl; omega
 have HC : Hid (∀ X, Fresh W X → ∀ (nm : Bool), True) := zh fun _ _ _ => trivial
 have HOP : Hid (∀ X, Fresh W X → Calls Tryz.prog 87 #[.pointer (some ⟨b, 0, none⟩), .agg cz.toArray] X fun e w' => jN X B b (openA M.abs c) e w') := zh fun X F => by rw [hcz]; exact open18_any X B b M n c GA gc PA pc (HM0.out.at_.fresh F) (zp hB (HPR.out.frm.trans F).size) hk hn hc (hLW.fresh F)
 have HHO : Hid (∀ X, Fresh W X → Calls Tryz.prog 88 #[.pointer (some ⟨b, 0, none⟩), .agg cz.toArray] X fun e w' => jN X B b (holdA M.abs c) e w') := zh fun X F => by rw [hcz]; exact hold18_any X B b M n c GA gc PA pc (HM0.out.at_.fresh F) (zp hB (HPR.out.frm.trans F).size) hk hn hc
 have HWA : Hid (∀ X, Fresh W X → Calls Tryz.prog 89 #[.pointer (some ⟨b, 0, none⟩), .agg cz.toArray] X fun e w' => jN X B b (waitA M.abs c) e w') := zh fun X F => by rw [hcz]; exact wait18_any X B b M n c GA gc PA pc (HM0.out.at_.fresh F) (zp hB (HPR.out.frm.trans F).size) hk hn hc
 have HCL : Hid (∀ X, Fresh W X → Calls Tryz.prog 90 #[.pointer (some ⟨b, 0, none⟩), .agg cz.toArray] X fun e w' => jN X B b (clockA M.abs c.tm) e w') := zh fun X F => by rw [hcz]; exact clock18_any X B b M n c GA gc PA pc (HM0.out.at_.fresh F) (zp hB (HPR.out.frm.trans F).size) hk (by omega) hc
 have HSH : Hid (1 ≤ c.kind → ∀ X, Fresh W X → Calls Tryz.prog 46 #[.pointer (some ⟨b, 0, none⟩), .agg cz.toArray] X fun e w' => jN X B b (M.abs, showA M.abs c) e w') := zh fun h1 X F => by rw [hcz]; exact (show18_any X B b M n c GA gc PA pc (HM0.out.at_.fresh F) hk (by omega) hc h1 (hLW.fresh F)).mono fun e w' hp => app_told (HM0.out.fresh F) hp
 have HNA : Hid (∀ X, Fresh W X → Calls Tryz.prog 68 #[.pointer (some ⟨b, 0, none⟩), .string (str c.pnr)] X fun e w' => NamedPost X (jT M.abs c.pnr) e w') := zh fun X F => named18_any X B b M c.pnr (HM0.out.at_.fresh F) (by omega) (by have := hc.pnr; omega)
 have HON : Hid (∀ i : Nat, i < M.l.length → ∀ X, Fresh W X → Calls Tryz.prog 91 #[.pointer (some ⟨b, 0, none⟩), .int .i64 (i : Int), .agg cz.toArray] X fun e w' => jN X B b (oneA M.abs i c) e w') := zh fun i hi X F => by rw [hcz]; exact one18_any X B b M n i c GA gc PA pc (HM0.out.at_.fresh F) (zp hB (HPR.out.frm.trans F).size) hk (by omega) hi
 have HNI : Hid ((jT M.abs c.pnr).2 = 0 → ∃ i : Nat, (jT M.abs c.pnr).1 = (i : Int) ∧ i < M.l.length) := zh fun h0 => namedA_at h0
 have HV : Hid (applyR M.abs c = if 1 ≤ c.kind then (if c.kind = 1 then openA M.abs c
  else if c.kind = 2 then holdA M.abs c
  else if c.kind = 7 then waitA M.abs c
  else if c.kind = 8 then clockA M.abs c.tm
  else if c.kind = 9 then (M.abs, showA M.abs c)
  else if (jT M.abs c.pnr).2 ≠ 0 then (M.abs, repC (jT M.abs c.pnr).2)
  else oneA M.abs (jT M.abs c.pnr).1.toNat c) else (M.abs, repC 1)) := zh (by unfold applyR applyA; rfl)
 have HCR : Hid (W.rangeAt w.heap.size 0 cz) := zh HPR.out.cmd.range
 rw [← hcz]
 generalize c.kind = kd at HCF HRI HV HSH
 generalize jT M.abs c.pnr = nr at HNA HNI HV
 generalize openA M.abs c = rOpen at HOP HV
 generalize holdA M.abs c = rHold at HHO HV
 generalize waitA M.abs c = rWait at HWA HV
 generalize clockA M.abs c.tm = rClock at HCL HV
 generalize showA M.abs c = rShow at HSH HV
 clear hcz h hk hc hL hLW HC hll
 go_in
 go_upto_region 1 with fail
 first | rw [show (w.alloc (.cells cz.toArray 95)).alloc (.cells #[.int .i64 0, .string ⟨#[]⟩, .int .i64 0, .int .i64 0, .int .i64 0, .int .i64 0, .int .i64 0, .slice none 0 0, .slice none 0 0] 106) = W from hW] | skip
 clear hW
 go_wp2_with (with_reducible refine zM rfl 95 (.tmp 3) rfl w.heap.size 0 rfl cz _ HCR.out Tryz.underlying95 rfl HCI.out ?_)
 refine HRI.out.mono ?_
 rintro e X ⟨rfl, F⟩
 have HFX := zh F
 have HMX := zh (HM0.out.fresh F)
 have x0 := (HCF.out X HMX.out.cmd).1
 have x1 := (HCF.out X HMX.out.cmd).2
 clear F HRI HM0
 by_cases c1 : 1 ≤ kd
 ·have d1 : decide (1 ≤ kd) = true := zc c1
  rw [zl c1] at HV
  have HSX := zh (HSH.out c1)
  clear HSH c1
  by_cases q1 : kd = 1
  ·have d1 : (kd == 1) = true := by simpa using q1
   rw [zl q1] at HV
   clear q1
   have HC2 := zh (HMX.out.cmd.range)
   go_wp2_with (with_reducible refine zM rfl 95 (.tmp 3) rfl w.heap.size 0 rfl cz _ HC2.out Tryz.underlying95 rfl HCI.out ?_)
   refine (HOP.out X HFX.out).mono ?_
   rintro e Z hp
   obtain ⟨zs, rfl, hz, hs, hr⟩ := app_far HMX.out hp
   have HZ := zh hz
   have HS := zh hs
   have HR := zh hr
   have HTH := zh (jZ hr rfl hz)
   have HZJ := zh HZ.out.info
   have HZO := zh HZ.out.one
   clear hp hz hs hr
   go_wp2_with (refine zd rfl 106 (.tmp 4) (.tmp 19) rfl (w.heap.size + 1) 0 zs.toArray rfl rfl HTH.out HZJ.out HZO.out ?_)
   obtain ⟨E1, E2, E3⟩ := app_end HR.out rfl HS.out HZ.out (by have := HMX.out.size; omega)
   exact zi (v := .agg zs.toArray) (jH (B := w.heap.size) Tryz.results73 rfl E1 E2) rfl (by rw [HV.out]; exact ⟨_, rfl, E2.v, E3⟩)
  ·have d1 : (kd == 1) = false := by simpa using q1
   rw [zk q1] at HV
   clear q1
   by_cases q2 : kd = 2
   ·have d2 : (kd == 2) = true := by simpa using q2
    rw [zl q2] at HV
    clear q2
    have HC2 := zh (HMX.out.cmd.range)
    go_wp2_with (with_reducible refine zM rfl 95 (.tmp 3) rfl w.heap.size 0 rfl cz _ HC2.out Tryz.underlying95 rfl HCI.out ?_)
    refine (HHO.out X HFX.out).mono ?_
    rintro e Z hp
    obtain ⟨zs, rfl, hz, hs, hr⟩ := app_far HMX.out hp
    have HZ := zh hz
    have HS := zh hs
    have HR := zh hr
    have HTH := zh (jZ hr rfl hz)
    have HZJ := zh HZ.out.info
    have HZO := zh HZ.out.one
    clear hp hz hs hr
    go_wp2_with (refine zd rfl 106 (.tmp 4) (.tmp 24) rfl (w.heap.size + 1) 0 zs.toArray rfl rfl HTH.out HZJ.out HZO.out ?_)
    obtain ⟨E1, E2, E3⟩ := app_end HR.out rfl HS.out HZ.out (by have := HMX.out.size; omega)
    exact zi (v := .agg zs.toArray) (jH (B := w.heap.size) Tryz.results73 rfl E1 E2) rfl (by rw [HV.out]; exact ⟨_, rfl, E2.v, E3⟩)
   ·have d2 : (kd == 2) = false := by simpa using q2
    rw [zk q2] at HV
    clear q2
    by_cases q7 : kd = 7
    ·have d7 : (kd == 7) = true := by simpa using q7
     rw [zl q7] at HV
     clear q7
     have HC2 := zh (HMX.out.cmd.range)
     go_wp2_with (with_reducible refine zM rfl 95 (.tmp 3) rfl w.heap.size 0 rfl cz _ HC2.out Tryz.underlying95 rfl HCI.out ?_)
     refine (HWA.out X HFX.out).mono ?_
     rintro e Z hp
     obtain ⟨zs, rfl, hz, hs, hr⟩ := app_far HMX.out hp
     have HZ := zh hz
     have HS := zh hs
     have HR := zh hr
     have HTH := zh (jZ hr rfl hz)
     have HZJ := zh HZ.out.info
     have HZO := zh HZ.out.one
     clear hp hz hs hr
     go_wp2_with (refine zd rfl 106 (.tmp 4) (.tmp 29) rfl (w.heap.size + 1) 0 zs.toArray rfl rfl HTH.out HZJ.out HZO.out ?_)
     obtain ⟨E1, E2, E3⟩ := app_end HR.out rfl HS.out HZ.out (by have := HMX.out.size; omega)
     exact zi (v := .agg zs.toArray) (jH (B := w.heap.size) Tryz.results73 rfl E1 E2) rfl (by rw [HV.out]; exact ⟨_, rfl, E2.v, E3⟩)
    ·have d7 : (kd == 7) = false := by simpa using q7
     rw [zk q7] at HV
     clear q7
     by_cases q8 : kd = 8
     ·have d8 : (kd == 8) = true := by simpa using q8
      rw [zl q8] at HV
      clear q8
      have HC2 := zh (HMX.out.cmd.range)
      go_wp2_with (with_reducible refine zM rfl 95 (.tmp 3) rfl w.heap.size 0 rfl cz _ HC2.out Tryz.underlying95 rfl HCI.out ?_)
      refine (HCL.out X HFX.out).mono ?_
      rintro e Z hp
      obtain ⟨zs, rfl, hz, hs, hr⟩ := app_far HMX.out hp
      have HZ := zh hz
      have HS := zh hs
      have HR := zh hr
      have HTH := zh (jZ hr rfl hz)
      have HZJ := zh HZ.out.info
      have HZO := zh HZ.out.one
      clear hp hz hs hr
      go_wp2_with (refine zd rfl 106 (.tmp 4) (.tmp 34) rfl (w.heap.size + 1) 0 zs.toArray rfl rfl HTH.out HZJ.out HZO.out ?_)
      obtain ⟨E1, E2, E3⟩ := app_end HR.out rfl HS.out HZ.out (by have := HMX.out.size; omega)
      exact zi (v := .agg zs.toArray) (jH (B := w.heap.size) Tryz.results73 rfl E1 E2) rfl (by rw [HV.out]; exact ⟨_, rfl, E2.v, E3⟩)
     ·have d8 : (kd == 8) = false := by simpa using q8
      rw [zk q8] at HV
      clear q8
      by_cases q9 : kd = 9
      ·have d9 : (kd == 9) = true := by simpa using q9
       rw [zl q9] at HV
       clear q9
       have HC2 := zh (HMX.out.cmd.range)
       go_wp2_with (with_reducible refine zM rfl 95 (.tmp 3) rfl w.heap.size 0 rfl cz _ HC2.out Tryz.underlying95 rfl HCI.out ?_)
       refine (HSX.out X HFX.out).mono ?_
       rintro e Z hp
       obtain ⟨zs, rfl, hz, hs, hr⟩ := app_far HMX.out hp
       have HZ := zh hz
       have HS := zh hs
       have HR := zh hr
       have HTH := zh (jZ hr rfl hz)
       have HZJ := zh HZ.out.info
       have HZO := zh HZ.out.one
       clear hp hz hs hr
       go_wp2_with (refine zd rfl 106 (.tmp 4) (.tmp 39) rfl (w.heap.size + 1) 0 zs.toArray rfl rfl HTH.out HZJ.out HZO.out ?_)
       obtain ⟨E1, E2, E3⟩ := app_end HR.out rfl HS.out HZ.out (by have := HMX.out.size; omega)
       exact zi (v := .agg zs.toArray) (jH (B := w.heap.size) Tryz.results73 rfl E1 E2) rfl (by rw [HV.out]; exact ⟨_, rfl, E2.v, E3⟩)
      ·have d9 : (kd == 9) = false := by simpa using q9
       rw [zk q9] at HV
       clear q9
       go_wp2_with fail
       refine (HNA.out X HFX.out).mono ?_
       rintro e X2 ⟨rfl, F2⟩
       have HFX2 := zh (HFX.out.trans F2)
       have HMX2 := zh (HMX.out.fresh F2)
       obtain ⟨ni, ne⟩ := nr
       dsimp only at HV HNI
       clear F2 x0 x1 HMX
       by_cases t0 : ne = 0
       ·obtain ⟨i, hie, hil⟩ := HNI.out t0
        subst t0 hie
        rw [zk (by simp), zx] at HV
        have HC2 := zh (HMX2.out.cmd.range)
        go_wp2_with (with_reducible refine zM rfl 95 (.tmp 3) rfl w.heap.size 0 rfl cz _ HC2.out Tryz.underlying95 rfl HCI.out ?_)
        refine (HON.out i hil X2 HFX2.out).mono ?_
        rintro e Z hp
        obtain ⟨zs, rfl, hz, hs, hr⟩ := app_far HMX2.out hp
        have HZ := zh hz
        have HS := zh hs
        have HR := zh hr
        have HTH := zh (jZ hr rfl hz)
        have HZJ := zh HZ.out.info
        have HZO := zh HZ.out.one
        clear hp hz hs hr
        go_wp2_with (refine zd rfl 106 (.tmp 4) (.tmp 54) rfl (w.heap.size + 1) 0 zs.toArray rfl rfl HTH.out HZJ.out HZO.out ?_)
        obtain ⟨E1, E2, E3⟩ := app_end HR.out rfl HS.out HZ.out (by have := HMX2.out.size; omega)
        exact zi (v := .agg zs.toArray) (jH (B := w.heap.size) Tryz.results73 rfl E1 E2) rfl (by rw [HV.out]; exact ⟨_, rfl, E2.v, E3⟩)
       ·have d8 : (ne != 0) = true := by simpa using t0
        rw [zl t0] at HV
        clear t0
        obtain ⟨zs, hzs⟩ : ∃ zs : List Value, zs = [.int .i64 ne, .string ⟨#[]⟩, .int .i64 0, .int .i64 0, .int .i64 0, .int .i64 0, .int .i64 0, .slice none 0 0, .slice none 0 0] := ⟨_, rfl⟩
        have HZ : Hid (RepZ X2 (X2).heap.size zs (repC ne)) := zh (by rw [hzs]; exact jX _ _ _)
        have HZS := zh hzs
        have HTH := zh ((HMX2.out).there HZ.out)
        have HZJ := zh HZ.out.info
        have HZO := zh HZ.out.one
        clear hzs
        go_wp2_with (refine zd rfl 106 (.tmp 4) (.tmp 50) rfl (w.heap.size + 1) 0 zs.toArray rfl (by rw [HZS.out]; rfl) HTH.out HZJ.out HZO.out ?_)
        obtain ⟨E1, E2, E3⟩ := (HMX2.out).end_ HZ.out (jA (zR HMX2.out.size))
        exact zi (v := .agg zs.toArray) (jH (B := w.heap.size) Tryz.results73 rfl E1 E2) rfl (by rw [HV.out]; exact ⟨_, rfl, E2.v, E3⟩)
 ·have d1 : decide (1 ≤ kd) = false := zb c1
  rw [zk c1] at HV
  obtain ⟨zs, hzs⟩ : ∃ zs : List Value, zs = [.int .i64 1, .string ⟨#[]⟩, .int .i64 0, .int .i64 0, .int .i64 0, .int .i64 0, .int .i64 0, .slice none 0 0, .slice none 0 0] := ⟨_, rfl⟩
  have HZ : Hid (RepZ X (X).heap.size zs (repC 1)) := zh (by rw [hzs]; exact jX _ _ _)
  have HZS := zh hzs
  have HTH := zh ((HMX.out).there HZ.out)
  have HZJ := zh HZ.out.info
  have HZO := zh HZ.out.one
  clear hzs
  go_wp2_with (refine zd rfl 106 (.tmp 4) (.tmp 12) rfl (w.heap.size + 1) 0 zs.toArray rfl (by rw [HZS.out]; rfl) HTH.out HZJ.out HZO.out ?_)
  obtain ⟨E1, E2, E3⟩ := (HMX.out).end_ HZ.out (jA (zR HMX.out.size))
  exact zi (v := .agg zs.toArray) (jH (B := w.heap.size) Tryz.results73 rfl E1 E2) rfl (by rw [HV.out]; exact ⟨_, rfl, E2.v, E3⟩)
end
section
open Go.RowKit
theorem refNumber_any (N : Nat) (hN : N < 18446744073709551616) (w : World) :
 Calls Tryz.prog 65 #[.int .u64 (N : Int)] w fun e w' => ∃ v, e = .returned v ∧ Sl w' w.heap.size 5 1 v (FieldM.num N).length ((FieldM.num N).map bv) ∧ Fresh w w' := by
 obtain ⟨i0, hi, hz0, hz1, hz2⟩ := info_parts info_u8
 have hw := FieldM.wid_le hN
 have HN := zh hN
 clear hN
 go_in
 go_wp2_with fail
 go_loopw [0, 3] (fun v0 v3 wr => ∃ k m : Nat, k ≤ FieldM.wid N ∧ m = N / 256 ^ k ∧ v0 = .int .u64 (m : Int) ∧ Sl wr w.heap.size 5 1 v3 k ((FieldM.be k N).map bv) ∧ Fresh w wr) (fun v0 _ _ => (intOf v0).toNat)
 case atStart => exact ⟨0, N, zF _, by simp, rfl, Sl.nil _ _ _ _, za _ _⟩
 case round =>
  obtain ⟨k, m, hk, hm, rfl, hsl, hfr⟩ := hrel
  have hsz := hfr.size
  have hml : m ≤ 18446744073709551615 := by rw [hm]; have := HN.out; have := Nat.div_le_self N (256 ^ k); omega
  have HM := zh hm
  clear hm
  obtain ⟨A, cap, rfl, hkc, hcm, hno⟩ := hsl.shape
  by_cases h0 : 0 < m
  ·have hlt : k < FieldM.wid N := by
    rcases zL k (FieldM.wid N) with h | h
    ·exact h
    ·have h1 := (FieldM.wid_lt k N HN.out).2 h
     have h2 := HM.out
     rw [Nat.div_eq_of_lt h1] at h2
     omega
   go_wp2_with (at_builtin; refine jD _ rfl (.tmp 9) (.tmp 10) _ rfl w.heap.size 5 i0 _ 1 1 Tryz.underlying39 hi hz0 hz1 hz2 rfl (by omega) _ _ _ rfl (sl_new wr _ [_] _ hsz (by simp [maxLen])) _ _ k _ _ rfl (by rw [zB, FieldM.be_length]; omega) ((hsl.alloc _).rd) ?c1 ?c2 ?c3 ?c4 ?_)
   case c1 => exact bv_one _
   case c2 => unfold maxLen; simp; omega
   case c3 => simp; omega
   case c4 => simp; omega
   intro v2 w2 hs2 hf2 _
   have hb : Value.int IntKind.u8 ((m : Int) % 256) = bv (UInt8.ofNat (N / 256 ^ k % 256)) := bv_eq (by rw [UInt8.toNat_ofNat', ← HM.out]; omega)
   have hs3 : Sl w2 w.heap.size 5 1 v2 (k + 1) ((FieldM.be (k + 1) N).map bv) := by
    rw [FieldM.be_cons, zW, ← hb, Nat.add_comm k 1]
    exact hs2
   have hf3 : Fresh w w2 := (hfr.alloc _).trans' hf2 (fun i hi hk => by simp [Value.ownBlock] at hk; omega)
   clear hs2 hf2 hb
   go_wp2
   go_roundw
   case rel => exact ⟨k + 1, m / 256, by omega, by rw [Nat.pow_succ, ← Nat.div_div_eq_div_mul, ← HM.out], by go_num, hs3, hf3⟩
   case measure => simp [intOf]; omega
  ·go_wp2_with (at_builtin; refine jD _ rfl (.tmp 17) (.tmp 18) _ rfl w.heap.size 5 i0 _ 1 1 Tryz.underlying39 hi hz0 hz1 hz2 rfl (by omega) _ _ _ rfl (sl_new wr _ [_] _ hsz (by simp [maxLen])) _ _ k _ _ rfl (by rw [zB, FieldM.be_length]; omega) ((hsl.alloc _).rd) ?c1 ?c2 ?c3 ?c4 ?_)
   case c1 => exact bv_one _
   case c2 => unfold maxLen; simp; omega
   case c3 => simp; omega
   case c4 => simp; omega
   intro v2 w2 hs2 hf2 _
   have hkw : k = FieldM.wid N := by
    rcases zL k (FieldM.wid N) with h | h
    ·have h1 : ¬ N < 256 ^ k := fun h1 => by have := (FieldM.wid_lt k N HN.out).1 h1; omega
     have h2 := HM.out
     have h3 : 0 < N / 256 ^ k := Nat.div_pos (by omega) (Nat.pow_pos (by omega))
     omega
    ·omega
   have hb : Value.int IntKind.u8 (k : Int) = bv (UInt8.ofNat (FieldM.wid N)) := bv_eq (by rw [UInt8.toNat_ofNat', ← hkw]; omega)
   have hs3 : Sl w2 w.heap.size 5 1 v2 (FieldM.num N).length ((FieldM.num N).map bv) := by
    rw [FieldM.num_length, FieldM.num, zW, ← hb, ← hkw, Nat.add_comm k 1]
    exact hs2
   have hf3 : Fresh w w2 := (hfr.alloc _).trans' hf2 (fun i hi hk => by simp [Value.ownBlock] at hk; omega)
   clear hs2 hf2 hb hkw
   go_wp2
   go_ret
   exact ⟨_, rfl, hs3, hf3⟩
theorem refText_any (A : Option Addr) (cap : Nat) (bs : List UInt8) (w : World) (hb : Rd w w.heap.size A (bs.map bv)) (hl : bs.length ≤ 140737488351232) :
 Calls Tryz.prog 44 #[.slice A bs.length cap] w fun e w' => ∃ v, e = .returned v ∧ Sl w' w.heap.size 5 1 v (FieldM.text bs).length ((FieldM.text bs).map bv) ∧ Fresh w w' := by
 obtain ⟨i0, hi, hz0, hz1, hz2⟩ := info_parts info_u8
 have hw := FieldM.wid_le (n := bs.length) (by omega)
 have hnl := FieldM.num_length bs.length
 have HNL := zh hnl
 have K := zh (fun w => refNumber_any bs.length (by omega) w)
 clear hnl
 go_in
 go_wp2_with fail
 refine (K.out _).mono ?_
 rintro e w1 ⟨v1, rfl, hs1, hf1⟩
 have hb1 := hb.fresh (zf _) hf1
 have hsz := hf1.size
 go_wp2_with (at_builtin; refine jD _ rfl (.tmp 6) (.tmp 7) _ rfl w.heap.size 5 i0 _ 1 1 Tryz.underlying39 hi hz0 hz1 hz2 rfl (by omega) _ _ _ rfl hs1 _ _ _ _ _ rfl (by simp) hb1 (bv_one _) ?c2 ?c3 hsz ?_)
 case c2 => rw [HNL.out]; unfold maxLen; omega
 case c3 => rw [HNL.out]; omega
 intro v2 w2 hs2 hf2 _
 have hs3 : Sl w2 w.heap.size 5 1 v2 (FieldM.text bs).length ((FieldM.text bs).map bv) := by
  rw [FieldM.text, zg, zn]
  exact hs2
 have hf3 : Fresh w w2 := hf1.trans' hf2 (fun i hi hk => by have := hs1.lt i hk; omega)
 clear hs2 hf2
 go_wp2
 go_ret
 exact ⟨_, rfl, hs3, hf3⟩
end
section
open Go.RowKit QueueM
def numsB (l : List Int) : List UInt8 := l.flatMap fun n => FieldM.num n.toNat
def OwnB (w : World) (l : List UInt8) (e : Ending) (w' : World) : Prop := ∃ v, e = .returned v ∧ Sl w' w.heap.size 5 1 v l.length (l.map bv) ∧ Fresh w w'
theorem numsB_step {l : List Int} {i : Nat} (h : i < l.length) : numsB (l.take (i + 1)) = numsB (l.take i) ++ FieldM.num l[i].toNat := by
 unfold numsB
 rw [zu h, zV]
 simp
theorem qA (l : List Int) (h : ∀ x ∈ l, x ≤ 9223372036854775807) : (numsB l).length ≤ l.length * 10 := by
 induction l with
 | nil => simp [numsB]
 | cons x r ih =>
  have h1 := ih (fun y hy => h y (List.mem_cons_of_mem _ hy))
  have h2 := FieldM.num_length x.toNat
  have h3 := FieldM.wid_le (n := x.toNat) (by have := h x (by simp); omega)
  unfold numsB at h1 ⊢
  rw [zq, zg, zG]
  omega
theorem numbers18_any (w : World) (A : Option Addr) (c : Nat) (l : List Int) (hA : Rd w w.heap.size A (ivs l)) (hl : l.length ≤ 1000) (hp : ∀ x ∈ l, 0 ≤ x ∧ x ≤ 9223372036854775807) :
 Calls Tryz.prog 72 #[.slice A l.length c] w fun e w' => OwnB w (numsB l) e w' := by
 obtain ⟨i0, hi, hz0, hz1, hz2⟩ := info_parts info_u8
 have HRD : Hid (∀ w', Fresh w w' → Rd w' w.heap.size A (ivs l)) := zh fun w' F => hA.fresh (zf _) F
 have HP := zh hp
 have HLE : Hid (∀ i, (numsB (l.take i)).length ≤ l.length * 10) := zh fun i => by
  have h1 := qA (l.take i) (fun x hx => (hp x (List.mem_of_mem_take hx)).2)
  have h2 : (l.take i).length ≤ l.length := by rw [zw]; omega
  omega
 clear hA hp
 go_in
 go_wp2_with fail
 go_loopw [3, 4] (fun v3 v4 wr => ∃ (k : Nat) (acc : List UInt8), k ≤ l.length ∧ v4 = .int .i64 (k : Int) ∧ acc = numsB (l.take k) ∧ Sl wr w.heap.size 5 1 v3 acc.length (acc.map bv) ∧ Fresh w wr) (fun _ v4 _ => l.length - (intOf v4).toNat)
 case atStart => exact ⟨0, [], by omega, rfl, by simp [numsB], Sl.nil _ _ _ _, za _ _⟩
 case round =>
  obtain ⟨k, acc, hkl, rfl, hacc, hsl, hf⟩ := hrel
  have hk0 : (0 : Int) ≤ (k : Int) := by omega
  have HF := zh hf
  have HAC := zh hacc
  have hal : acc.length ≤ 10000 := by have := HLE.out k; rw [hacc]; omega
  obtain ⟨A6, c6, rfl, _⟩ := hsl.shape
  have HSL := zh hsl
  clear hsl hf hacc
  by_cases hlt : k < l.length
  ·have hlti : (k : Int) < (l.length : Int) := by omega
   have d1 : decide ((k : Int) < (l.length : Int)) = true := zc hlti
   obtain ⟨b6, o6, hSA, _, hc6⟩ := (HRD.out wr HF.out).at_ (k := k) (by simpa using hlt)
   subst hSA
   rw [List.getElem_map] at hc6
   obtain ⟨hn0, hn1⟩ := HP.out _ (ze hlt)
   have HN : Hid (acc ++ FieldM.num l[k].toNat = numsB (l.take (k + 1))) := zh (by rw [numsB_step hlt, HAC.out])
   generalize l[k] = n at hc6 hn0 hn1 HN
   obtain ⟨n, rfl⟩ := zA hn0
   rw [zx] at HN
   have hnl : n < 18446744073709551616 := by omega
   have HNU := zh (refNumber_any n hnl wr)
   have hmx : max (n : Int) 0 = (n : Int) := by omega
   have hnn : ¬ (n : Int) < 0 := by omega
   have hnw := FieldM.num_length n
   have hnw2 := FieldM.wid_le (n := n) hnl
   have hnw3 : (FieldM.num n).length ≤ 10 := by omega
   clear hnw hnw2
   go_wp2_with fail
   refine HNU.out.mono ?_
   rintro e w2 ⟨v2, rfl, hs2, f2⟩
   have HF2 := zh (HF.out.trans f2)
   have HSL2 := zh (HSL.out.fresh f2)
   obtain ⟨A2, c2, rfl, _⟩ := hs2.shape
   have HR2 := zh hs2.rd
   have hs0 := f2.size
   clear hs2 f2
   go_wp2_with (at_builtin; refine jK (by rfl) (.tmp 11) (.tmp 18) _ rfl w 5 i0 _ 1 1 Tryz.underlying39 hi hz0 hz1 hz2 rfl Nat.one_pos _ acc.length _ rfl HSL2.out _ _ (FieldM.num n).length _ _ rfl (by simp) HR2.out (bv_one _) (by omega) (by omega) HF2.out ?_; intro v5 x5 hs5 hf5)
   have HS5 : Hid (Sl x5 w.heap.size 5 1 v5 (acc ++ FieldM.num n).length ((acc ++ FieldM.num n).map bv)) := zh (by rw [zg, zn]; exact hs5)
   have HF5 := zh hf5
   clear hs5 hf5
   go_roundw
   case rel => exact ⟨k + 1, acc ++ FieldM.num n, by omega, by go_num, HN.out, HS5.out, HF5.out⟩
   case measure => simp [intOf]; omega
  ·have hlti : ¬ (k : Int) < (l.length : Int) := by omega
   have d1 : decide ((k : Int) < (l.length : Int)) = false := zb hlti
   have d2 : decide (k < l.length) = false := zb hlt
   have HE : Hid (acc = numsB l) := zh (by rw [HAC.out, zD (by omega)])
   go_wp2_with fail
   go_ret
   unfold OwnB
   rw [← HE.out]
   exact ⟨_, rfl, HSL.out, HF.out⟩
theorem numbers19_any (w : World) (A : Option Addr) (c : Nat) (l : List Int) (hA : Rd w w.heap.size A (ivs l)) (hl : l.length ≤ 1000) (hp : ∀ x ∈ l, 0 ≤ x ∧ x ≤ 9223372036854775807) :
 Calls Tryz.prog 43 #[.slice A l.length c] w fun e w' => OwnB w (numsB l) e w' := by
 obtain ⟨i0, hi, hz0, hz1, hz2⟩ := info_parts info_u8
 have HRD : Hid (∀ w', Fresh w w' → Rd w' w.heap.size A (ivs l)) := zh fun w' F => hA.fresh (zf _) F
 have HP := zh hp
 have HLE : Hid (∀ i, (numsB (l.take i)).length ≤ l.length * 10) := zh fun i => by
  have h1 := qA (l.take i) (fun x hx => (hp x (List.mem_of_mem_take hx)).2)
  have h2 : (l.take i).length ≤ l.length := by rw [zw]; omega
  omega
 clear hA hp
 go_in
 go_wp2_with fail
 go_loopw [3, 4] (fun v3 v4 wr => ∃ (k : Nat) (acc : List UInt8), k ≤ l.length ∧ v4 = .int .i64 (k : Int) ∧ acc = numsB (l.take k) ∧ Sl wr w.heap.size 5 1 v3 acc.length (acc.map bv) ∧ Fresh w wr) (fun _ v4 _ => l.length - (intOf v4).toNat)
 case atStart => exact ⟨0, [], by omega, rfl, by simp [numsB], Sl.nil _ _ _ _, za _ _⟩
 case round =>
  obtain ⟨k, acc, hkl, rfl, hacc, hsl, hf⟩ := hrel
  have hk0 : (0 : Int) ≤ (k : Int) := by omega
  have HF := zh hf
  have HAC := zh hacc
  have hal : acc.length ≤ 10000 := by have := HLE.out k; rw [hacc]; omega
  obtain ⟨A6, c6, rfl, _⟩ := hsl.shape
  have HSL := zh hsl
  clear hsl hf hacc
  by_cases hlt : k < l.length
  ·have hlti : (k : Int) < (l.length : Int) := by omega
   have d1 : decide ((k : Int) < (l.length : Int)) = true := zc hlti
   obtain ⟨b6, o6, hSA, _, hc6⟩ := (HRD.out wr HF.out).at_ (k := k) (by simpa using hlt)
   subst hSA
   rw [List.getElem_map] at hc6
   obtain ⟨hn0, hn1⟩ := HP.out _ (ze hlt)
   have HN : Hid (acc ++ FieldM.num l[k].toNat = numsB (l.take (k + 1))) := zh (by rw [numsB_step hlt, HAC.out])
   generalize l[k] = n at hc6 hn0 hn1 HN
   obtain ⟨n, rfl⟩ := zA hn0
   rw [zx] at HN
   have hnl : n < 18446744073709551616 := by omega
   have HNU := zh (refNumber_any n hnl wr)
   have hmx : max (n : Int) 0 = (n : Int) := by omega
   have hnn : ¬ (n : Int) < 0 := by omega
   have hnw := FieldM.num_length n
   have hnw2 := FieldM.wid_le (n := n) hnl
   have hnw3 : (FieldM.num n).length ≤ 10 := by omega
   clear hnw hnw2
   go_wp2_with fail
   refine HNU.out.mono ?_
   rintro e w2 ⟨v2, rfl, hs2, f2⟩
   have HF2 := zh (HF.out.trans f2)
   have HSL2 := zh (HSL.out.fresh f2)
   obtain ⟨A2, c2, rfl, _⟩ := hs2.shape
   have HR2 := zh hs2.rd
   have hs0 := f2.size
   clear hs2 f2
   go_wp2_with (at_builtin; refine jK (by rfl) (.tmp 11) (.tmp 18) _ rfl w 5 i0 _ 1 1 Tryz.underlying39 hi hz0 hz1 hz2 rfl Nat.one_pos _ acc.length _ rfl HSL2.out _ _ (FieldM.num n).length _ _ rfl (by simp) HR2.out (bv_one _) (by omega) (by omega) HF2.out ?_; intro v5 x5 hs5 hf5)
   have HS5 : Hid (Sl x5 w.heap.size 5 1 v5 (acc ++ FieldM.num n).length ((acc ++ FieldM.num n).map bv)) := zh (by rw [zg, zn]; exact hs5)
   have HF5 := zh hf5
   clear hs5 hf5
   go_roundw
   case rel => exact ⟨k + 1, acc ++ FieldM.num n, by omega, by go_num, HN.out, HS5.out, HF5.out⟩
   case measure => simp [intOf]; omega
  ·have hlti : ¬ (k : Int) < (l.length : Int) := by omega
   have d1 : decide ((k : Int) < (l.length : Int)) = false := zb hlti
   have d2 : decide (k < l.length) = false := zb hlt
   have HE : Hid (acc = numsB l) := zh (by rw [HAC.out, zD (by omega)])
   go_wp2_with fail
   go_ret
   unfold OwnB
   rw [← HE.out]
   exact ⟨_, rfl, HSL.out, HF.out⟩
end
end Go.Proofs.YtnmokpbomeamfaaGreat

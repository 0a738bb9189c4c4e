/- Proved here, for the statement TopFairCardSaid: laws that its walk leans on. It holds with no condition. (Put together and shortened by a program out of many texts: To48.) -/
import Derived.Test.YtbeaoddjomdlcaaGreatDoorZ31
set_option linter.unusedVariables false
set_option linter.unusedSimpArgs false
set_option maxRecDepth 100000
set_option maxHeartbeats 64000000
namespace Go.Proofs.YtbeaoddjomdlcaaGreatDoor
section
open Go.RowKit
open QueueM (Wt)
theorem one3_any (w : World) (B : Nat) (hB : B ≤ w.heap.size) (b : BoM) (h : BookP w B b) (hw : b.wt) (i : Int) (y : BkM) (hy : b.K i = some y) (c : CmA) (GA : Option Addr) (gc : Nat) (PA : Option Addr) (pc : Nat) (hL : CmAL w c GA gc PA pc) (ok : CmOk c) (hk : c.kind = 3) :
    Calls Tryz.prog 15 #[.pointer (some ⟨b.b, 0, none⟩), .pointer (some ⟨y.p, 0, none⟩), .agg (cmcel c GA gc PA pc).toArray] w fun e w' => ActPost w B b True e w' := by
  obtain ⟨hb, hlt, x, hx⟩ := h.bo i y hy
  obtain ⟨cz, hcz⟩ : ∃ x, x = cmcel c GA gc PA pc := ⟨_, rfl⟩
  rw [← hcz]
  obtain ⟨W, hW⟩ : ∃ W, (w.alloc (.cells cz.toArray 36)).alloc (.cells (replyC 0) 29) = W := ⟨_, rfl⟩
  have HFW : Hid (Fresh w W) := zh (by rw [← hW]; exact ((Frm.refl _ w).alloc _).alloc _)
  have HBC : Hid (Blk W w.heap.size 36 (cmcel c GA gc PA pc).toArray) := zh (by rw [← hW, ← hcz]; exact (Blk.new _ _ _).alloc _)
  have HBR : Hid (Blk W (w.heap.size + 1) 29 (replyC 0)) := zh (by rw [← hW]; have := Blk.new (w.alloc (.cells cz.toArray 36)) 29 (replyC 0); rw [show (w.alloc (.cells cz.toArray 36)).heap.size = w.heap.size + 1 from Array.size_push _] at this; exact this)
  have HWS : Hid (W.heap.size = w.heap.size + 2) := zh (by rw [← hW]; exact (Array.size_push _).trans (congrArg (· + 1) (Array.size_push _)))
  have HS1 : Hid (∀ w', Fresh W w' → w'.cell? ⟨b.b, 2, none⟩ = some (.map (some b.fm)) ∧ w'.cell? ⟨y.p, 1, none⟩ = some (.int .i64 y.fl) ∧ (Instr.lookup 42 (.map (some b.fm)) (.int .i64 y.fl) false).run Tryz.prog w' = .ok (.agg #[.pointer (some ⟨x.M.f, 0, none⟩), .pointer (some ⟨x.q, 0, none⟩)]) w') := zh fun w' F => by
    have hq := h.fresh (HFW.out.trans F)
    have hl := hq.fmv.at' (t := 42) Tryz.underlying42 (z := .agg #[.pointer none, .pointer none]) (fun _ => by kernel_rfl) (k := y.fl) hb.wf.1
    rw [BoM.fv_some hx] at hl
    exact ⟨hq.blk.cell 2, (hq.bo i y hy).1.blk.cell 1, hl⟩
  have HID : Hid (y.id = i ∧ wf64 i ∧ wf64 y.fl) := zh ⟨hb.id, by have := hb.kb; have := h.nw; exact ⟨by omega, by omega⟩, hb.wf.1⟩
  have HH := zh h
  have HW := zh hw
  have HL := zh hL
  have HOK := zh ok
  have HKD := zh hk
  have HX := zh hx
  have HY := zh hy
  unfold replyC at hW
  clear h hw hL ok hcz hk hb hlt hx hy
  go_in
  go_upto_region 1 with fail
  try rw [hW]
  clear hW
  refine wp_region_held_drew (S := fun w' => w'.cell? ⟨b.b, 2, none⟩ = some (.map (some b.fm)) ∧ w'.cell? ⟨y.p, 1, none⟩ = some (.int .i64 y.fl) ∧ (Instr.lookup 42 (.map (some b.fm)) (.int .i64 y.fl) false).run Tryz.prog w' = .ok (.agg #[.pointer (some ⟨x.M.f, 0, none⟩), .pointer (some ⟨x.q, 0, none⟩)]) w') (by kernel_rfl) (HS1.out _ (Frm.refl (fun _ => False) W).drew) (fun hHeld => ?_)
  iterate 9 ((first | refine ztn (v := ?_) (zo rfl) ?_ | refine ztz (v := ?_) (zo rfl) ?_); try simp only [Act.put, zT, zZ, zS])
  refine zr1 9 (zo rfl) (fun K hK => ?_)
  go_simp
  have HB9 := zh (Blk.new W.drew 75 #[.pointer none, .pointer none])
  have HF9 : Hid (Fresh W (W.drew.alloc (.cells #[.pointer none, .pointer none] 75))) := zh (((Frm.refl (fun _ => False) W).drew).alloc _)
  refine hK.out _ _ (HS1.out _ HF9.out) (fun hHeld => ?_)
  clear hK K
  try simp only [Act.put, zT, zZ, zS]
  refine zr1 10 (zo rfl) (fun K hK => ?_)
  rw [if_pos (by rfl)]
  refine wp_store_mid _ _ _ rfl _ 0 #[.pointer (some ⟨x.M.f, 0, none⟩), .pointer (some ⟨x.q, 0, none⟩)] rfl rfl (HB9.out.there rfl) (by kernel_rfl) (by kernel_rfl) ?_
  have HB10 := zh (blk_setAll HB9.out (vs := [.pointer (some ⟨x.M.f, 0, none⟩), .pointer (some ⟨x.q, 0, none⟩)]) rfl)
  have HF10 := zh (HF9.out.trans' (frm_setCells W.heap.size [.pointer (some ⟨x.M.f, 0, none⟩), .pointer (some ⟨x.q, 0, none⟩)] 0 (W.drew.alloc (.cells #[.pointer none, .pointer none] 75))) (fun k hk e => by omega))
  refine hK.out _ _ (HS1.out _ HF10.out) (fun hHeld => ?_)
  clear hK K
  try simp only [Act.put, zT, zZ, zS]
  refine wpAnyH_done (by kernel_rfl) ?_ _
  obtain ⟨V, hV⟩ : ∃ V, (W.drew.alloc (.cells #[.pointer none, .pointer none] 75)).setCells W.heap.size 0 [.pointer (some ⟨x.M.f, 0, none⟩), .pointer (some ⟨x.q, 0, none⟩)] = V := ⟨_, rfl⟩
  have hf2 := HF10.out
  have hb2 := HB10.out
  rw [hV] at hf2
  rw [show W.drew.heap.size = W.heap.size from rfl, hV] at hb2
  have HF2 : Hid (Fresh w V) := zh (HFW.out.trans hf2)
  have HOB : Hid (OneB V w.heap.size c GA gc PA pc W.heap.size x.M.f x.q) := zh ⟨HBC.out.frm hf2 (fun f => f), HBR.out.frm hf2 (fun f => f), hb2⟩
  rw [show (W.alloc (.cells #[.pointer none, .pointer none] 75)).drew.setCells W.heap.size 0 [.pointer (some ⟨x.M.f, 0, none⟩), .pointer (some ⟨x.q, 0, none⟩)] = V from hV]
  clear HF9 HB9 HF10 HB10 hf2 hb2 HS1 HBC HBR hV
  have HBV : Hid (BookP V B b) := zh (HH.out.fresh HF2.out)
  have y4 : V.cell? ⟨y.p, 4, none⟩ = some (.int .i64 y.st) := (HBV.out.bo i y HY.out).1.blk.cell 4
  have z0 : V.cell? ⟨w.heap.size, 0, none⟩ = some (.int .i64 3) := by rw [← HKD.out]; exact (cmC HOB.out.c).1
  by_cases hs : y.st = 1
  rotate_left 1
  · have d1 : (y.st == 1) = false := by simpa using hs
    have d1' : decide (y.st = 1) = false := decide_eq_false hs
    go_wp2_with fail
    refine (need_no 7 _).mono ?_
    rintro e w3 ⟨rfl, hw3⟩
    replace hw3 := hw3.symm
    subst hw3
    exact ⟨rfl, ActPost.no HH.out HW.out HF2.out 7⟩
  rw [hs] at y4
  have HS := zh hs
  clear hs
  go_wp2_with fail
  refine (need_yes 7 _).mono ?_
  rintro e w3 ⟨rfl, hw3⟩
  replace hw3 := hw3.symm
  subst hw3
  have y5 : V.cell? ⟨y.p, 5, none⟩ = some (.int .i64 y.un) := (HBV.out.bo i y HY.out).1.blk.cell 5
  have q4 : V.frozen? ⟨y.p, 4, none⟩ = false := (HBV.out.bo i y HY.out).1.blk.frozen _
  have q5 : V.frozen? ⟨y.p, 5, none⟩ = false := (HBV.out.bo i y HY.out).1.blk.frozen _
  obtain ⟨V8, hV8⟩ : ∃ V8, (V.setCell ⟨y.p, 4, none⟩ (.int .i64 2)).setCell ⟨y.p, 5, none⟩ (.int .i64 0) = V8 := ⟨_, rfl⟩
  have st8 := BStep.confirm HBV.out HY.out
  rw [hV8] at st8
  obtain ⟨y8, hy8⟩ : ∃ y8, y8 = { y with st := 2, un := 0 } := ⟨_, rfl⟩
  have HY8 : Hid (y8.p = y.p) := zh (by rw [hy8])
  rw [← hy8] at st8
  obtain ⟨b8, hb8⟩ : ∃ b8 : BoM, b8 = { b with K := updP b.K i (some y8) } := ⟨_, rfl⟩
  rw [← hb8] at st8
  have HST8 : Hid (BStep w B b V8 b8) := zh ((BStep.refl HH.out HF2.out).trans st8)
  have HK8 : Hid (b8.K i = some y8) := zh (by rw [hb8]; exact updP_same _ _ _)
  have HWT8 : Hid b8.wt := zh (by rw [hb8]; exact BoM.wt_confirm HW.out HY.out (by rw [HS.out]; decide))
  have HFAIR8 : Hid (True → FairB b b8) := zh (fun _ => by rw [hb8]; exact FairB.same (fun _ => rfl))
  have HBR8 : Hid (Blk V8 (w.heap.size + 1) 29 (replyC 0)) := zh (HOB.out.step HBV.out st8.fr).r
  clear hy8 hb8 st8
  go_upto_region 21 with fail
  try rw [hV8]
  clear hV8 y4 y5 q4 q5 z0 HOB
  have HTO : Hid (Calls Tryz.prog 29 #[.pointer (some ⟨b.b, 0, none⟩), .pointer (some ⟨y.p, 0, none⟩)] V8 fun e w' => RepPost V8 e w') := zh (by
    have := told_any V8 B b8 HST8.out.bk i y8 HK8.out
    rw [HST8.out.e1, HY8.out] at this
    exact this)
  go_wp2_with fail
  refine HTO.out.mono ?_
  rintro e w9 ⟨zs, hz, rfl, f9⟩
  have HBR9 := zh (HBR8.out.frm f9 (fun f => f))
  have HST9 := zh (HST8.out.fresh f9)
  clear f9 HTO
  have HRZ := zh hz
  have HTHR : Hid (w9.there (w.heap.size + 1) 0 zs.toArray.size) := zh (HBR9.out.there (by have := hz.len; show _ = 9; simpa using this))
  have HINF := zh hz.info
  have HONE := zh hz.one
  clear hz
  go_wp2_with (refine wpList_store_mid rfl 29 (.tmp 6) (.tmp 109) rfl (w.heap.size + 1) 0 zs.toArray rfl rfl HTHR.out HINF.out HONE.out ?_)
  exact rep_done rfl rfl (blk_setAll HBR9.out (vs := zs) (by rw [HRZ.out.len]; rfl)) HRZ.out (ActPost.yes (HST9.out.box HBR9.out (by omega) (by decide) (by decide) (frm_setCells _ _ 0 _)) HWT8.out HFAIR8.out HRZ.out)
theorem one5_any (w : World) (B : Nat) (hB : B ≤ w.heap.size) (b : BoM) (h : BookP w B b) (hw : b.wt) (i : Int) (y : BkM) (hy : b.K i = some y) (c : CmA) (GA : Option Addr) (gc : Nat) (PA : Option Addr) (pc : Nat) (hL : CmAL w c GA gc PA pc) (ok : CmOk c) (hk : c.kind = 5) :
    Calls Tryz.prog 15 #[.pointer (some ⟨b.b, 0, none⟩), .pointer (some ⟨y.p, 0, none⟩), .agg (cmcel c GA gc PA pc).toArray] w fun e w' => ActPost w B b True e w' := by
  obtain ⟨hb, hlt, x, hx⟩ := h.bo i y hy
  obtain ⟨cz, hcz⟩ : ∃ x, x = cmcel c GA gc PA pc := ⟨_, rfl⟩
  rw [← hcz]
  obtain ⟨W, hW⟩ : ∃ W, (w.alloc (.cells cz.toArray 36)).alloc (.cells (replyC 0) 29) = W := ⟨_, rfl⟩
  have HFW : Hid (Fresh w W) := zh (by rw [← hW]; exact ((Frm.refl _ w).alloc _).alloc _)
  have HBC : Hid (Blk W w.heap.size 36 (cmcel c GA gc PA pc).toArray) := zh (by rw [← hW, ← hcz]; exact (Blk.new _ _ _).alloc _)
  have HBR : Hid (Blk W (w.heap.size + 1) 29 (replyC 0)) := zh (by rw [← hW]; have := Blk.new (w.alloc (.cells cz.toArray 36)) 29 (replyC 0); rw [show (w.alloc (.cells cz.toArray 36)).heap.size = w.heap.size + 1 from Array.size_push _] at this; exact this)
  have HWS : Hid (W.heap.size = w.heap.size + 2) := zh (by rw [← hW]; exact (Array.size_push _).trans (congrArg (· + 1) (Array.size_push _)))
  have HS1 : Hid (∀ w', Fresh W w' → w'.cell? ⟨b.b, 2, none⟩ = some (.map (some b.fm)) ∧ w'.cell? ⟨y.p, 1, none⟩ = some (.int .i64 y.fl) ∧ (Instr.lookup 42 (.map (some b.fm)) (.int .i64 y.fl) false).run Tryz.prog w' = .ok (.agg #[.pointer (some ⟨x.M.f, 0, none⟩), .pointer (some ⟨x.q, 0, none⟩)]) w') := zh fun w' F => by
    have hq := h.fresh (HFW.out.trans F)
    have hl := hq.fmv.at' (t := 42) Tryz.underlying42 (z := .agg #[.pointer none, .pointer none]) (fun _ => by kernel_rfl) (k := y.fl) hb.wf.1
    rw [BoM.fv_some hx] at hl
    exact ⟨hq.blk.cell 2, (hq.bo i y hy).1.blk.cell 1, hl⟩
  have HID : Hid (y.id = i ∧ wf64 i ∧ wf64 y.fl) := zh ⟨hb.id, by have := hb.kb; have := h.nw; exact ⟨by omega, by omega⟩, hb.wf.1⟩
  have HH := zh h
  have HW := zh hw
  have HL := zh hL
  have HOK := zh ok
  have HKD := zh hk
  have HX := zh hx
  have HY := zh hy
  unfold replyC at hW
  clear h hw hL ok hcz hk hb hlt hx hy
  go_in
  go_upto_region 1 with fail
  try rw [hW]
  clear hW
  refine wp_region_held_drew (S := fun w' => w'.cell? ⟨b.b, 2, none⟩ = some (.map (some b.fm)) ∧ w'.cell? ⟨y.p, 1, none⟩ = some (.int .i64 y.fl) ∧ (Instr.lookup 42 (.map (some b.fm)) (.int .i64 y.fl) false).run Tryz.prog w' = .ok (.agg #[.pointer (some ⟨x.M.f, 0, none⟩), .pointer (some ⟨x.q, 0, none⟩)]) w') (by kernel_rfl) (HS1.out _ (Frm.refl (fun _ => False) W).drew) (fun hHeld => ?_)
  iterate 9 ((first | refine ztn (v := ?_) (zo rfl) ?_ | refine ztz (v := ?_) (zo rfl) ?_); try simp only [Act.put, zT, zZ, zS])
  refine zr1 9 (zo rfl) (fun K hK => ?_)
  go_simp
  have HB9 := zh (Blk.new W.drew 75 #[.pointer none, .pointer none])
  have HF9 : Hid (Fresh W (W.drew.alloc (.cells #[.pointer none, .pointer none] 75))) := zh (((Frm.refl (fun _ => False) W).drew).alloc _)
  refine hK.out _ _ (HS1.out _ HF9.out) (fun hHeld => ?_)
  clear hK K
  try simp only [Act.put, zT, zZ, zS]
  refine zr1 10 (zo rfl) (fun K hK => ?_)
  rw [if_pos (by rfl)]
  refine wp_store_mid _ _ _ rfl _ 0 #[.pointer (some ⟨x.M.f, 0, none⟩), .pointer (some ⟨x.q, 0, none⟩)] rfl rfl (HB9.out.there rfl) (by kernel_rfl) (by kernel_rfl) ?_
  have HB10 := zh (blk_setAll HB9.out (vs := [.pointer (some ⟨x.M.f, 0, none⟩), .pointer (some ⟨x.q, 0, none⟩)]) rfl)
  have HF10 := zh (HF9.out.trans' (frm_setCells W.heap.size [.pointer (some ⟨x.M.f, 0, none⟩), .pointer (some ⟨x.q, 0, none⟩)] 0 (W.drew.alloc (.cells #[.pointer none, .pointer none] 75))) (fun k hk e => by omega))
  refine hK.out _ _ (HS1.out _ HF10.out) (fun hHeld => ?_)
  clear hK K
  try simp only [Act.put, zT, zZ, zS]
  refine wpAnyH_done (by kernel_rfl) ?_ _
  obtain ⟨V, hV⟩ : ∃ V, (W.drew.alloc (.cells #[.pointer none, .pointer none] 75)).setCells W.heap.size 0 [.pointer (some ⟨x.M.f, 0, none⟩), .pointer (some ⟨x.q, 0, none⟩)] = V := ⟨_, rfl⟩
  have hf2 := HF10.out
  have hb2 := HB10.out
  rw [hV] at hf2
  rw [show W.drew.heap.size = W.heap.size from rfl, hV] at hb2
  have HF2 : Hid (Fresh w V) := zh (HFW.out.trans hf2)
  have HOB : Hid (OneB V w.heap.size c GA gc PA pc W.heap.size x.M.f x.q) := zh ⟨HBC.out.frm hf2 (fun f => f), HBR.out.frm hf2 (fun f => f), hb2⟩
  rw [show (W.alloc (.cells #[.pointer none, .pointer none] 75)).drew.setCells W.heap.size 0 [.pointer (some ⟨x.M.f, 0, none⟩), .pointer (some ⟨x.q, 0, none⟩)] = V from hV]
  clear HF9 HB9 HF10 HB10 hf2 hb2 HS1 HBC HBR hV
  have HBV : Hid (BookP V B b) := zh (HH.out.fresh HF2.out)
  have y4 : V.cell? ⟨y.p, 4, none⟩ = some (.int .i64 y.st) := (HBV.out.bo i y HY.out).1.blk.cell 4
  have z0 : V.cell? ⟨w.heap.size, 0, none⟩ = some (.int .i64 5) := by rw [← HKD.out]; exact (cmC HOB.out.c).1
  by_cases hs : y.st = 3
  · rw [hs] at y4
    clear hs
    go_wp2_with fail
    refine (need_no 7 _).mono ?_
    rintro e w3 ⟨rfl, hw3⟩
    replace hw3 := hw3.symm
    subst hw3
    exact ⟨rfl, ActPost.no HH.out HW.out HF2.out 7⟩
  have d1 : (y.st == 3) = false := by simpa using hs
  have d1' : decide (y.st = 3) = false := decide_eq_false hs
  have HS := zh hs
  clear hs
  go_wp2_with fail
  refine (need_yes 7 _).mono ?_
  rintro e w3 ⟨rfl, hw3⟩
  replace hw3 := hw3.symm
  subst hw3
  have HBD : Hid (BookP V.drew B b) := zh (HBV.out.fresh (Frm.refl _ _).drew)
  have HSS : Hid (∀ w' (b' : BoM), OneB w' w.heap.size c GA gc PA pc W.heap.size x.M.f x.q → b'.K i = some y → BookP w' B b' → w'.cell? ⟨W.heap.size, 0, none⟩ = some (.pointer (some ⟨x.M.f, 0, none⟩)) ∧ w'.cell? ⟨y.p, 0, none⟩ = some (.int .i64 i) ∧ w'.cell? ⟨w.heap.size, 7, none⟩ = some (.string c.lb)) := zh fun w' b' h hk hb => ⟨h.pl.cell 0, by have := (hb.bo i y hk).1.blk.cell 0; rw [← HID.out.1]; exact this, (cmC h.c).2.2.2.2.2.2.2.1⟩
  have HSE : Hid (Calls Tryz.prog 36 #[.pointer (some ⟨x.M.f, 0, none⟩), .int .i64 i, .string c.lb] V.drew fun e w' => CodePost V.drew B x.M e w') := zh (seat_any V.drew B (Nat.le_trans hB HF2.out.size) x.M (HBD.out.pl _ x HX.out).1.f i HID.out.2.1 c.lb (by have := HOK.out.lb; omega))
  go_upto_region 16 with fail
  refine wp_region_held_drew (S := fun w' => w'.cell? ⟨W.heap.size, 0, none⟩ = some (.pointer (some ⟨x.M.f, 0, none⟩)) ∧ w'.cell? ⟨y.p, 0, none⟩ = some (.int .i64 i) ∧ w'.cell? ⟨w.heap.size, 7, none⟩ = some (.string c.lb)) (by kernel_rfl) (HSS.out _ _ (HOB.out.fresh (Frm.refl _ _).drew) HY.out HBD.out) (fun hHeld => ?_)
  iterate 8 ((first | refine ztn (v := ?_) (zo rfl) ?_ | refine ztz (v := ?_) (zo rfl) ?_); try simp only [Act.put, zT, zZ, zS])
  refine zr1 8 (zo rfl) (fun K hK => ?_)
  go_simp
  refine (HSE.out).mono ?_
  rintro e w6 ⟨k6, rfl, hs6⟩
  obtain ⟨x6, e61, e62, e63, st6⟩ := BStep.flight HBD.out HX.out hs6
  have HST6 : Hid (BStep w B b w6 { b with P := updP b.P y.fl (some x6) }) := zh ((BStep.refl HH.out HF2.out.drew).trans st6)
  have HE6 : Hid (x6.ws = x.ws) := zh e61
  have HOB6 : Hid (OneB w6 w.heap.size c GA gc PA pc W.heap.size x.M.f x.q) := zh ((HOB.out.fresh (Frm.refl _ _).drew).step HBD.out st6.fr)
  have HWT6 := zh (BoM.wt_P HW.out HX.out e61)
  clear hs6 e61 e62 e63 st6
  refine hK.out _ _ (HSS.out _ { b with P := updP b.P y.fl (some x6) } HOB6.out HY.out HST6.out.bk) (fun hHeld => ?_)
  clear hK K
  try simp only [Act.put, zT, zZ, zS]
  refine zr1 9 (zo rfl) (fun K hK => ?_)
  by_cases hk6 : k6 = 0
  rotate_left 1
  · go_simp
    refine (must_no k6 hk6 _).mono ?_
    rintro e w3 ⟨rfl, hw3⟩
    replace hw3 := hw3.symm
    subst hw3
    exact ⟨rfl, ActPost.pan HST6.out HWT6.out (fun _ => FairB.of_P HX.out HE6.out rfl) k6⟩
  subst hk6
  go_simp
  refine (must_yes _).mono ?_
  rintro e w3 ⟨rfl, hw3⟩
  replace hw3 := hw3.symm
  subst hw3
  refine hK.out _ _ (HSS.out _ { b with P := updP b.P y.fl (some x6) } HOB6.out HY.out HST6.out.bk) (fun hHeld => ?_)
  clear hK K
  try simp only [Act.put, zT, zZ, zS]
  refine wpAnyH_done (by kernel_rfl) ?_ _
  have HST8 := HST6
  obtain ⟨b8, hb8⟩ : ∃ b8 : BoM, b8 = { b with P := updP b.P y.fl (some x6) } := ⟨_, rfl⟩
  rw [← hb8] at HST8
  have HK8 : Hid (b8.K i = some y) := zh (by rw [hb8]; exact HY.out)
  have HY8 : Hid (y.p = y.p) := zh rfl
  have HWT8 : Hid b8.wt := zh (by rw [hb8]; exact HWT6.out)
  have HFAIR8 : Hid (True → FairB b b8) := zh (fun _ => FairB.of_P HX.out HE6.out (by rw [hb8]))
  have HBR8 := zh HOB6.out.r
  clear hb8 HST6 HOB6 HSS HSE HBD HOB y4 z0 HE6 HWT6
  have HTO : Hid (Calls Tryz.prog 29 #[.pointer (some ⟨b.b, 0, none⟩), .pointer (some ⟨y.p, 0, none⟩)] w6 fun e w' => RepPost w6 e w') := zh (by
    have := told_any w6 B b8 HST8.out.bk i y HK8.out
    rw [HST8.out.e1, HY8.out] at this
    exact this)
  go_wp2_with fail
  refine HTO.out.mono ?_
  rintro e w9 ⟨zs, hz, rfl, f9⟩
  have HBR9 := zh (HBR8.out.frm f9 (fun f => f))
  have HST9 := zh (HST8.out.fresh f9)
  clear f9 HTO
  have HRZ := zh hz
  have HTHR : Hid (w9.there (w.heap.size + 1) 0 zs.toArray.size) := zh (HBR9.out.there (by have := hz.len; show _ = 9; simpa using this))
  have HINF := zh hz.info
  have HONE := zh hz.one
  clear hz
  go_wp2_with (refine wpList_store_mid rfl 29 (.tmp 6) (.tmp 109) rfl (w.heap.size + 1) 0 zs.toArray rfl rfl HTHR.out HINF.out HONE.out ?_)
  exact rep_done rfl rfl (blk_setAll HBR9.out (vs := zs) (by rw [HRZ.out.len]; rfl)) HRZ.out (ActPost.yes (HST9.out.box HBR9.out (by omega) (by decide) (by decide) (frm_setCells _ _ 0 _)) HWT8.out HFAIR8.out HRZ.out)
theorem one6_any (w : World) (B : Nat) (hB : B ≤ w.heap.size) (b : BoM) (h : BookP w B b) (hw : b.wt) (i : Int) (y : BkM) (hy : b.K i = some y) (c : CmA) (GA : Option Addr) (gc : Nat) (PA : Option Addr) (pc : Nat) (hL : CmAL w c GA gc PA pc) (ok : CmOk c) (hk : c.kind = 6) :
    Calls Tryz.prog 15 #[.pointer (some ⟨b.b, 0, none⟩), .pointer (some ⟨y.p, 0, none⟩), .agg (cmcel c GA gc PA pc).toArray] w fun e w' => ActPost w B b True e w' := by
  obtain ⟨hb, hlt, x, hx⟩ := h.bo i y hy
  obtain ⟨cz, hcz⟩ : ∃ x, x = cmcel c GA gc PA pc := ⟨_, rfl⟩
  rw [← hcz]
  obtain ⟨W, hW⟩ : ∃ W, (w.alloc (.cells cz.toArray 36)).alloc (.cells (replyC 0) 29) = W := ⟨_, rfl⟩
  have HFW : Hid (Fresh w W) := zh (by rw [← hW]; exact ((Frm.refl _ w).alloc _).alloc _)
  have HBC : Hid (Blk W w.heap.size 36 (cmcel c GA gc PA pc).toArray) := zh (by rw [← hW, ← hcz]; exact (Blk.new _ _ _).alloc _)
  have HBR : Hid (Blk W (w.heap.size + 1) 29 (replyC 0)) := zh (by rw [← hW]; have := Blk.new (w.alloc (.cells cz.toArray 36)) 29 (replyC 0); rw [show (w.alloc (.cells cz.toArray 36)).heap.size = w.heap.size + 1 from Array.size_push _] at this; exact this)
  have HWS : Hid (W.heap.size = w.heap.size + 2) := zh (by rw [← hW]; exact (Array.size_push _).trans (congrArg (· + 1) (Array.size_push _)))
  have HS1 : Hid (∀ w', Fresh W w' → w'.cell? ⟨b.b, 2, none⟩ = some (.map (some b.fm)) ∧ w'.cell? ⟨y.p, 1, none⟩ = some (.int .i64 y.fl) ∧ (Instr.lookup 42 (.map (some b.fm)) (.int .i64 y.fl) false).run Tryz.prog w' = .ok (.agg #[.pointer (some ⟨x.M.f, 0, none⟩), .pointer (some ⟨x.q, 0, none⟩)]) w') := zh fun w' F => by
    have hq := h.fresh (HFW.out.trans F)
    have hl := hq.fmv.at' (t := 42) Tryz.underlying42 (z := .agg #[.pointer none, .pointer none]) (fun _ => by kernel_rfl) (k := y.fl) hb.wf.1
    rw [BoM.fv_some hx] at hl
    exact ⟨hq.blk.cell 2, (hq.bo i y hy).1.blk.cell 1, hl⟩
  have HID : Hid (y.id = i ∧ wf64 i ∧ wf64 y.fl) := zh ⟨hb.id, by have := hb.kb; have := h.nw; exact ⟨by omega, by omega⟩, hb.wf.1⟩
  have HH := zh h
  have HW := zh hw
  have HL := zh hL
  have HOK := zh ok
  have HKD := zh hk
  have HX := zh hx
  have HY := zh hy
  unfold replyC at hW
  clear h hw hL ok hcz hk hb hlt hx hy
  go_in
  go_upto_region 1 with fail
  try rw [hW]
  clear hW
  refine wp_region_held_drew (S := fun w' => w'.cell? ⟨b.b, 2, none⟩ = some (.map (some b.fm)) ∧ w'.cell? ⟨y.p, 1, none⟩ = some (.int .i64 y.fl) ∧ (Instr.lookup 42 (.map (some b.fm)) (.int .i64 y.fl) false).run Tryz.prog w' = .ok (.agg #[.pointer (some ⟨x.M.f, 0, none⟩), .pointer (some ⟨x.q, 0, none⟩)]) w') (by kernel_rfl) (HS1.out _ (Frm.refl (fun _ => False) W).drew) (fun hHeld => ?_)
  iterate 9 ((first | refine ztn (v := ?_) (zo rfl) ?_ | refine ztz (v := ?_) (zo rfl) ?_); try simp only [Act.put, zT, zZ, zS])
  refine zr1 9 (zo rfl) (fun K hK => ?_)
  go_simp
  have HB9 := zh (Blk.new W.drew 75 #[.pointer none, .pointer none])
  have HF9 : Hid (Fresh W (W.drew.alloc (.cells #[.pointer none, .pointer none] 75))) := zh (((Frm.refl (fun _ => False) W).drew).alloc _)
  refine hK.out _ _ (HS1.out _ HF9.out) (fun hHeld => ?_)
  clear hK K
  try simp only [Act.put, zT, zZ, zS]
  refine zr1 10 (zo rfl) (fun K hK => ?_)
  rw [if_pos (by rfl)]
  refine wp_store_mid _ _ _ rfl _ 0 #[.pointer (some ⟨x.M.f, 0, none⟩), .pointer (some ⟨x.q, 0, none⟩)] rfl rfl (HB9.out.there rfl) (by kernel_rfl) (by kernel_rfl) ?_
  have HB10 := zh (blk_setAll HB9.out (vs := [.pointer (some ⟨x.M.f, 0, none⟩), .pointer (some ⟨x.q, 0, none⟩)]) rfl)
  have HF10 := zh (HF9.out.trans' (frm_setCells W.heap.size [.pointer (some ⟨x.M.f, 0, none⟩), .pointer (some ⟨x.q, 0, none⟩)] 0 (W.drew.alloc (.cells #[.pointer none, .pointer none] 75))) (fun k hk e => by omega))
  refine hK.out _ _ (HS1.out _ HF10.out) (fun hHeld => ?_)
  clear hK K
  try simp only [Act.put, zT, zZ, zS]
  refine wpAnyH_done (by kernel_rfl) ?_ _
  obtain ⟨V, hV⟩ : ∃ V, (W.drew.alloc (.cells #[.pointer none, .pointer none] 75)).setCells W.heap.size 0 [.pointer (some ⟨x.M.f, 0, none⟩), .pointer (some ⟨x.q, 0, none⟩)] = V := ⟨_, rfl⟩
  have hf2 := HF10.out
  have hb2 := HB10.out
  rw [hV] at hf2
  rw [show W.drew.heap.size = W.heap.size from rfl, hV] at hb2
  have HF2 : Hid (Fresh w V) := zh (HFW.out.trans hf2)
  have HOB : Hid (OneB V w.heap.size c GA gc PA pc W.heap.size x.M.f x.q) := zh ⟨HBC.out.frm hf2 (fun f => f), HBR.out.frm hf2 (fun f => f), hb2⟩
  rw [show (W.alloc (.cells #[.pointer none, .pointer none] 75)).drew.setCells W.heap.size 0 [.pointer (some ⟨x.M.f, 0, none⟩), .pointer (some ⟨x.q, 0, none⟩)] = V from hV]
  clear HF9 HB9 HF10 HB10 hf2 hb2 HS1 HBC HBR hV
  have HBV : Hid (BookP V B b) := zh (HH.out.fresh HF2.out)
  have y4 : V.cell? ⟨y.p, 4, none⟩ = some (.int .i64 y.st) := (HBV.out.bo i y HY.out).1.blk.cell 4
  have z0 : V.cell? ⟨w.heap.size, 0, none⟩ = some (.int .i64 6) := by rw [← HKD.out]; exact (cmC HOB.out.c).1
  by_cases hs : y.st = 3
  · rw [hs] at y4
    clear hs
    go_wp2_with fail
    refine (need_no 7 _).mono ?_
    rintro e w3 ⟨rfl, hw3⟩
    replace hw3 := hw3.symm
    subst hw3
    exact ⟨rfl, ActPost.no HH.out HW.out HF2.out 7⟩
  have d1 : (y.st == 3) = false := by simpa using hs
  have d1' : decide (y.st = 3) = false := decide_eq_false hs
  have HS := zh hs
  clear hs
  go_wp2_with fail
  refine (need_yes 7 _).mono ?_
  rintro e w3 ⟨rfl, hw3⟩
  replace hw3 := hw3.symm
  subst hw3
  have HBD : Hid (BookP V.drew B b) := zh (HBV.out.fresh (Frm.refl _ _).drew)
  have HSS : Hid (∀ w' (b' : BoM), OneB w' w.heap.size c GA gc PA pc W.heap.size x.M.f x.q → b'.K i = some y → BookP w' B b' → w'.cell? ⟨W.heap.size, 0, none⟩ = some (.pointer (some ⟨x.M.f, 0, none⟩)) ∧ w'.cell? ⟨y.p, 0, none⟩ = some (.int .i64 i) ∧ w'.cell? ⟨w.heap.size, 7, none⟩ = some (.string c.lb)) := zh fun w' b' h hk hb => ⟨h.pl.cell 0, by have := (hb.bo i y hk).1.blk.cell 0; rw [← HID.out.1]; exact this, (cmC h.c).2.2.2.2.2.2.2.1⟩
  have HSE : Hid (Calls Tryz.prog 37 #[.pointer (some ⟨x.M.f, 0, none⟩), .int .i64 i] V.drew fun e w' => AutoPost V.drew B x.M e w') := zh (auto_any V.drew B (Nat.le_trans hB HF2.out.size) x.M (HBD.out.pl _ x HX.out).1.f i HID.out.2.1)
  go_upto_region 19 with fail
  refine wp_region_held_drew (S := fun w' => w'.cell? ⟨W.heap.size, 0, none⟩ = some (.pointer (some ⟨x.M.f, 0, none⟩)) ∧ w'.cell? ⟨y.p, 0, none⟩ = some (.int .i64 i) ∧ w'.cell? ⟨w.heap.size, 7, none⟩ = some (.string c.lb)) (by kernel_rfl) (HSS.out _ _ (HOB.out.fresh (Frm.refl _ _).drew) HY.out HBD.out) (fun hHeld => ?_)
  iterate 6 ((first | refine ztn (v := ?_) (zo rfl) ?_ | refine ztz (v := ?_) (zo rfl) ?_); try simp only [Act.put, zT, zZ, zS])
  refine zr1 6 (zo rfl) (fun K hK => ?_)
  go_simp
  refine (HSE.out).mono ?_
  rintro e w6 ⟨A6, n6, c6, k6, rfl, hs6⟩
  obtain ⟨x6, e61, e62, e63, st6⟩ := BStep.flight HBD.out HX.out hs6
  have HST6 : Hid (BStep w B b w6 { b with P := updP b.P y.fl (some x6) }) := zh ((BStep.refl HH.out HF2.out.drew).trans st6)
  have HE6 : Hid (x6.ws = x.ws) := zh e61
  have HOB6 : Hid (OneB w6 w.heap.size c GA gc PA pc W.heap.size x.M.f x.q) := zh ((HOB.out.fresh (Frm.refl _ _).drew).step HBD.out st6.fr)
  have HWT6 := zh (BoM.wt_P HW.out HX.out e61)
  clear hs6 e61 e62 e63 st6
  refine hK.out _ _ (HSS.out _ { b with P := updP b.P y.fl (some x6) } HOB6.out HY.out HST6.out.bk) (fun hHeld => ?_)
  clear hK K
  try simp only [Act.put, zT, zZ, zS]
  iterate 5 (refine ztn (v := ?_) (zo rfl) ?_; try simp only [Act.put, zT, zZ, zS])
  refine wpAnyH_done (by kernel_rfl) ?_ _
  go_wp2_with fail
  by_cases hk6 : k6 = 0
  rotate_left 1
  · refine (must_no k6 hk6 _).mono ?_
    rintro e w3 ⟨rfl, hw3⟩
    replace hw3 := hw3.symm
    subst hw3
    exact ⟨rfl, ActPost.pan HST6.out HWT6.out (fun _ => FairB.of_P HX.out HE6.out rfl) k6⟩
  subst hk6
  refine (must_yes _).mono ?_
  rintro e w3 ⟨rfl, hw3⟩
  replace hw3 := hw3.symm
  subst hw3
  have HST8 := HST6
  obtain ⟨b8, hb8⟩ : ∃ b8 : BoM, b8 = { b with P := updP b.P y.fl (some x6) } := ⟨_, rfl⟩
  rw [← hb8] at HST8
  have HK8 : Hid (b8.K i = some y) := zh (by rw [hb8]; exact HY.out)
  have HY8 : Hid (y.p = y.p) := zh rfl
  have HWT8 : Hid b8.wt := zh (by rw [hb8]; exact HWT6.out)
  have HFAIR8 : Hid (True → FairB b b8) := zh (fun _ => FairB.of_P HX.out HE6.out (by rw [hb8]))
  have HBR8 := zh HOB6.out.r
  clear hb8 HST6 HOB6 HSS HSE HBD HOB y4 z0 HE6 HWT6
  have HTO : Hid (Calls Tryz.prog 29 #[.pointer (some ⟨b.b, 0, none⟩), .pointer (some ⟨y.p, 0, none⟩)] w6 fun e w' => RepPost w6 e w') := zh (by
    have := told_any w6 B b8 HST8.out.bk i y HK8.out
    rw [HST8.out.e1, HY8.out] at this
    exact this)
  go_wp2_with fail
  refine HTO.out.mono ?_
  rintro e w9 ⟨zs, hz, rfl, f9⟩
  have HBR9 := zh (HBR8.out.frm f9 (fun f => f))
  have HST9 := zh (HST8.out.fresh f9)
  clear f9 HTO
  have HRZ := zh hz
  have HTHR : Hid (w9.there (w.heap.size + 1) 0 zs.toArray.size) := zh (HBR9.out.there (by have := hz.len; show _ = 9; simpa using this))
  have HINF := zh hz.info
  have HONE := zh hz.one
  clear hz
  go_wp2_with (refine wpList_store_mid rfl 29 (.tmp 6) (.tmp 109) rfl (w.heap.size + 1) 0 zs.toArray rfl rfl HTHR.out HINF.out HONE.out ?_)
  exact rep_done rfl rfl (blk_setAll HBR9.out (vs := zs) (by rw [HRZ.out.len]; rfl)) HRZ.out (ActPost.yes (HST9.out.box HBR9.out (by omega) (by decide) (by decide) (frm_setCells _ _ 0 _)) HWT8.out HFAIR8.out HRZ.out)
end
end Go.Proofs.YtbeaoddjomdlcaaGreatDoor

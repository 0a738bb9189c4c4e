/- Proved here, for the statement TopFairCardSaid: laws that its walk leans on. It holds with no condition. (Put together and shortened by a program out of many texts: To46, To47.) -/
import Derived.Test.YtbeaoddjomdlcaaGreatDoorZ30
set_option linter.unusedVariables false
set_option linter.unusedSimpArgs false
set_option maxRecDepth 100000
set_option maxHeartbeats 64000000
namespace Go.Proofs.YtbeaoddjomdlcaaGreatDoor
section
open Go.RowKit
open QueueM (Wt)
theorem ask7_any (w : World) (B : Nat) (hB : B ≤ w.heap.size) (b : BoM) (h : BookP w B b) (hw : b.wt) (c : CmA) (GA : Option Addr) (gc : Nat) (PA : Option Addr) (pc : Nat) (hL : CmAL w c GA gc PA pc) (ok : CmOk c) (hk : c.kind = 7) :
    Calls Tryz.prog 12 #[.pointer (some ⟨b.b, 0, none⟩), .agg (cmcel c GA gc PA pc).toArray] w fun e w' => ActPost w B b False e w' := by
  obtain ⟨cz, hcz⟩ : ∃ x, x = cmcel c GA gc PA pc := ⟨_, rfl⟩
  rw [← hcz]
  obtain ⟨W, hW⟩ : ∃ W, (w.alloc (.cells cz.toArray 36)).alloc (.cells (replyC 0) 29) = W := ⟨_, rfl⟩
  have HFW : Hid (Fresh w W) := zh (by rw [← hW]; exact ((Frm.refl _ w).alloc _).alloc _)
  have HBC : Hid (Blk W w.heap.size 36 (cmcel c GA gc PA pc).toArray) := zh (by rw [← hW, ← hcz]; exact (Blk.new _ _ _).alloc _)
  have HBR : Hid (Blk W (w.heap.size + 1) 29 (replyC 0)) := zh (by rw [← hW]; have := Blk.new (w.alloc (.cells cz.toArray 36)) 29 (replyC 0); rw [show (w.alloc (.cells cz.toArray 36)).heap.size = w.heap.size + 1 from Array.size_push _] at this; exact this)
  have HWS : Hid (W.heap.size = w.heap.size + 2) := zh (by rw [← hW]; exact (Array.size_push _).trans (congrArg (· + 1) (Array.size_push _)))
  have HFLW : Hid (wf64 c.fl ∧ wf64 c.cl ∧ wf64 c.mn) := zh ⟨hL.wf.2.1, hL.wf.2.2.1, hL.wf.2.2.2.1⟩
  have HAT := zh (at_any W B b (h.fresh HFW.out) c.fl HFLW.out.1)
  have HH := zh h
  have HW := zh hw
  have HL := zh hL
  have HOK := zh ok
  have HKD := zh hk
  have y2 : W.cell? ⟨w.heap.size, 2, none⟩ = some (.int .i64 c.fl) := (cmC HBC.out).2.2.1
  unfold replyC at hW
  clear h hw hL ok hcz hk
  go_in
  go_upto_region 1 with fail
  try rw [hW]
  clear hW
  go_wp2_with fail
  refine HAT.out.mono ?_
  rintro e V0 ⟨f0, ⟨x, hx, rfl⟩ | ⟨hx, rfl⟩⟩
  rotate_left 1
  · exact ⟨rfl, ActPost.no HH.out HW.out (HFW.out.trans f0) 2⟩
  obtain ⟨V1, hV1⟩ : ∃ V1, V0.alloc (.cells #[.pointer (some ⟨x.M.f, 0, none⟩), .pointer (some ⟨x.q, 0, none⟩)] 75) = V1 := ⟨_, rfl⟩
  have f1 : Fresh W V1 := by rw [← hV1]; exact f0.alloc _
  have HF1 : Hid (Fresh w V1) := zh (HFW.out.trans f1)
  have HBP1 : Hid (Blk V1 V0.heap.size 75 #[.pointer (some ⟨x.M.f, 0, none⟩), .pointer (some ⟨x.q, 0, none⟩)]) := zh (by rw [← hV1]; exact Blk.new _ _ _)
  have HBC1 := zh (HBC.out.frm f1 (fun f => f))
  have HBR1 := zh (HBR.out.frm f1 (fun f => f))
  have HSZ : Hid (w.heap.size + 2 ≤ V0.heap.size ∧ V1.heap.size = V0.heap.size + 1) := zh ⟨by have := f0.size; have := HWS.out; omega, by rw [← hV1]; exact Array.size_push _⟩
  have HX := zh hx
  obtain ⟨z0, _, z2, z3, z4, z5, z6, _, _, _, _⟩ := cmC HBC1.out
  rw [HKD.out] at z0
  have y0 : V1.cell? ⟨b.b, 0, none⟩ = some (.int .i64 b.tm) := (HH.out.fresh HF1.out).blk.cell 0
  have y1 : V1.cell? ⟨b.b, 1, none⟩ = some (.int .i64 b.nx) := (HH.out.fresh HF1.out).blk.cell 1
  clear f0 f1 hx HAT y2 HBC HBR HFW
  go_wp2_with fail
  try rw [hV1]
  clear hV1
  go_region
  obtain ⟨V2, hV2⟩ : ∃ V2, (V1.alloc (.cells #[.int .i64 b.nx, .int .i64 c.fl, .int .i64 c.cl, .int .i64 c.mn, .int .i64 1, .int .i64 c.tm] 84)).drew = V2 := ⟨_, rfl⟩
  have f2 : Fresh V1 V2 := by rw [← hV2]; exact ((Frm.refl _ _).alloc _).drew
  have HF2 : Hid (Fresh w V2) := zh (HF1.out.trans f2)
  have HAB : Hid (AskB V2 w.heap.size c GA gc PA pc V0.heap.size x.M.f x.q V1.heap.size #[.int .i64 b.nx, .int .i64 c.fl, .int .i64 c.cl, .int .i64 c.mn, .int .i64 1, .int .i64 c.tm]) := zh ⟨HBC1.out.frm f2 (fun f => f), HBR1.out.frm f2 (fun f => f), HBP1.out.frm f2 (fun f => f), by rw [← hV2]; exact Blk.new V1 _ _, by have := HSZ.out; omega, by have := HSZ.out; omega⟩
  rw [hV2]
  have z0 : V2.cell? ⟨w.heap.size, 0, none⟩ = some (.int .i64 7) := by rw [← HKD.out]; exact (cmC HAB.out.c).1
  clear hV2 f2 HBC1 HBR1 HBP1 y0 y1 z2 z3 z4 z5 z6
  go_wp2_with fail
  have HS5 : Hid (∀ w', Fresh V2 w' → w'.cell? ⟨w.heap.size, 3, none⟩ = some (.int .i64 c.cl) ∧ w'.cell? ⟨V0.heap.size, 0, none⟩ = some (.pointer (some ⟨x.M.f, 0, none⟩))) := zh fun w' F => ⟨(cmC (HAB.out.fresh F).c).2.2.2.1, (HAB.out.fresh F).pl.cell 0⟩
  have HLF : Hid (∀ w', Fresh V2 w' → Calls Tryz.prog 24 #[.pointer (some ⟨x.M.f, 0, none⟩)] w' fun e w'' => PLeftPost w' x.M.ls.length e w'') := zh fun w' F => pLeft_any w' B x.M ((HH.out.pl _ x HX.out).1.f.fresh (HF2.out.trans F))
  by_cases hcl : c.cl < (x.M.ls.length : Int)
  rotate_left 1
  · refine wp_region_held_drew (S := fun w' => w'.cell? ⟨w.heap.size, 3, none⟩ = some (.int .i64 c.cl) ∧ w'.cell? ⟨V0.heap.size, 0, none⟩ = some (.pointer (some ⟨x.M.f, 0, none⟩))) (by kernel_rfl) (HS5.out _ (Frm.refl _ _).drew) (fun hHeld => ?_)
    iterate 4 ((first | refine ztn (v := ?_) (zo rfl) ?_ | refine ztz (v := ?_) (zo rfl) ?_); try simp only [Act.put, zT, zZ, zS])
    refine zr1 4 (zo rfl) (fun K hK => ?_)
    go_simp
    refine (HLF.out V2.drew (Frm.refl _ _).drew).mono ?_
    rintro e w4 ⟨v4, zs, rfl, hzl, s4, f4⟩
    obtain ⟨A4, c4, rfl, _, _, _⟩ := s4.shape
    have HF4 : Hid (Fresh V2 w4) := zh ((Frm.refl (fun _ => False) V2).drew.trans f4)
    clear s4 f4
    have hcl' := hcl
    rw [← hzl] at hcl'
    clear hzl hcl
    have d5 : decide (c.cl < (zs.length : Int)) = false := decide_eq_false hcl'
    refine hK.out _ _ (HS5.out _ HF4.out) (fun hHeld => ?_)
    clear hK K
    try simp only [Act.put, zT, zZ, zS]
    iterate 2 (refine ztn (v := ?_) (zo rfl) ?_; try simp only [Act.put, zT, zZ, zS])
    refine zr1 7 (zo rfl) (fun K hK => ?_)
    go_simp
    refine (need_no 1 _).mono ?_
    rintro e w3 ⟨rfl, hw3⟩
    replace hw3 := hw3.symm
    subst hw3
    exact ⟨rfl, ActPost.no HH.out HW.out (HF2.out.trans HF4.out) 1⟩
  refine wp_region_held_drew (S := fun w' => w'.cell? ⟨w.heap.size, 3, none⟩ = some (.int .i64 c.cl) ∧ w'.cell? ⟨V0.heap.size, 0, none⟩ = some (.pointer (some ⟨x.M.f, 0, none⟩))) (by kernel_rfl) (HS5.out _ (Frm.refl _ _).drew) (fun hHeld => ?_)
  iterate 4 ((first | refine ztn (v := ?_) (zo rfl) ?_ | refine ztz (v := ?_) (zo rfl) ?_); try simp only [Act.put, zT, zZ, zS])
  refine zr1 4 (zo rfl) (fun K hK => ?_)
  go_simp
  refine (HLF.out V2.drew (Frm.refl _ _).drew).mono ?_
  rintro e w4 ⟨v4, zs, rfl, hzl, s4, f4⟩
  obtain ⟨A4, c4, rfl, _, _, _⟩ := s4.shape
  have HF4 : Hid (Fresh V2 w4) := zh ((Frm.refl (fun _ => False) V2).drew.trans f4)
  clear s4 f4
  have hcl' := hcl
  rw [← hzl] at hcl'
  clear hzl hcl
  have d5 : decide (c.cl < (zs.length : Int)) = true := decide_eq_true hcl'
  refine hK.out _ _ (HS5.out _ HF4.out) (fun hHeld => ?_)
  clear hK K
  try simp only [Act.put, zT, zZ, zS]
  iterate 2 (refine ztn (v := ?_) (zo rfl) ?_; try simp only [Act.put, zT, zZ, zS])
  refine zr1 7 (zo rfl) (fun K hK => ?_)
  go_simp
  refine (need_yes 1 _).mono ?_
  rintro e w3 ⟨rfl, hw3⟩
  replace hw3 := hw3.symm
  subst hw3
  refine hK.out _ _ (HS5.out _ HF4.out) (fun hHeld => ?_)
  clear hK K
  try simp only [Act.put, zT, zZ, zS]
  refine wpAnyH_done (by kernel_rfl) ?_ _
  have hab4 := (HAB.out.fresh HF4.out)
  have hw4 := hab4.wait (.int .i64 3) (.int .i64 0)
  obtain ⟨V3, hV3⟩ : ∃ V3, (w4.setCell ⟨V1.heap.size, 4, none⟩ (.int .i64 3)).setCell ⟨V1.heap.size, 5, none⟩ (.int .i64 0) = V3 := ⟨_, rfl⟩
  rw [hV3] at hw4
  have HAB3 := zh hw4.1
  have HF3 : Hid (Fresh w V3) := zh ((HF2.out.trans HF4.out).trans' hw4.2 (fun j hj e => by have := HSZ.out; omega))
  have g4 : w4.cell? ⟨V1.heap.size, 4, none⟩ = some (.int .i64 1) := hab4.y.cell 4
  have g5 : w4.cell? ⟨V1.heap.size, 5, none⟩ = some (.int .i64 c.tm) := hab4.y.cell 5
  have g6 : w4.frozen? ⟨V1.heap.size, 4, none⟩ = false := hab4.y.frozen _
  have g7 : w4.frozen? ⟨V1.heap.size, 5, none⟩ = false := hab4.y.frozen _
  clear hab4 hw4 HAB HF2 HLF HS5 z0
  go_upto_region 7 with fail
  try rw [hV3]
  clear hV3 g4 g5 g6 g7
  obtain ⟨ks, _, _, _, hlen⟩ := (HH.out.fresh HF3.out).bmv.len HH.out.kbK (t := 43) Tryz.underlying43
  have q3 : V3.cell? ⟨b.b, 3, none⟩ = some (.map (some b.bm)) := (HH.out.fresh HF3.out).blk.cell 3
  have q1 : V3.cell? ⟨b.b, 1, none⟩ = some (.int .i64 b.nx) := (HH.out.fresh HF3.out).blk.cell 1
  have z0 : V3.cell? ⟨w.heap.size, 0, none⟩ = some (.int .i64 7) := by rw [← HKD.out]; exact (cmC HAB3.out.c).1
  by_cases hl3 : ks.length < 300
  rotate_left 1
  · have d7 : decide ((ks.length : Int) < 300) = false := decide_eq_false (by omega)
    go_wp2_with fail
    refine (need_no 3 _).mono ?_
    rintro e w3 ⟨rfl, hw3⟩
    replace hw3 := hw3.symm
    subst hw3
    exact ⟨rfl, ActPost.no HH.out HW.out HF3.out 3⟩
  have d7 : decide ((ks.length : Int) < 300) = true := decide_eq_true (by omega)
  by_cases hn3 : b.nx < 28629151
  rotate_left 1
  · have d8 : decide (b.nx < 28629151) = false := decide_eq_false hn3
    go_wp2_with fail
    refine (need_no 3 _).mono ?_
    rintro e w3 ⟨rfl, hw3⟩
    replace hw3 := hw3.symm
    subst hw3
    exact ⟨rfl, ActPost.no HH.out HW.out HF3.out 3⟩
  have d8 : decide (b.nx < 28629151) = true := decide_eq_true hn3
  have HN3 := zh hn3
  go_wp2_with fail
  refine (need_yes 3 _).mono ?_
  rintro e w3 ⟨rfl, hw3⟩
  replace hw3 := hw3.symm
  subst hw3
  clear hlen d7 d8 hl3 hn3 q3 q1
  go_wp2_with fail
  have HS10 : Hid (∀ w', AskB w' w.heap.size c GA gc PA pc V0.heap.size x.M.f x.q V1.heap.size #[.int .i64 b.nx, .int .i64 c.fl, .int .i64 c.cl, .int .i64 c.mn, .int .i64 3, .int .i64 0] → Blk w' b.b 45 #[.int .i64 b.tm, .int .i64 b.nx, .map (some b.fm), .map (some b.bm)] → w'.cell? ⟨V0.heap.size, 1, none⟩ = some (.pointer (some ⟨x.q, 0, none⟩)) ∧ w'.cell? ⟨V1.heap.size, 0, none⟩ = some (.int .i64 b.nx) ∧ w'.cell? ⟨V1.heap.size, 2, none⟩ = some (.int .i64 c.cl) ∧ w'.cell? ⟨V1.heap.size, 3, none⟩ = some (.int .i64 c.mn) ∧ w'.cell? ⟨b.b, 0, none⟩ = some (.int .i64 b.tm) ∧ w'.cell? ⟨w.heap.size, 6, none⟩ = some (.float .f64 c.sc)) := zh fun w' h k => ⟨h.pl.cell 1, h.y.cell 0, h.y.cell 2, h.y.cell 3, k.cell 0, (cmC h.c).2.2.2.2.2.2.1⟩
  have HBK3 : Hid (BookP V3.drew B b) := zh (HH.out.fresh HF3.out.drew)
  have HAD : Hid (Calls Tryz.prog 27 #[.pointer (some ⟨x.q, 0, none⟩), .agg #[.int .i64 b.nx, .int .i64 c.cl, .int .i64 c.mn, .int .i64 b.tm, .float .f64 c.sc]] V3.drew fun e w' => AddPost V3.drew B x.q x.v ⟨b.nx, c.cl, c.mn, b.tm, c.sc⟩ x.ws e w') := zh (add_any V3.drew B x.q x.v x.ws ⟨b.nx, c.cl, c.mn, b.tm, c.sc⟩ (HBK3.out.pl _ x HX.out).1.q (HBK3.out.pl _ x HX.out).1.g)
  have HGD : Hid (QueueM.Good (QueueM.add ⟨b.nx, c.cl, c.mn, b.tm, c.sc⟩ x.ws).2) := zh (QueueM.Good.add (HBK3.out.pl _ x HX.out).1.g _)
  have HWD : Hid (Words (QueueM.add ⟨b.nx, c.cl, c.mn, b.tm, c.sc⟩ x.ws).2) := zh (add_words (HBK3.out.pl _ x HX.out).1.wd HL.out.sc)
  refine wp_region_held_drew (S := fun w' => w'.cell? ⟨V0.heap.size, 1, none⟩ = some (.pointer (some ⟨x.q, 0, none⟩)) ∧ w'.cell? ⟨V1.heap.size, 0, none⟩ = some (.int .i64 b.nx) ∧ w'.cell? ⟨V1.heap.size, 2, none⟩ = some (.int .i64 c.cl) ∧ w'.cell? ⟨V1.heap.size, 3, none⟩ = some (.int .i64 c.mn) ∧ w'.cell? ⟨b.b, 0, none⟩ = some (.int .i64 b.tm) ∧ w'.cell? ⟨w.heap.size, 6, none⟩ = some (.float .f64 c.sc)) (by kernel_rfl) (HS10.out _ (HAB3.out.fresh (Frm.refl _ _).drew) HBK3.out.blk) (fun hHeld => ?_)
  iterate 21 ((first | refine ztn (v := ?_) (zo rfl) ?_ | refine ztz (v := ?_) (zo rfl) ?_); try simp only [Act.put, zT, zZ, zS])
  refine zr1 21 (zo rfl) (fun K hK => ?_)
  go_simp
  refine (HAD.out).mono ?_
  rintro e w6 ⟨rfl, hs6⟩
  obtain ⟨x6, e61, e62, e63, st6⟩ := BStep.queue HBK3.out HX.out hs6 HGD.out HWD.out
  have HST6 : Hid (BStep w B b w6 { b with P := updP b.P c.fl (some x6) }) := zh ((BStep.refl HH.out HF3.out.drew).trans st6)
  have HE6 : Hid (x6.ws = (QueueM.add ⟨b.nx, c.cl, c.mn, b.tm, c.sc⟩ x.ws).2) := zh e61
  have HAB6 : Hid (AskB w6 w.heap.size c GA gc PA pc V0.heap.size x.M.f x.q V1.heap.size #[.int .i64 b.nx, .int .i64 c.fl, .int .i64 c.cl, .int .i64 c.mn, .int .i64 3, .int .i64 0]) := zh ((HAB3.out.fresh (Frm.refl _ _).drew).frm st6.fr (fun j hj e => by have := HH.out.own_lt e; omega))
  clear hs6 e61 e62 e63 st6
  obtain ⟨k6, hk6'⟩ : ∃ k6, (QueueM.add ⟨b.nx, c.cl, c.mn, b.tm, c.sc⟩ x.ws).1 = k6 := ⟨_, rfl⟩
  rw [hk6']
  have HK6 := zh hk6'
  clear hk6'
  refine hK.out _ _ (HS10.out _ HAB6.out HST6.out.bk.blk) (fun hHeld => ?_)
  clear hK K
  try simp only [Act.put, zT, zZ, zS]
  refine zr1 22 (zo rfl) (fun K hK => ?_)
  by_cases hk6 : k6 = 0
  rotate_left 1
  · go_simp
    refine (must_no k6 hk6 _).mono ?_
    rintro e w3 ⟨rfl, hw3⟩
    replace hw3 := hw3.symm
    subst hw3
    exact ⟨rfl, ActPost.pan HST6.out (BoM.wt_P HW.out HX.out (HE6.out.trans (add_same (by rw [HK6.out]; exact hk6)))) (fun f => f.elim) k6⟩
  subst hk6
  go_simp
  refine (must_yes _).mono ?_
  rintro e w3 ⟨rfl, hw3⟩
  replace hw3 := hw3.symm
  subst hw3
  refine hK.out _ _ (HS10.out _ HAB6.out HST6.out.bk.blk) (fun hHeld => ?_)
  clear hK K
  try simp only [Act.put, zT, zZ, zS]
  refine wpAnyH_done (by kernel_rfl) ?_ _
  clear HS10 HBK3 HAD HGD HWD HAB3 HF3 z0
  go_wp2_with fail
  have HNX : Hid (wf64 b.nx) := zh (by have := HH.out.nw; exact ⟨by omega, by omega⟩)
  have HS11 : Hid ((w6.drew.cell? ⟨b.b, 3, none⟩ = some (.map (some b.bm)) ∧ w6.drew.cell? ⟨V1.heap.size, 0, none⟩ = some (.int .i64 b.nx)) ∧ ∀ w7, Frm (fun j => j = b.bm) w6.drew w7 → w7.cell? ⟨b.b, 3, none⟩ = some (.map (some b.bm)) ∧ w7.cell? ⟨V1.heap.size, 0, none⟩ = some (.int .i64 b.nx)) := zh (by
    have hbk := (HST6.out.bk.fresh (Frm.refl (fun _ => False) w6).drew)
    have hy := (HAB6.out.fresh (Frm.refl (fun _ => False) w6).drew).y
    refine ⟨⟨hbk.blk.cell 3, hy.cell 0⟩, fun w7 F => ⟨(hbk.blk.frm F (fun e => hbk.bmv.not_cells hbk.blk e.symm)).cell 3, (hy.frm F (fun e => hbk.bmv.not_cells hy e.symm)).cell 0⟩⟩)
  refine wp_region_held_drew (S := fun w' => w'.cell? ⟨b.b, 3, none⟩ = some (.map (some b.bm)) ∧ w'.cell? ⟨V1.heap.size, 0, none⟩ = some (.int .i64 b.nx)) (by kernel_rfl) (HS11.out.1) (fun hHeld => ?_)
  iterate 9 ((first | refine ztn (v := ?_) (zo rfl) ?_ | refine ztz (v := ?_) (zo rfl) ?_); try simp only [Act.put, zT, zZ, zS])
  refine zr1 9 (zo rfl) (fun K hK => ?_)
  rw [if_pos (by rfl)]
  refine wp_putV _ _ _ _ rfl Tryz.underlying43 b.bm b.kv rfl (HST6.out.bk.bmv.fresh (Frm.refl (fun _ => False) w6).drew) HH.out.kbK b.nx (.pointer (some ⟨V1.heap.size, 0, none⟩)) rfl rfl HNX.out (fun w7 hm7 f7 => ?_)
  have HM7 := zh hm7
  have HF7 := zh f7
  clear hm7 f7
  refine hK.out _ _ (HS11.out.2 w7 HF7.out) (fun hHeld => ?_)
  clear hK K
  try simp only [Act.put, zT, zZ, zS]
  refine wpAnyH_done (by kernel_rfl) ?_ _
  have HAB7 : Hid (AskB w7 w.heap.size c GA gc PA pc V0.heap.size x.M.f x.q V1.heap.size #[.int .i64 b.nx, .int .i64 c.fl, .int .i64 c.cl, .int .i64 c.mn, .int .i64 3, .int .i64 0]) := zh ((HAB6.out.fresh (Frm.refl (fun _ => False) w6).drew).frm HF7.out (fun j hj e => by have := HH.out.bmv.lt; omega))
  have HST8 : Hid (BStep w B b (w7.setCell ⟨b.b, 1, none⟩ (.int .i64 (b.nx + 1))) { b with P := updP b.P c.fl (some x6), K := updP b.K b.nx (some (⟨V1.heap.size, b.nx, c.fl, c.cl, c.mn, 3, 0⟩ : BkM)), nx := b.nx + 1 }) := zh
    ((HST6.out.fresh (Frm.refl (fun _ => False) w6).drew).addKN (⟨V1.heap.size, b.nx, c.fl, c.cl, c.mn, 3, 0⟩ : BkM) ⟨HAB7.out.y, by have := HSZ.out; dsimp only; omega, rfl, HH.out.nw.1, HFLW.out.1, HFLW.out.2.1, HFLW.out.2.2, ⟨by show (-9223372036854775808 : Int) ≤ 3; decide, by show (3 : Int) ≤ 9223372036854775807; decide⟩, ⟨by show (-9223372036854775808 : Int) ≤ 0; decide, by show (0 : Int) ≤ 9223372036854775807; decide⟩⟩ (by have := HSZ.out; dsimp only; omega) (fun i z hz e => by
      have h1 := (HH.out.bo i z hz).1.blk.lt
      have := HSZ.out
      dsimp only at e
      omega) ⟨x6, updP_same _ _ _⟩ HN3.out HM7.out HF7.out)
  have q1 : w7.cell? ⟨b.b, 1, none⟩ = some (.int .i64 b.nx) := by
    have hbk := (HST6.out.bk.fresh (Frm.refl (fun _ => False) w6).drew)
    exact (hbk.blk.frm HF7.out (fun e => hbk.bmv.not_cells hbk.blk e.symm)).cell 1
  have q2 : w7.frozen? ⟨b.b, 1, none⟩ = false := by
    have hbk := (HST6.out.bk.fresh (Frm.refl (fun _ => False) w6).drew)
    exact (hbk.blk.frm HF7.out (fun e => hbk.bmv.not_cells hbk.blk e.symm)).frozen _
  have HBR8 : Hid (Blk (w7.setCell ⟨b.b, 1, none⟩ (.int .i64 (b.nx + 1))) (w.heap.size + 1) 29 (replyC 0)) := zh (HAB7.out.r.frm ((Frm.refl (fun j => j = b.b) w7).setCell (p := ⟨b.b, 1, none⟩) (fun _ => rfl) _) (fun e => by have := HH.out.blk.lt; omega))
  have HBC8 : Hid (Blk (w7.setCell ⟨b.b, 1, none⟩ (.int .i64 (b.nx + 1))) w.heap.size 36 (cmcel c GA gc PA pc).toArray) := zh (HAB7.out.c.frm ((Frm.refl (fun j => j = b.b) w7).setCell (p := ⟨b.b, 1, none⟩) (fun _ => rfl) _) (fun e => by have := HH.out.blk.lt; omega))
  have hnw : b.nx + 1 ≤ 28629151 ∧ 1 ≤ b.nx := ⟨by have := HN3.out; omega, HH.out.nw.1⟩
  obtain ⟨V8, hV8⟩ : ∃ V8, w7.setCell ⟨b.b, 1, none⟩ (.int .i64 (b.nx + 1)) = V8 := ⟨_, rfl⟩
  rw [hV8] at HST8 HBR8 HBC8
  obtain ⟨b8, hb8⟩ : ∃ b8 : BoM, b8 = { b with P := updP b.P c.fl (some x6), K := updP b.K b.nx (some (⟨V1.heap.size, b.nx, c.fl, c.cl, c.mn, 3, 0⟩ : BkM)), nx := b.nx + 1 } := ⟨_, rfl⟩
  rw [← hb8] at HST8
  have HB8 := zh hb8
  have e8 : b8.b = b.b := by rw [hb8]
  have HK8 : Hid (b8.K b.nx = some (⟨V1.heap.size, b.nx, c.fl, c.cl, c.mn, 3, 0⟩ : BkM)) := zh (by rw [hb8]; exact updP_same _ _ _)
  have HP8 : Hid (b8.P c.fl = some x6) := zh (by rw [hb8]; exact updP_same _ _ _)
  have HWT8 : Hid b8.wt := zh (by rw [hb8]; exact BoM.wt_wait HW.out HX.out HH.out.nK (fun v hv => by rw [HE6.out] at hv; exact (mem_add hv).imp id (fun e => by rw [e])) _ rfl rfl)
  clear hb8 HS11 HM7
  obtain ⟨z0, _, z2, _⟩ := cmC HBC8.out
  rw [HKD.out] at z0
  go_upto_region 13 with fail
  try rw [hV8]
  clear hV8 q1 q2 HAB7 HF7 HAB6 hnw
  go_wp2_with fail
  have HPR : Hid (Calls Tryz.prog 28 #[.pointer (some ⟨b.b, 0, none⟩), .int .i64 c.fl] V8 fun e w' => e = .returned (.tuple #[]) ∧ PromPost V8 B b8 c.fl x6 w') := zh (by rw [← e8]; exact promote_any V8 B (Nat.le_trans hB HST8.out.fr.size) b8 HST8.out.bk HWT8.out c.fl x6 HP8.out)
  refine HPR.out.mono ?_
  rintro e w9 ⟨rfl, b9, x9, st9, wt9, p9, fair9, ot9, tm9, nx9, k9⟩
  have HBR9 := zh (HBR8.out.frm st9.fr (HST8.out.bk.not_own HBR8.out (by decide) (by decide)))
  have HST9 := zh (HST8.out.trans st9)
  have HWT9 := zh wt9
  have e9 : b9.b = b.b := st9.e1.trans e8
  have hk9 := k9 b.nx
  rw [HK8.out, Option.map_some] at hk9
  obtain ⟨y9, hy9, hp9⟩ := Option.map_eq_some_iff.1 hk9
  have HTO : Hid (Calls Tryz.prog 29 #[.pointer (some ⟨b.b, 0, none⟩), .pointer (some ⟨V1.heap.size, 0, none⟩)] w9 fun e w' => RepPost w9 e w') := zh (by
    rw [← e9]
    have := told_any w9 B b9 HST9.out.bk b.nx y9 hy9
    rw [hp9] at this
    exact this)
  have HFAIR9 : Hid (False → FairB b b9) := zh (fun f => f.elim)
  clear st9 wt9 p9 fair9 ot9 tm9 nx9 k9 e9 e8 hk9 hy9 hp9 HPR
  go_wp2_with fail
  refine HTO.out.mono ?_
  rintro e w10 ⟨zs, hz, rfl, f10⟩
  have HBRn := zh (HBR9.out.frm f10 (fun f => f))
  have HSTn := zh (HST9.out.fresh f10)
  clear f10 HTO HBR9 HST9
  have HBR9 := HBRn
  have HST9 := HSTn
  clear HBRn HSTn
  have HRZ := zh hz
  have HTHR : Hid (w10.there (w.heap.size + 1) 0 zs.toArray.size) := zh (HBR9.out.there (by have := hz.len; show _ = 9; simpa using this))
  have HINF := zh hz.info
  have HONE := zh hz.one
  clear hz
  go_wp2_with (refine wpList_store_mid rfl 29 (.tmp 4) (.tmp 131) rfl (w.heap.size + 1) 0 zs.toArray rfl rfl HTHR.out HINF.out HONE.out ?_)
  exact rep_done rfl rfl (blk_setAll HBR9.out (vs := zs) (by rw [HRZ.out.len]; rfl)) HRZ.out (ActPost.yes (HST9.out.box HBR9.out (by omega) (by decide) (by decide) (frm_setCells _ _ 0 _)) HWT9.out HFAIR9.out HRZ.out)
end
section
open Go.RowKit
open QueueM (Wt)
section
variable {w w' w2 : World} {B : Nat} {b b' : BoM}
theorem BStep.delK (h : BStep w B b w' b') (i : Int) (hm : MapV w2 b'.bm (upd b'.kv i none)) (F : Frm (fun j => j = b'.bm) w' w2) : BStep w B b w2 { b' with K := updP b'.K i none } := by
  refine ⟨h.bk.delK i hm F, h.e1, h.e2, h.e3, h.fr.trans' F (fun j hj e => ?_), fun j hj => ?_⟩
  · rcases h.ow j (.inr (.inr (.inl e))) with h3 | h3
    · exact h3
    · omega
  · rcases hj with e | e | e | e | ⟨k, z, hz, e⟩
    · exact h.ow j (.inl e)
    · exact h.ow j (.inr (.inl e))
    · exact h.ow j (.inr (.inr (.inl e)))
    · exact h.ow j (.inr (.inr (.inr (.inl e))))
    · dsimp only at hz
      by_cases ek : k = i
      · subst ek
        rw [updP_same] at hz
        cases hz
      · rw [updP_other _ _ ek] at hz
        exact h.ow j (.inr (.inr (.inr (.inr ⟨k, z, hz, e⟩))))
theorem BStep.confirm (h : BookP w B b) {i : Int} {y : BkM} (hy : b.K i = some y) : BStep w B b ((w.setCell ⟨y.p, 4, none⟩ (.int .i64 2)).setCell ⟨y.p, 5, none⟩ (.int .i64 0)) { b with K := updP b.K i (some { y with st := 2, un := 0 }) } := by
  have hb := (h.bo i y hy).1
  have F : Frm (fun j => j = y.p) w ((w.setCell ⟨y.p, 4, none⟩ (.int .i64 2)).setCell ⟨y.p, 5, none⟩ (.int .i64 0)) := ((Frm.refl (fun j => j = y.p) w).setCell (p := ⟨y.p, 4, none⟩) (fun _ => rfl) _).setCell (p := ⟨y.p, 5, none⟩) (fun _ => rfl) _
  exact BStep.booking h hy F { y with st := 2, un := 0 } rfl rfl ⟨(hb.blk.set 4 _).set 5 _, hb.ge, hb.id, hb.kb, ⟨hb.wf.1, hb.wf.2.1, hb.wf.2.2.1, ⟨by show (-9223372036854775808 : Int) ≤ 2; decide, by show (2 : Int) ≤ 9223372036854775807; decide⟩, ⟨by show (-9223372036854775808 : Int) ≤ 0; decide, by show (0 : Int) ≤ 9223372036854775807; decide⟩⟩⟩
theorem BoM.wt_ne (hw : b.wt) {i : Int} {y : BkM} (hy : b.K i = some y) (hs : y.st ≠ 3) {j : Int} {z : PlM} (hz : b.P j = some z) {u : Wt} (hu : u ∈ z.ws) : u.id ≠ i := fun e => by
  obtain ⟨y', h1, _, h3⟩ := hw j z hz u hu
  rw [e, hy] at h1
  injection h1 with h1
  subst h1
  exact hs h3
theorem BoM.wt_confirm (hw : b.wt) {i : Int} {y y' : BkM} (hy : b.K i = some y) (hs : y.st ≠ 3) : ({ b with K := updP b.K i (some y') } : BoM).wt := by
  intro j z hz u hu
  obtain ⟨v, h1, h2, h3⟩ := hw j z hz u hu
  exact ⟨v, by dsimp only; rw [updP_other _ _ (BoM.wt_ne hw hy hs hz hu)]; exact h1, h2, h3⟩
theorem BoM.wt_del (hw : b.wt) {i : Int} {y : BkM} (hy : b.K i = some y) {x x' : PlM} (hx : b.P y.fl = some x) (hs : ∀ u ∈ x'.ws, u ∈ x.ws ∧ u.id ≠ i) : ({ b with P := updP b.P y.fl (some x'), K := updP b.K i none } : BoM).wt := by
  intro j z hz u hu
  dsimp only at hz ⊢
  have key : ∃ x0, b.P j = some x0 ∧ u ∈ x0.ws ∧ u.id ≠ i := by
    by_cases e : j = y.fl
    · subst e
      rw [updP_same] at hz
      injection hz with hz
      subst hz
      exact ⟨x, hx, hs u hu⟩
    · rw [updP_other _ _ e] at hz
      refine ⟨z, hz, hu, fun e2 => ?_⟩
      obtain ⟨v, h1, h2, _⟩ := hw j z hz u hu
      rw [e2, hy] at h1
      injection h1 with h1
      subst h1
      exact e h2.symm
  obtain ⟨x0, h0, hu0, hne⟩ := key
  obtain ⟨v, h1, h2, h3⟩ := hw j x0 h0 u hu0
  exact ⟨v, by rw [updP_other _ _ hne]; exact h1, h2, h3⟩
end
theorem mem_remove {i : Int} {l : List Wt} (hg : QueueM.Good l) {u : Wt} (h : u ∈ (QueueM.remove i l).2) : u ∈ l ∧ u.id ≠ i := by
  unfold QueueM.remove at h
  split at h
  · rename_i hh
    obtain ⟨v, hv, he⟩ := QueueM.has_iff.1 hh
    subst he
    refine ⟨(QueueM.del_sub _ _).subset h, fun e => ?_⟩
    have hn := hg.once
    obtain ⟨s, t, e2⟩ := List.append_of_mem hv
    have hs : ∀ y ∈ s, y.id ≠ v.id := fun y hy he => by
      rw [e2, List.map_append, List.map_cons] at hn
      exact (List.nodup_append.1 hn).2.2 y.id (List.mem_map.2 ⟨y, hy, rfl⟩) v.id (List.mem_cons_self ..) he
    rw [e2, QueueM.del_split s t v hs] at h
    rw [e2, List.map_append, List.map_cons] at hn
    rcases List.mem_append.1 h with h | h
    · exact hs u h e
    · exact (List.nodup_cons.1 (List.nodup_append.1 hn).2.1).1 (List.mem_map.2 ⟨u, h, e⟩)
  · rename_i hh
    exact ⟨h, fun e => hh (QueueM.has_iff.2 ⟨u, h, e⟩)⟩
theorem remove_words {i : Int} {l : List Wt} (h : Words l) : Words (QueueM.remove i l).2 := by
  unfold QueueM.remove
  split
  · exact fun v hv => h v ((QueueM.del_sub _ _).subset hv)
  · exact h
structure OneB (w : World) (n : Nat) (c : CmA) (GA : Option Addr) (gc : Nat) (PA : Option Addr) (pc : Nat) (gp f q : Nat) : Prop where
  c : Blk w n 36 (cmcel c GA gc PA pc).toArray
  r : Blk w (n + 1) 29 (replyC 0)
  pl : Blk w gp 75 #[.pointer (some ⟨f, 0, none⟩), .pointer (some ⟨q, 0, none⟩)]
theorem OneB.fresh {w w' : World} {n : Nat} {c : CmA} {GA : Option Addr} {gc : Nat} {PA : Option Addr} {pc : Nat} {gp f q : Nat} (h : OneB w n c GA gc PA pc gp f q) (F : Fresh w w') : OneB w' n c GA gc PA pc gp f q :=
  ⟨h.c.frm F (fun f => f), h.r.frm F (fun f => f), h.pl.frm F (fun f => f)⟩
theorem OneB.step {w w' : World} {n : Nat} {c : CmA} {GA : Option Addr} {gc : Nat} {PA : Option Addr} {pc : Nat} {gp f q : Nat} {B : Nat} {b : BoM} (h : OneB w n c GA gc PA pc gp f q) (hb : BookP w B b) (F : Frm b.own w w') : OneB w' n c GA gc PA pc gp f q :=
  ⟨h.c.frm F (hb.not_own h.c (by decide) (by decide)), h.r.frm F (hb.not_own h.r (by decide) (by decide)), h.pl.frm F (hb.not_own h.pl (by decide) (by decide))⟩
end
end Go.Proofs.YtbeaoddjomdlcaaGreatDoor

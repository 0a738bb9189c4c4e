/- Proved here, for the statement TopFairCardSaid: laws that its walk leans on. It holds with no condition. (Put together and shortened by a program out of many texts: To49, To50, To51.) -/
import Derived.Test.YtbeaoddjomdlcaaGreatDoorZ31
set_option linter.unusedVariables false
set_option linter.unusedSimpArgs false
set_option maxRecDepth 100000
set_option maxHeartbeats 64000000
namespace Go.Proofs.YtbeaoddjomdlcaaGreatDoor
section
open Go.RowKit
open QueueM (Wt)
theorem one4w_any (w : World) (B : Nat) (hB : B ≤ w.heap.size) (b : BoM) (h : BookP w B b) (hw : b.wt) (i : Int) (y : BkM) (hy : b.K i = some y) (c : CmA) (GA : Option Addr) (gc : Nat) (PA : Option Addr) (pc : Nat) (hL : CmAL w c GA gc PA pc) (ok : CmOk c) (hk : c.kind = 4) (hs : y.st = 3) :
    Calls Tryz.prog 15 #[.pointer (some ⟨b.b, 0, none⟩), .pointer (some ⟨y.p, 0, none⟩), .agg (cmcel c GA gc PA pc).toArray] w fun e w' => ActPost w B b False e w' := by
  obtain ⟨hb, hlt, x, hx⟩ := h.bo i y hy
  obtain ⟨cz, hcz⟩ : ∃ x, x = cmcel c GA gc PA pc := ⟨_, rfl⟩
  rw [← hcz]
  obtain ⟨W, hW⟩ : ∃ W, (w.alloc (.cells cz.toArray 36)).alloc (.cells (replyC 0) 29) = W := ⟨_, rfl⟩
  have HFW : Hid (Fresh w W) := zh (by rw [← hW]; exact ((Frm.refl _ w).alloc _).alloc _)
  have HBC : Hid (Blk W w.heap.size 36 (cmcel c GA gc PA pc).toArray) := zh (by rw [← hW, ← hcz]; exact (Blk.new _ _ _).alloc _)
  have HBR : Hid (Blk W (w.heap.size + 1) 29 (replyC 0)) := zh (by rw [← hW]; have := Blk.new (w.alloc (.cells cz.toArray 36)) 29 (replyC 0); rw [show (w.alloc (.cells cz.toArray 36)).heap.size = w.heap.size + 1 from Array.size_push _] at this; exact this)
  have HWS : Hid (W.heap.size = w.heap.size + 2) := zh (by rw [← hW]; exact (Array.size_push _).trans (congrArg (· + 1) (Array.size_push _)))
  have HS1 : Hid (∀ w', Fresh W w' → w'.cell? ⟨b.b, 2, none⟩ = some (.map (some b.fm)) ∧ w'.cell? ⟨y.p, 1, none⟩ = some (.int .i64 y.fl) ∧ (Instr.lookup 42 (.map (some b.fm)) (.int .i64 y.fl) false).run Tryz.prog w' = .ok (.agg #[.pointer (some ⟨x.M.f, 0, none⟩), .pointer (some ⟨x.q, 0, none⟩)]) w') := zh fun w' F => by
    have hq := h.fresh (HFW.out.trans F)
    have hl := hq.fmv.at' (t := 42) Tryz.underlying42 (z := .agg #[.pointer none, .pointer none]) (fun _ => by kernel_rfl) (k := y.fl) hb.wf.1
    rw [BoM.fv_some hx] at hl
    exact ⟨hq.blk.cell 2, (hq.bo i y hy).1.blk.cell 1, hl⟩
  have HID : Hid (y.id = i ∧ wf64 i ∧ wf64 y.fl) := zh ⟨hb.id, by have := hb.kb; have := h.nw; exact ⟨by omega, by omega⟩, hb.wf.1⟩
  have HH := zh h
  have HW := zh hw
  have HL := zh hL
  have HOK := zh ok
  have HKD := zh hk
  have HX := zh hx
  have HY := zh hy
  unfold replyC at hW
  clear h hw hL ok hcz hk hb hlt hx hy
  go_in
  go_upto_region 1 with fail
  try rw [hW]
  clear hW
  refine wp_region_held_drew (S := fun w' => w'.cell? ⟨b.b, 2, none⟩ = some (.map (some b.fm)) ∧ w'.cell? ⟨y.p, 1, none⟩ = some (.int .i64 y.fl) ∧ (Instr.lookup 42 (.map (some b.fm)) (.int .i64 y.fl) false).run Tryz.prog w' = .ok (.agg #[.pointer (some ⟨x.M.f, 0, none⟩), .pointer (some ⟨x.q, 0, none⟩)]) w') (by kernel_rfl) (HS1.out _ (Frm.refl (fun _ => False) W).drew) (fun hHeld => ?_)
  iterate 9 ((first | refine ztn (v := ?_) (zo rfl) ?_ | refine ztz (v := ?_) (zo rfl) ?_); try simp only [Act.put, zT, zZ, zS])
  refine zr1 9 (zo rfl) (fun K hK => ?_)
  go_simp
  have HB9 := zh (Blk.new W.drew 75 #[.pointer none, .pointer none])
  have HF9 : Hid (Fresh W (W.drew.alloc (.cells #[.pointer none, .pointer none] 75))) := zh (((Frm.refl (fun _ => False) W).drew).alloc _)
  refine hK.out _ _ (HS1.out _ HF9.out) (fun hHeld => ?_)
  clear hK K
  try simp only [Act.put, zT, zZ, zS]
  refine zr1 10 (zo rfl) (fun K hK => ?_)
  rw [if_pos (by rfl)]
  refine wp_store_mid _ _ _ rfl _ 0 #[.pointer (some ⟨x.M.f, 0, none⟩), .pointer (some ⟨x.q, 0, none⟩)] rfl rfl (HB9.out.there rfl) (by kernel_rfl) (by kernel_rfl) ?_
  have HB10 := zh (blk_setAll HB9.out (vs := [.pointer (some ⟨x.M.f, 0, none⟩), .pointer (some ⟨x.q, 0, none⟩)]) rfl)
  have HF10 := zh (HF9.out.trans' (frm_setCells W.heap.size [.pointer (some ⟨x.M.f, 0, none⟩), .pointer (some ⟨x.q, 0, none⟩)] 0 (W.drew.alloc (.cells #[.pointer none, .pointer none] 75))) (fun k hk e => by omega))
  refine hK.out _ _ (HS1.out _ HF10.out) (fun hHeld => ?_)
  clear hK K
  try simp only [Act.put, zT, zZ, zS]
  refine wpAnyH_done (by kernel_rfl) ?_ _
  obtain ⟨V, hV⟩ : ∃ V, (W.drew.alloc (.cells #[.pointer none, .pointer none] 75)).setCells W.heap.size 0 [.pointer (some ⟨x.M.f, 0, none⟩), .pointer (some ⟨x.q, 0, none⟩)] = V := ⟨_, rfl⟩
  have hf2 := HF10.out
  have hb2 := HB10.out
  rw [hV] at hf2
  rw [show W.drew.heap.size = W.heap.size from rfl, hV] at hb2
  have HF2 : Hid (Fresh w V) := zh (HFW.out.trans hf2)
  have HOB : Hid (OneB V w.heap.size c GA gc PA pc W.heap.size x.M.f x.q) := zh ⟨HBC.out.frm hf2 (fun f => f), HBR.out.frm hf2 (fun f => f), hb2⟩
  rw [show (W.alloc (.cells #[.pointer none, .pointer none] 75)).drew.setCells W.heap.size 0 [.pointer (some ⟨x.M.f, 0, none⟩), .pointer (some ⟨x.q, 0, none⟩)] = V from hV]
  clear HF9 HB9 HF10 HB10 hf2 hb2 HS1 HBC HBR hV
  have HBV : Hid (BookP V B b) := zh (HH.out.fresh HF2.out)
  have y4 : V.cell? ⟨y.p, 4, none⟩ = some (.int .i64 y.st) := (HBV.out.bo i y HY.out).1.blk.cell 4
  have z0 : V.cell? ⟨w.heap.size, 0, none⟩ = some (.int .i64 4) := by rw [← HKD.out]; exact (cmC HOB.out.c).1
  rw [hs] at y4
  clear hs
  have HBD : Hid (BookP V.drew B b) := zh (HBV.out.fresh (Frm.refl _ _).drew)
  have HSS : Hid (∀ w' (b' : BoM), OneB w' w.heap.size c GA gc PA pc W.heap.size x.M.f x.q → b'.K i = some y → BookP w' B b' → w'.cell? ⟨W.heap.size, 1, none⟩ = some (.pointer (some ⟨x.q, 0, none⟩)) ∧ w'.cell? ⟨y.p, 0, none⟩ = some (.int .i64 i)) := zh fun w' b' h hk hb => ⟨h.pl.cell 1, by have := (hb.bo i y hk).1.blk.cell 0; rw [← HID.out.1]; exact this⟩
  have HSE : Hid (Calls Tryz.prog 35 #[.pointer (some ⟨x.q, 0, none⟩), .int .i64 i] V.drew fun e w' => RemovePost V.drew B x.q x.v i x.ws e w') := zh (remove_any V.drew B x.q x.v x.ws i (HBD.out.pl _ x HX.out).1.q (by have := (HBD.out.pl _ x HX.out).1.g.few; omega))
  have HGD : Hid (QueueM.Good (QueueM.remove i x.ws).2) := zh (QueueM.Good.remove (HBD.out.pl _ x HX.out).1.g i)
  have HWD : Hid (Words (QueueM.remove i x.ws).2) := zh (remove_words (HBD.out.pl _ x HX.out).1.wd)
  go_upto_region 9 with fail
  refine wp_region_held_drew (S := fun w' => w'.cell? ⟨W.heap.size, 1, none⟩ = some (.pointer (some ⟨x.q, 0, none⟩)) ∧ w'.cell? ⟨y.p, 0, none⟩ = some (.int .i64 i)) (by kernel_rfl) (HSS.out _ _ (HOB.out.fresh (Frm.refl _ _).drew) HY.out HBD.out) (fun hHeld => ?_)
  iterate 6 ((first | refine ztn (v := ?_) (zo rfl) ?_ | refine ztz (v := ?_) (zo rfl) ?_); try simp only [Act.put, zT, zZ, zS])
  refine zr1 6 (zo rfl) (fun K hK => ?_)
  go_simp
  refine (HSE.out).mono ?_
  rintro e w6 ⟨rfl, hs6⟩
  obtain ⟨x6, e61, e62, e63, st6⟩ := BStep.queue HBD.out HX.out hs6 HGD.out HWD.out
  have HST6 : Hid (BStep w B b w6 { b with P := updP b.P y.fl (some x6) }) := zh ((BStep.refl HH.out HF2.out.drew).trans st6)
  have HE6 : Hid (∀ u ∈ x6.ws, u ∈ x.ws ∧ u.id ≠ i) := zh (fun u hu => by rw [e61] at hu; exact mem_remove (HBD.out.pl _ x HX.out).1.g hu)
  have HOB6 : Hid (OneB w6 w.heap.size c GA gc PA pc W.heap.size x.M.f x.q) := zh ((HOB.out.fresh (Frm.refl _ _).drew).step HBD.out st6.fr)
  clear hs6 e61 e62 e63 st6
  refine hK.out _ _ (HSS.out _ { b with P := updP b.P y.fl (some x6) } HOB6.out HY.out HST6.out.bk) (fun hHeld => ?_)
  clear hK K
  try simp only [Act.put, zT, zZ, zS]
  refine wpAnyH_done (by kernel_rfl) ?_ _
  clear HGD HWD
  clear HBD HSS HSE HOB y4 z0
  go_upto_region 11 with fail
  have HS11 : Hid ((w6.drew.cell? ⟨b.b, 3, none⟩ = some (.map (some b.bm)) ∧ w6.drew.cell? ⟨y.p, 0, none⟩ = some (.int .i64 i)) ∧ ∀ w7, Frm (fun j => j = b.bm) w6.drew w7 → w7.cell? ⟨b.b, 3, none⟩ = some (.map (some b.bm)) ∧ w7.cell? ⟨y.p, 0, none⟩ = some (.int .i64 i)) := zh (by
    have hbk := (HST6.out.bk.fresh (Frm.refl (fun _ => False) w6).drew)
    have hy := (hbk.bo i y HY.out).1.blk
    have h0 : ∀ w', Blk w' y.p 84 y.cells → w'.cell? ⟨y.p, 0, none⟩ = some (.int .i64 i) := fun w' h => by have := h.cell 0; rw [← HID.out.1]; exact this
    refine ⟨⟨hbk.blk.cell 3, h0 _ hy⟩, fun w7 F => ⟨(hbk.blk.frm F (fun e => hbk.bmv.not_cells hbk.blk e.symm)).cell 3, h0 _ (hy.frm F (fun e => hbk.bmv.not_cells hy e.symm))⟩⟩)
  refine wp_region_held_drew (S := fun w' => w'.cell? ⟨b.b, 3, none⟩ = some (.map (some b.bm)) ∧ w'.cell? ⟨y.p, 0, none⟩ = some (.int .i64 i)) (by kernel_rfl) (HS11.out.1) (fun hHeld => ?_)
  iterate 8 ((first | refine ztn (v := ?_) (zo rfl) ?_ | refine ztz (v := ?_) (zo rfl) ?_); try simp only [Act.put, zT, zZ, zS])
  refine zr1 8 (zo rfl) (fun K hK => ?_)
  rw [if_pos (by rfl)]
  refine wp_delV _ _ _ rfl Tryz.underlying43 b.bm b.kv rfl (HST6.out.bk.bmv.fresh (Frm.refl (fun _ => False) w6).drew) i rfl HID.out.2.1 (fun w7 hm7 f7 => ?_)
  have HM7 := zh hm7
  have HF7 := zh f7
  clear hm7 f7
  refine hK.out _ _ (HS11.out.2 w7 HF7.out) (fun hHeld => ?_)
  clear hK K
  try simp only [Act.put, zT, zZ, zS]
  refine wpAnyH_done (by kernel_rfl) ?_ _
  have HOB7 : Hid (OneB w7 w.heap.size c GA gc PA pc W.heap.size x.M.f x.q) := zh ((HOB6.out.fresh (Frm.refl (fun _ => False) w6).drew).step (HST6.out.bk.fresh (Frm.refl (fun _ => False) w6).drew) (HF7.out.mono (fun j _ e => .inr (.inr (.inl e)))))
  have HST7 := zh ((HST6.out.fresh (Frm.refl (fun _ => False) w6).drew).delK i HM7.out HF7.out)
  have t1 : w7.cell? ⟨y.p, 1, none⟩ = some (.int .i64 y.fl) := by
    have hbk := (HST6.out.bk.fresh (Frm.refl (fun _ => False) w6).drew)
    have hy := (hbk.bo i y HY.out).1.blk
    exact (hy.frm HF7.out (fun e => hbk.bmv.not_cells hy e.symm)).cell 1
  have HWT7 : Hid (({ b with P := updP b.P y.fl (some x6), K := updP b.K i none } : BoM).wt) := zh (BoM.wt_del HW.out HY.out HX.out HE6.out)
  have HPR : Hid (Calls Tryz.prog 28 #[.pointer (some ⟨b.b, 0, none⟩), .int .i64 y.fl] w7 fun e w' => e = .returned (.tuple #[]) ∧ PromPost w7 B { b with P := updP b.P y.fl (some x6), K := updP b.K i none } y.fl x6 w') := zh (promote_any w7 B (Nat.le_trans hB HST7.out.fr.size) { b with P := updP b.P y.fl (some x6), K := updP b.K i none } HST7.out.bk HWT7.out y.fl x6 (updP_same _ _ _))
  clear HS11 HST6 HOB6 HM7
  go_wp2_with fail
  refine HPR.out.mono ?_
  rintro e w9 ⟨rfl, b9, x9, st9, wt9, _⟩
  have HOB9 := zh (HOB7.out.step HST7.out.bk st9.fr)
  have HST9 := zh (HST7.out.trans st9)
  have HWT9 := zh wt9
  have q1 : w9.cell? ⟨w.heap.size, 1, none⟩ = some (.string c.pnr) := (cmC HOB9.out.c).2.1
  obtain ⟨zs, hzs⟩ : ∃ zs : List Value, zs = [.int .i64 0, .string c.pnr, .int .i64 0, .int .i64 0, .int .i64 0, .int .i64 0, .int .i64 0, .slice none 0 0, .slice none 0 0] := ⟨_, rfl⟩
  have HRZ : Hid (RepZ zs) := zh (by rw [hzs]; exact ⟨rfl, by kernel_rfl⟩)
  have HZS := zh hzs
  have HTHR : Hid (w9.there (w.heap.size + 1) 0 zs.toArray.size) := zh (HOB9.out.r.there (by have := HRZ.out.len; show _ = 9; simpa using this))
  have HINF := zh HRZ.out.info
  have HONE := zh HRZ.out.one
  clear st9 wt9 HPR hzs
  go_wp2_with (refine wpList_store_mid rfl 29 (.tmp 6) (.tmp 74) rfl (w.heap.size + 1) 0 zs.toArray rfl (by rw [HZS.out]; rfl) HTHR.out HINF.out HONE.out ?_)
  exact rep_done rfl rfl (blk_setAll HOB9.out.r (vs := zs) (by rw [HRZ.out.len]; rfl)) HRZ.out (ActPost.yes (HST9.out.box HOB9.out.r (by omega) (by decide) (by decide) (frm_setCells _ _ 0 _)) HWT9.out (fun f => f.elim) HRZ.out)
theorem one4g_any (w : World) (B : Nat) (hB : B ≤ w.heap.size) (b : BoM) (h : BookP w B b) (hw : b.wt) (i : Int) (y : BkM) (hy : b.K i = some y) (c : CmA) (GA : Option Addr) (gc : Nat) (PA : Option Addr) (pc : Nat) (hL : CmAL w c GA gc PA pc) (ok : CmOk c) (hk : c.kind = 4) (hs : y.st ≠ 3) :
    Calls Tryz.prog 15 #[.pointer (some ⟨b.b, 0, none⟩), .pointer (some ⟨y.p, 0, none⟩), .agg (cmcel c GA gc PA pc).toArray] w fun e w' => ActPost w B b False e w' := by
  obtain ⟨hb, hlt, x, hx⟩ := h.bo i y hy
  obtain ⟨cz, hcz⟩ : ∃ x, x = cmcel c GA gc PA pc := ⟨_, rfl⟩
  rw [← hcz]
  obtain ⟨W, hW⟩ : ∃ W, (w.alloc (.cells cz.toArray 36)).alloc (.cells (replyC 0) 29) = W := ⟨_, rfl⟩
  have HFW : Hid (Fresh w W) := zh (by rw [← hW]; exact ((Frm.refl _ w).alloc _).alloc _)
  have HBC : Hid (Blk W w.heap.size 36 (cmcel c GA gc PA pc).toArray) := zh (by rw [← hW, ← hcz]; exact (Blk.new _ _ _).alloc _)
  have HBR : Hid (Blk W (w.heap.size + 1) 29 (replyC 0)) := zh (by rw [← hW]; have := Blk.new (w.alloc (.cells cz.toArray 36)) 29 (replyC 0); rw [show (w.alloc (.cells cz.toArray 36)).heap.size = w.heap.size + 1 from Array.size_push _] at this; exact this)
  have HWS : Hid (W.heap.size = w.heap.size + 2) := zh (by rw [← hW]; exact (Array.size_push _).trans (congrArg (· + 1) (Array.size_push _)))
  have HS1 : Hid (∀ w', Fresh W w' → w'.cell? ⟨b.b, 2, none⟩ = some (.map (some b.fm)) ∧ w'.cell? ⟨y.p, 1, none⟩ = some (.int .i64 y.fl) ∧ (Instr.lookup 42 (.map (some b.fm)) (.int .i64 y.fl) false).run Tryz.prog w' = .ok (.agg #[.pointer (some ⟨x.M.f, 0, none⟩), .pointer (some ⟨x.q, 0, none⟩)]) w') := zh fun w' F => by
    have hq := h.fresh (HFW.out.trans F)
    have hl := hq.fmv.at' (t := 42) Tryz.underlying42 (z := .agg #[.pointer none, .pointer none]) (fun _ => by kernel_rfl) (k := y.fl) hb.wf.1
    rw [BoM.fv_some hx] at hl
    exact ⟨hq.blk.cell 2, (hq.bo i y hy).1.blk.cell 1, hl⟩
  have HID : Hid (y.id = i ∧ wf64 i ∧ wf64 y.fl) := zh ⟨hb.id, by have := hb.kb; have := h.nw; exact ⟨by omega, by omega⟩, hb.wf.1⟩
  have HH := zh h
  have HW := zh hw
  have HL := zh hL
  have HOK := zh ok
  have HKD := zh hk
  have HX := zh hx
  have HY := zh hy
  unfold replyC at hW
  clear h hw hL ok hcz hk hb hlt hx hy
  go_in
  go_upto_region 1 with fail
  try rw [hW]
  clear hW
  refine wp_region_held_drew (S := fun w' => w'.cell? ⟨b.b, 2, none⟩ = some (.map (some b.fm)) ∧ w'.cell? ⟨y.p, 1, none⟩ = some (.int .i64 y.fl) ∧ (Instr.lookup 42 (.map (some b.fm)) (.int .i64 y.fl) false).run Tryz.prog w' = .ok (.agg #[.pointer (some ⟨x.M.f, 0, none⟩), .pointer (some ⟨x.q, 0, none⟩)]) w') (by kernel_rfl) (HS1.out _ (Frm.refl (fun _ => False) W).drew) (fun hHeld => ?_)
  iterate 9 ((first | refine ztn (v := ?_) (zo rfl) ?_ | refine ztz (v := ?_) (zo rfl) ?_); try simp only [Act.put, zT, zZ, zS])
  refine zr1 9 (zo rfl) (fun K hK => ?_)
  go_simp
  have HB9 := zh (Blk.new W.drew 75 #[.pointer none, .pointer none])
  have HF9 : Hid (Fresh W (W.drew.alloc (.cells #[.pointer none, .pointer none] 75))) := zh (((Frm.refl (fun _ => False) W).drew).alloc _)
  refine hK.out _ _ (HS1.out _ HF9.out) (fun hHeld => ?_)
  clear hK K
  try simp only [Act.put, zT, zZ, zS]
  refine zr1 10 (zo rfl) (fun K hK => ?_)
  rw [if_pos (by rfl)]
  refine wp_store_mid _ _ _ rfl _ 0 #[.pointer (some ⟨x.M.f, 0, none⟩), .pointer (some ⟨x.q, 0, none⟩)] rfl rfl (HB9.out.there rfl) (by kernel_rfl) (by kernel_rfl) ?_
  have HB10 := zh (blk_setAll HB9.out (vs := [.pointer (some ⟨x.M.f, 0, none⟩), .pointer (some ⟨x.q, 0, none⟩)]) rfl)
  have HF10 := zh (HF9.out.trans' (frm_setCells W.heap.size [.pointer (some ⟨x.M.f, 0, none⟩), .pointer (some ⟨x.q, 0, none⟩)] 0 (W.drew.alloc (.cells #[.pointer none, .pointer none] 75))) (fun k hk e => by omega))
  refine hK.out _ _ (HS1.out _ HF10.out) (fun hHeld => ?_)
  clear hK K
  try simp only [Act.put, zT, zZ, zS]
  refine wpAnyH_done (by kernel_rfl) ?_ _
  obtain ⟨V, hV⟩ : ∃ V, (W.drew.alloc (.cells #[.pointer none, .pointer none] 75)).setCells W.heap.size 0 [.pointer (some ⟨x.M.f, 0, none⟩), .pointer (some ⟨x.q, 0, none⟩)] = V := ⟨_, rfl⟩
  have hf2 := HF10.out
  have hb2 := HB10.out
  rw [hV] at hf2
  rw [show W.drew.heap.size = W.heap.size from rfl, hV] at hb2
  have HF2 : Hid (Fresh w V) := zh (HFW.out.trans hf2)
  have HOB : Hid (OneB V w.heap.size c GA gc PA pc W.heap.size x.M.f x.q) := zh ⟨HBC.out.frm hf2 (fun f => f), HBR.out.frm hf2 (fun f => f), hb2⟩
  rw [show (W.alloc (.cells #[.pointer none, .pointer none] 75)).drew.setCells W.heap.size 0 [.pointer (some ⟨x.M.f, 0, none⟩), .pointer (some ⟨x.q, 0, none⟩)] = V from hV]
  clear HF9 HB9 HF10 HB10 hf2 hb2 HS1 HBC HBR hV
  have HBV : Hid (BookP V B b) := zh (HH.out.fresh HF2.out)
  have y4 : V.cell? ⟨y.p, 4, none⟩ = some (.int .i64 y.st) := (HBV.out.bo i y HY.out).1.blk.cell 4
  have z0 : V.cell? ⟨w.heap.size, 0, none⟩ = some (.int .i64 4) := by rw [← HKD.out]; exact (cmC HOB.out.c).1
  have d1 : (y.st == 3) = false := by simpa using hs
  have d1' : decide (y.st = 3) = false := decide_eq_false hs
  have HS := zh hs
  clear hs
  have HBD : Hid (BookP V.drew B b) := zh (HBV.out.fresh (Frm.refl _ _).drew)
  have HSS : Hid (∀ w' (b' : BoM), OneB w' w.heap.size c GA gc PA pc W.heap.size x.M.f x.q → b'.K i = some y → BookP w' B b' → w'.cell? ⟨W.heap.size, 0, none⟩ = some (.pointer (some ⟨x.M.f, 0, none⟩)) ∧ w'.cell? ⟨y.p, 0, none⟩ = some (.int .i64 i)) := zh fun w' b' h hk hb => ⟨h.pl.cell 0, by have := (hb.bo i y hk).1.blk.cell 0; rw [← HID.out.1]; exact this⟩
  have HSE : Hid (Calls Tryz.prog 32 #[.pointer (some ⟨x.M.f, 0, none⟩), .int .i64 i] V.drew fun e w' => CodePost V.drew B x.M e w') := zh (give_any V.drew B (Nat.le_trans hB HF2.out.size) x.M (HBD.out.pl _ x HX.out).1.f i HID.out.2.1)
  go_upto_region 10 with fail
  refine wp_region_held_drew (S := fun w' => w'.cell? ⟨W.heap.size, 0, none⟩ = some (.pointer (some ⟨x.M.f, 0, none⟩)) ∧ w'.cell? ⟨y.p, 0, none⟩ = some (.int .i64 i)) (by kernel_rfl) (HSS.out _ _ (HOB.out.fresh (Frm.refl _ _).drew) HY.out HBD.out) (fun hHeld => ?_)
  iterate 6 ((first | refine ztn (v := ?_) (zo rfl) ?_ | refine ztz (v := ?_) (zo rfl) ?_); try simp only [Act.put, zT, zZ, zS])
  refine zr1 6 (zo rfl) (fun K hK => ?_)
  go_simp
  refine (HSE.out).mono ?_
  rintro e w6 ⟨k6, rfl, hs6⟩
  obtain ⟨x6, e61, e62, e63, st6⟩ := BStep.flight HBD.out HX.out hs6
  have HST6 : Hid (BStep w B b w6 { b with P := updP b.P y.fl (some x6) }) := zh ((BStep.refl HH.out HF2.out.drew).trans st6)
  have HE6 : Hid (∀ u ∈ x6.ws, u ∈ x.ws ∧ u.id ≠ i) := zh (fun u hu => by rw [e61] at hu; exact ⟨hu, BoM.wt_ne HW.out HY.out HS.out HX.out hu⟩)
  have HOB6 : Hid (OneB w6 w.heap.size c GA gc PA pc W.heap.size x.M.f x.q) := zh ((HOB.out.fresh (Frm.refl _ _).drew).step HBD.out st6.fr)
  clear hs6 e61 e62 e63 st6
  refine hK.out _ _ (HSS.out _ { b with P := updP b.P y.fl (some x6) } HOB6.out HY.out HST6.out.bk) (fun hHeld => ?_)
  clear hK K
  try simp only [Act.put, zT, zZ, zS]
  refine wpAnyH_done (by kernel_rfl) ?_ _
  clear HBD HSS HSE HOB y4 z0
  go_upto_region 11 with fail
  have HS11 : Hid ((w6.drew.cell? ⟨b.b, 3, none⟩ = some (.map (some b.bm)) ∧ w6.drew.cell? ⟨y.p, 0, none⟩ = some (.int .i64 i)) ∧ ∀ w7, Frm (fun j => j = b.bm) w6.drew w7 → w7.cell? ⟨b.b, 3, none⟩ = some (.map (some b.bm)) ∧ w7.cell? ⟨y.p, 0, none⟩ = some (.int .i64 i)) := zh (by
    have hbk := (HST6.out.bk.fresh (Frm.refl (fun _ => False) w6).drew)
    have hy := (hbk.bo i y HY.out).1.blk
    have h0 : ∀ w', Blk w' y.p 84 y.cells → w'.cell? ⟨y.p, 0, none⟩ = some (.int .i64 i) := fun w' h => by have := h.cell 0; rw [← HID.out.1]; exact this
    refine ⟨⟨hbk.blk.cell 3, h0 _ hy⟩, fun w7 F => ⟨(hbk.blk.frm F (fun e => hbk.bmv.not_cells hbk.blk e.symm)).cell 3, h0 _ (hy.frm F (fun e => hbk.bmv.not_cells hy e.symm))⟩⟩)
  refine wp_region_held_drew (S := fun w' => w'.cell? ⟨b.b, 3, none⟩ = some (.map (some b.bm)) ∧ w'.cell? ⟨y.p, 0, none⟩ = some (.int .i64 i)) (by kernel_rfl) (HS11.out.1) (fun hHeld => ?_)
  iterate 8 ((first | refine ztn (v := ?_) (zo rfl) ?_ | refine ztz (v := ?_) (zo rfl) ?_); try simp only [Act.put, zT, zZ, zS])
  refine zr1 8 (zo rfl) (fun K hK => ?_)
  rw [if_pos (by rfl)]
  refine wp_delV _ _ _ rfl Tryz.underlying43 b.bm b.kv rfl (HST6.out.bk.bmv.fresh (Frm.refl (fun _ => False) w6).drew) i rfl HID.out.2.1 (fun w7 hm7 f7 => ?_)
  have HM7 := zh hm7
  have HF7 := zh f7
  clear hm7 f7
  refine hK.out _ _ (HS11.out.2 w7 HF7.out) (fun hHeld => ?_)
  clear hK K
  try simp only [Act.put, zT, zZ, zS]
  refine wpAnyH_done (by kernel_rfl) ?_ _
  have HOB7 : Hid (OneB w7 w.heap.size c GA gc PA pc W.heap.size x.M.f x.q) := zh ((HOB6.out.fresh (Frm.refl (fun _ => False) w6).drew).step (HST6.out.bk.fresh (Frm.refl (fun _ => False) w6).drew) (HF7.out.mono (fun j _ e => .inr (.inr (.inl e)))))
  have HST7 := zh ((HST6.out.fresh (Frm.refl (fun _ => False) w6).drew).delK i HM7.out HF7.out)
  have t1 : w7.cell? ⟨y.p, 1, none⟩ = some (.int .i64 y.fl) := by
    have hbk := (HST6.out.bk.fresh (Frm.refl (fun _ => False) w6).drew)
    have hy := (hbk.bo i y HY.out).1.blk
    exact (hy.frm HF7.out (fun e => hbk.bmv.not_cells hy e.symm)).cell 1
  have HWT7 : Hid (({ b with P := updP b.P y.fl (some x6), K := updP b.K i none } : BoM).wt) := zh (BoM.wt_del HW.out HY.out HX.out HE6.out)
  have HPR : Hid (Calls Tryz.prog 28 #[.pointer (some ⟨b.b, 0, none⟩), .int .i64 y.fl] w7 fun e w' => e = .returned (.tuple #[]) ∧ PromPost w7 B { b with P := updP b.P y.fl (some x6), K := updP b.K i none } y.fl x6 w') := zh (promote_any w7 B (Nat.le_trans hB HST7.out.fr.size) { b with P := updP b.P y.fl (some x6), K := updP b.K i none } HST7.out.bk HWT7.out y.fl x6 (updP_same _ _ _))
  clear HS11 HST6 HOB6 HM7
  go_wp2_with fail
  refine HPR.out.mono ?_
  rintro e w9 ⟨rfl, b9, x9, st9, wt9, _⟩
  have HOB9 := zh (HOB7.out.step HST7.out.bk st9.fr)
  have HST9 := zh (HST7.out.trans st9)
  have HWT9 := zh wt9
  have q1 : w9.cell? ⟨w.heap.size, 1, none⟩ = some (.string c.pnr) := (cmC HOB9.out.c).2.1
  obtain ⟨zs, hzs⟩ : ∃ zs : List Value, zs = [.int .i64 0, .string c.pnr, .int .i64 0, .int .i64 0, .int .i64 0, .int .i64 0, .int .i64 0, .slice none 0 0, .slice none 0 0] := ⟨_, rfl⟩
  have HRZ : Hid (RepZ zs) := zh (by rw [hzs]; exact ⟨rfl, by kernel_rfl⟩)
  have HZS := zh hzs
  have HTHR : Hid (w9.there (w.heap.size + 1) 0 zs.toArray.size) := zh (HOB9.out.r.there (by have := HRZ.out.len; show _ = 9; simpa using this))
  have HINF := zh HRZ.out.info
  have HONE := zh HRZ.out.one
  clear st9 wt9 HPR hzs
  go_wp2_with (refine wpList_store_mid rfl 29 (.tmp 6) (.tmp 74) rfl (w.heap.size + 1) 0 zs.toArray rfl (by rw [HZS.out]; rfl) HTHR.out HINF.out HONE.out ?_)
  exact rep_done rfl rfl (blk_setAll HOB9.out.r (vs := zs) (by rw [HRZ.out.len]; rfl)) HRZ.out (ActPost.yes (HST9.out.box HOB9.out.r (by omega) (by decide) (by decide) (frm_setCells _ _ 0 _)) HWT9.out (fun f => f.elim) HRZ.out)
end
section
open Go.RowKit
open QueueM (Wt)
section
variable {w w' w2 : World} {B : Nat} {b b1 b2 b3 : BoM}
theorem BStep.setT (h : BookP w B b) {t : Int} (ht : 0 ≤ t ∧ t ≤ 1099511627776) : BStep w B b (w.setCell ⟨b.b, 0, none⟩ (.int .i64 t)) { b with tm := t } := by
  obtain ⟨h1, F⟩ := h.setT ht
  exact ⟨h1, rfl, rfl, rfl, F.mono (fun j _ e => .inl e), fun j hj => .inl hj⟩
theorem FairB.of_ws (h : ∀ k, (b.P k).map PlM.ws = (b1.P k).map PlM.ws) (h2 : FairB b1 b2) : FairB b b2 := by
  intro k
  have hk := h k
  have h3 := h2 k
  cases e1 : b.P k <;> cases e2 : b1.P k <;> rw [e1, e2] at hk
  · rw [e2] at h3; exact h3
  · cases hk
  · cases hk
  · injection hk with hk
    rw [e2] at h3
    cases e3 : b2.P k <;> rw [e3] at h3
    · exact h3
    · dsimp only at h3 ⊢
      rw [hk]
      exact h3
theorem FairB.refl (b : BoM) : FairB b b := FairB.same (fun _ => rfl)
theorem FairB.step {k : Int} {x x' : PlM} (h : FairB b1 b2) (hx : b1.P k = some x) (h3 : b3.P k = some x') (hf : QueueM.Fair x.ws x'.ws) (ho : ∀ j, j ≠ k → b3.P j = b2.P j) : FairB b1 b3 := by
  intro j
  by_cases e : j = k
  · subst e
    rw [hx, h3]
    exact hf
  · rw [ho j e]
    exact h j
theorem ws_P {k : Int} {x x' : PlM} (hx : b1.P k = some x) (hs : x'.ws = x.ws) (h : ∀ j, (b.P j).map PlM.ws = (b1.P j).map PlM.ws) (j : Int) : (b.P j).map PlM.ws = (updP b1.P k (some x') j).map PlM.ws := by
  by_cases e : j = k
  · subst e
    rw [updP_same, h j, hx, Option.map_some, Option.map_some, hs]
  · rw [updP_other _ _ e]
    exact h j
theorem drop_ne {l : List Int} (hp : l.Pairwise (· < ·)) {i : Nat} (hi : i < l.length) {j : Int} (hj : j ∈ l.drop (i + 1)) : j ≠ l[i] := by
  have h1 : (l.drop i).Pairwise (· < ·) := hp.sublist (List.drop_sublist _ _)
  rw [List.drop_eq_getElem_cons hi] at h1
  have := (List.pairwise_cons.1 h1).1 j hj
  omega
end
end
section
open Go.RowKit
open QueueM (Wt)
theorem clock_any (w : World) (B : Nat) (hB : B ≤ w.heap.size) (b : BoM) (h : BookP w B b) (hw : b.wt) (c : CmA) (GA : Option Addr) (gc : Nat) (PA : Option Addr) (pc : Nat) (hL : CmAL w c GA gc PA pc) (ok : CmOk c) :
    Calls Tryz.prog 13 #[.pointer (some ⟨b.b, 0, none⟩), .agg (cmcel c GA gc PA pc).toArray] w fun e w' => ActPost w B b True e w' := by
  obtain ⟨cz, hcz⟩ : ∃ x, x = cmcel c GA gc PA pc := ⟨_, rfl⟩
  rw [← hcz]
  obtain ⟨W, hW⟩ : ∃ W, (w.alloc (.cells cz.toArray 36)).alloc (.cells (replyC 0) 29) = W := ⟨_, rfl⟩
  have HFW : Hid (Fresh w W) := zh (by rw [← hW]; exact ((Frm.refl _ w).alloc _).alloc _)
  have HBC : Hid (Blk W w.heap.size 36 (cmcel c GA gc PA pc).toArray) := zh (by rw [← hW, ← hcz]; exact (Blk.new _ _ _).alloc _)
  have HBR : Hid (Blk W (w.heap.size + 1) 29 (replyC 0)) := zh (by rw [← hW]; have := Blk.new (w.alloc (.cells cz.toArray 36)) 29 (replyC 0); rw [show (w.alloc (.cells cz.toArray 36)).heap.size = w.heap.size + 1 from Array.size_push _] at this; exact this)
  have HS1 : Hid (W.drew.cell? ⟨w.heap.size, 5, none⟩ = some (.int .i64 c.tm) ∧ W.drew.cell? ⟨b.b, 0, none⟩ = some (.int .i64 b.tm)) := zh ⟨(cmC (HBC.out.frm (Frm.refl (fun _ => False) W).drew (fun f => f))).2.2.2.2.2.1, (h.fresh HFW.out.drew).blk.cell 0⟩
  have HH := zh h
  have HW := zh hw
  have HOK := zh ok
  unfold replyC at hW
  clear h hw hL ok hcz
  go_in
  go_upto_region 1 with fail
  try rw [hW]
  clear hW
  by_cases ht : b.tm ≤ c.tm
  rotate_left 1
  · have d4 : decide (b.tm ≤ c.tm) = false := decide_eq_false ht
    refine wp_region_held_drew (S := fun w' => w'.cell? ⟨w.heap.size, 5, none⟩ = some (.int .i64 c.tm) ∧ w'.cell? ⟨b.b, 0, none⟩ = some (.int .i64 b.tm)) (by kernel_rfl) (HS1.out) (fun hHeld => ?_)
    iterate 7 ((first | refine ztn (v := ?_) (zo rfl) ?_ | refine ztz (v := ?_) (zo rfl) ?_); try simp only [Act.put, zT, zZ, zS])
    refine zr1 7 (zo rfl) (fun K hK => ?_)
    go_simp
    refine (need_no 7 _).mono ?_
    rintro e w3 ⟨rfl, hw3⟩
    replace hw3 := hw3.symm
    subst hw3
    exact ⟨rfl, ActPost.no HH.out HW.out HFW.out.drew 7⟩
  have d4 : decide (b.tm ≤ c.tm) = true := decide_eq_true ht
  refine wp_region_held_drew (S := fun w' => w'.cell? ⟨w.heap.size, 5, none⟩ = some (.int .i64 c.tm) ∧ w'.cell? ⟨b.b, 0, none⟩ = some (.int .i64 b.tm)) (by kernel_rfl) (HS1.out) (fun hHeld => ?_)
  iterate 7 ((first | refine ztn (v := ?_) (zo rfl) ?_ | refine ztz (v := ?_) (zo rfl) ?_); try simp only [Act.put, zT, zZ, zS])
  refine zr1 7 (zo rfl) (fun K hK => ?_)
  go_simp
  refine (need_yes 7 _).mono ?_
  rintro e w3 ⟨rfl, hw3⟩
  replace hw3 := hw3.symm
  subst hw3
  refine hK.out _ _ (HS1.out) (fun hHeld => ?_)
  clear hK K
  try simp only [Act.put, zT, zZ, zS]
  refine wpAnyH_done (by kernel_rfl) ?_ _
  have HF3 : Hid (Fresh w W.drew) := zh HFW.out.drew
  have HB3 : Hid (BookP W.drew B b) := zh (HH.out.fresh HF3.out)
  have st3 := BStep.setT HB3.out HOK.out.tm
  have y0 : W.drew.cell? ⟨b.b, 0, none⟩ = some (.int .i64 b.tm) := HB3.out.blk.cell 0
  have y0' : W.drew.frozen? ⟨b.b, 0, none⟩ = false := HB3.out.blk.frozen _
  have y5 : W.drew.cell? ⟨w.heap.size, 5, none⟩ = some (.int .i64 c.tm) := HS1.out.1
  obtain ⟨V3, hV3⟩ : ∃ V3, W.drew.setCell ⟨b.b, 0, none⟩ (.int .i64 c.tm) = V3 := ⟨_, rfl⟩
  rw [hV3] at st3
  have hbr3 : Blk V3 (w.heap.size + 1) 29 (replyC 0) := (HBR.out.frm (Frm.refl (fun _ => False) W).drew (fun f => f)).frm st3.fr (HB3.out.not_own (HBR.out.frm (Frm.refl (fun _ => False) W).drew (fun f => f)) (by decide) (by decide))
  have HBR3 := zh hbr3
  have HST3 := zh ((BStep.refl HH.out HF3.out).trans st3)
  obtain ⟨b0, hb0⟩ : ∃ b0 : BoM, b0 = { b with tm := c.tm } := ⟨_, rfl⟩
  rw [← hb0] at HST3
  have HWT0 : Hid b0.wt := zh (by rw [hb0]; exact HW.out)
  have HWS0 : Hid (∀ k, (b.P k).map PlM.ws = (b0.P k).map PlM.ws) := zh (fun k => by rw [hb0])
  have y3 : V3.cell? ⟨b.b, 3, none⟩ = some (.map (some b.bm)) := by have := HST3.out.bk.blk.cell 3; rw [HST3.out.e1, HST3.out.e3] at this; exact this
  clear st3 hbr3 hb0 HBR HS1 d4 ht HBC HB3
  go_upto_region 3 with fail
  try rw [hV3]
  clear hV3 y0 y0' y5
  go_wp2_with fail
  refine (keysBk_any (some b.bm) V3).mono ?_
  rintro e w4 ⟨rfl, rfl⟩
  go_wp2_with fail
  refine (sortedBk_any V3 b.bm b0.kv (by have := HST3.out.bk.bmv; rw [HST3.out.e3] at this; exact this) HST3.out.bk.kbK).mono ?_
  rintro e V4 ⟨v4, ids, rfl, hpw, hks, hlen, hsl, f4⟩
  obtain ⟨A4, c4, rfl, _, _, _⟩ := hsl.shape
  have hf34 : Fresh V3 V4 := ((Frm.refl _ V3).alloc _).trans f4
  have HST4 := zh (HST3.out.fresh hf34)
  have HBR4 := zh (HBR3.out.frm hf34 (fun f => f))
  have HPW := zh hpw
  have HKS : Hid (∀ j ∈ ids, (b0.K j).isSome = true) := zh (fun j hj => by have := (hks j).1 hj; unfold BoM.kv at this; rw [Option.isSome_map] at this; exact this)
  have HSL := zh hsl
  have HNO : Hid (∀ g, (Value.slice A4 ids.length c4).ownBlock = some g → ¬ b0.own g) := zh (fun g hg ho => by
    have h1 := (hsl.lt g hg).1
    have h2 := HST3.out.bk.own_lt ho
    have h3 := ((Frm.refl (fun _ => False) V3).alloc (.cells #[.map (some b.bm)] 43)).size
    omega)
  have HLEN := zh hlen
  clear hpw hks hlen hsl f4 hf34 HST3 HBR3 y3
  go_wp2_with fail
  go_loopw [30] (fun v30 wr => ∃ (i : Nat) (b1 : BoM), i ≤ ids.length ∧ v30 = .int .i64 (i : Int) ∧ BStep V4 B b0 wr b1 ∧ b1.wt ∧ (∀ k, (b.P k).map PlM.ws = (b1.P k).map PlM.ws) ∧ b1.tm = b0.tm ∧ ∀ j ∈ ids.drop i, b1.K j = b0.K j) (fun v30 _ => ids.length - (RowKit.intOf v30).toNat)
  case atStart => exact ⟨0, b0, by omega, rfl, BStep.refl HST4.out.bk (Frm.refl _ _), HWT0.out, HWS0.out, rfl, fun _ _ => rfl⟩
  case round =>
    obtain ⟨i, b1, hi, rfl, hr1, hwt, hws, htm, hkk⟩ := hrel
    have HR1 := zh hr1
    have HWT1 := zh hwt
    have HWS1 := zh hws
    have HTM1 := zh htm
    have HKK := zh hkk
    have hi0 : (0 : Int) ≤ (i : Int) := by omega
    have hll := HLEN.out
    clear hr1 hwt hws htm hkk
    by_cases hlt : i < ids.length
    · have hlti : (i : Int) < (ids.length : Int) := by omega
      have HSL1 := zh (HSL.out.frm HR1.out.fr HNO.out)
      obtain ⟨g, o, rfl, _, hc⟩ := HSL1.out.rd.at_ (k := i) (by unfold ivs; simpa using hlt)
      unfold ivs at hc
      rw [List.getElem_map] at hc
      have hmem := List.getElem_mem hlt
      have hki := HKK.out ids[i] (by rw [List.drop_eq_getElem_cons hlt]; exact List.mem_cons_self ..)
      obtain ⟨y, hy0⟩ := Option.isSome_iff_exists.1 (HKS.out _ hmem)
      have hy : b1.K ids[i] = some y := hki.trans hy0
      have HDR : Hid (∀ j ∈ ids.drop (i + 1), j ≠ ids[i] ∧ b1.K j = b0.K j) := zh fun j hj => ⟨drop_ne HPW.out hlt hj, HKK.out j (by rw [List.drop_eq_getElem_cons hlt]; exact List.mem_cons_of_mem _ hj)⟩
      obtain ⟨id, hid⟩ : ∃ id, ids[i] = id := ⟨_, rfl⟩
      rw [hid] at hc hy HDR
      obtain ⟨hby, hyn, x, hx⟩ := HR1.out.bk.bo id y hy
      have HY := zh hy
      have HX := zh hx
      have HIDW : Hid (wf64 id) := zh (by have := hby.kb; have := HR1.out.bk.nw; exact ⟨by omega, by omega⟩)
      have HEQ : Hid (b1.b = b.b ∧ b1.fm = b.fm ∧ b1.bm = b.bm) := zh ⟨HR1.out.e1.trans HST4.out.e1, HR1.out.e2.trans HST4.out.e2, HR1.out.e3.trans HST4.out.e3⟩
      have y3 : wr.cell? ⟨b.b, 3, none⟩ = some (.map (some b.bm)) := by have := HR1.out.bk.blk.cell 3; rw [HEQ.out.1, HEQ.out.2.2] at this; exact this
      have y0 : wr.cell? ⟨b.b, 0, none⟩ = some (.int .i64 b1.tm) := by have := HR1.out.bk.blk.cell 0; rw [HEQ.out.1] at this; exact this
      have y4 : wr.cell? ⟨y.p, 4, none⟩ = some (.int .i64 y.st) := hby.blk.cell 4
      have y5 : wr.cell? ⟨y.p, 5, none⟩ = some (.int .i64 y.un) := hby.blk.cell 5
      have hlk := HR1.out.bk.bmv.at' (t := 43) Tryz.underlying43 (z := .pointer none) (fun _ => by kernel_rfl) (k := id) HIDW.out
      rw [BoM.kv_some hy, HEQ.out.2.2] at hlk
      dsimp only [Option.getD, BkM.ptr] at hlk
      clear hmem hki hy0 hy hid hby hyn hx
      have HNEXT : Hid (∀ w' b2, BStep V4 B b0 w' b2 → b2.wt → (∀ k, (b.P k).map PlM.ws = (b2.P k).map PlM.ws) → b2.tm = b0.tm → (∀ j, j ≠ id → b2.K j = b1.K j) → ∃ (k : Nat) (b1 : BoM), k ≤ ids.length ∧ Value.int .i64 ((i : Int) + 1) = .int .i64 (k : Int) ∧ BStep V4 B b0 w' b1 ∧ b1.wt ∧ (∀ k, (b.P k).map PlM.ws = (b1.P k).map PlM.ws) ∧ b1.tm = b0.tm ∧ ∀ j ∈ ids.drop k, b1.K j = b0.K j) := zh fun w' b2 s1 s2 s3 s4 s5 =>
        ⟨i + 1, b2, by omega, by push_cast; rfl, s1, s2, s3, s4, fun j hj => (s5 j (HDR.out j hj).1).trans (HDR.out j hj).2⟩
      by_cases hs1 : y.st = 1
      rotate_left 1
      · have d1 : (y.st == 1) = false := by simpa using hs1
        have d1' : decide (y.st = 1) = false := decide_eq_false hs1
        go_wp2_with fail
        go_quiet (fail)
        go_wp2_with fail
        go_roundw
        case rel => first | exact HNEXT.out _ b1 HR1.out HWT1.out HWS1.out HTM1.out (fun _ _ => rfl) | exact HNEXT.out _ b1 (HR1.out.fresh (Frm.drewN (Frm.refl _ _) _)) HWT1.out HWS1.out HTM1.out (fun _ _ => rfl)
        case measure => simp [RowKit.intOf]; omega
      rw [hs1] at y4
      have HS := zh hs1
      clear hs1
      by_cases hun : y.un ≤ b1.tm
      rotate_left 1
      · have d1 : decide (y.un ≤ b1.tm) = false := decide_eq_false hun
        go_wp2_with fail
        go_quiet (fail)
        go_wp2_with fail
        go_roundw
        case rel => first | exact HNEXT.out _ b1 HR1.out HWT1.out HWS1.out HTM1.out (fun _ _ => rfl) | exact HNEXT.out _ b1 (HR1.out.fresh (Frm.drewN (Frm.refl _ _) _)) HWT1.out HWS1.out HTM1.out (fun _ _ => rfl)
        case measure => simp [RowKit.intOf]; omega
      have d1 : decide (y.un ≤ b1.tm) = true := decide_eq_true hun
      have HS8 : Hid (∀ w' (b' : BoM) (x' : PlM), BookP w' B b' → b'.K id = some y → b'.P y.fl = some x' → b'.b = b.b ∧ b'.fm = b.fm ∧ b'.bm = b.bm → x'.val = x.val → w'.cell? ⟨b.b, 2, none⟩ = some (.map (some b.fm)) ∧ w'.cell? ⟨y.p, 1, none⟩ = some (.int .i64 y.fl) ∧ (Instr.lookup 42 (.map (some b.fm)) (.int .i64 y.fl) false).run Tryz.prog w' = .ok (.agg #[.pointer (some ⟨x.M.f, 0, none⟩), .pointer (some ⟨x.q, 0, none⟩)]) w') := zh fun w' b' x' hb hk hp he hv => by
        have hb1 := (hb.bo id y hk).1
        have hl := hb.fmv.at' (t := 42) Tryz.underlying42 (z := .agg #[.pointer none, .pointer none]) (fun _ => by kernel_rfl) (k := y.fl) hb1.wf.1
        rw [BoM.fv_some hp, he.2.1] at hl
        dsimp only [Option.getD] at hl
        rw [hv] at hl
        have h2 := hb.blk.cell 2
        rw [he.1, he.2.1] at h2
        exact ⟨h2, hb1.blk.cell 1, hl⟩
      go_wp2_with fail
      go_quiet (fail)
      go_wp2_with fail
      obtain ⟨U, hU⟩ : ∃ U, wr.drewN nq = U := ⟨_, rfl⟩
      have HRU := zh (HR1.out.fresh (Frm.drewN (Frm.refl _ _) nq))
      rw [hU] at HRU ⊢
      clear hU
      have HGI : Hid (Calls Tryz.prog 32 #[.pointer (some ⟨x.M.f, 0, none⟩), .int .i64 id] U.drew fun e w' => CodePost U.drew B x.M e w') := zh (give_any U.drew B (Nat.le_trans hB (Nat.le_trans HST4.out.fr.size HRU.out.fr.size)) x.M ((HRU.out.bk.pl _ x HX.out).1.f.fresh (Frm.refl _ _).drew) id HIDW.out)
      refine wp_region_held_drew (S := fun w' => w'.cell? ⟨b.b, 2, none⟩ = some (.map (some b.fm)) ∧ w'.cell? ⟨y.p, 1, none⟩ = some (.int .i64 y.fl) ∧ (Instr.lookup 42 (.map (some b.fm)) (.int .i64 y.fl) false).run Tryz.prog w' = .ok (.agg #[.pointer (some ⟨x.M.f, 0, none⟩), .pointer (some ⟨x.q, 0, none⟩)]) w') (by kernel_rfl) (HS8.out _ _ _ (HRU.out.bk.fresh (Frm.refl _ _).drew) HY.out HX.out HEQ.out rfl) (fun hHeld => ?_)
      iterate 9 ((first | refine ztn (v := ?_) (zo rfl) ?_ | refine ztz (v := ?_) (zo rfl) ?_); try simp only [Act.put, zT, zZ, zS])
      refine wpAnyH_take (i := 9) (v := .pointer (some ⟨x.M.f, 0, none⟩)) (zo rfl) (by kernel_rfl) (by kernel_rfl) (by kernel_rfl) (fun _ _ _ h => by first | exact h | cases h.1) (Or.inl ⟨by rfl, fun w hSw => ?_⟩) (by assumption) ?_
      · first | rfl | kernel_rfl | (go_simp; done) | (go_simp; rfl) | (simp [execOp]; done)
      try simp only [Act.put, zT, zZ, zS]
      (refine zt 10 (v := ?_) (zo rfl) ?_; try simp only [Act.put, zT, zZ, zS])
      refine zr1 11 (zo rfl) (fun K hK => ?_)
      go_simp
      refine (HGI.out).mono ?_
      rintro e w6 ⟨k6, rfl, hs6⟩
      obtain ⟨x6, e61, e62, e63, st6⟩ := BStep.flight (HRU.out.bk.fresh (Frm.refl _ _).drew) HX.out hs6
      have HST6 : Hid (BStep V4 B b0 w6 { b1 with P := updP b1.P y.fl (some x6) }) := zh ((HRU.out.fresh (Frm.refl _ _).drew).trans st6)
      have HE6 : Hid (x6.ws = x.ws) := zh e61
      have HV6 : Hid (x6.val = x.val) := zh (by unfold PlM.val; rw [e62, e63])
      clear hs6 e61 e62 e63 st6
      refine hK.out _ _ (HS8.out _ { b1 with P := updP b1.P y.fl (some x6) } _ HST6.out.bk HY.out (updP_same _ _ _) HEQ.out HV6.out) (fun hHeld => ?_)
      clear hK K
      try simp only [Act.put, zT, zZ, zS]
      refine wpAnyH_done (by kernel_rfl) ?_ _
      have HOB6 : Hid (w6.cell? ⟨b.b, 3, none⟩ = some (.map (some b.bm)) ∧ MapV w6 b.bm b1.kv) := zh (by
        have h1 := HST6.out.bk.blk.cell 3
        have h2 := HST6.out.bk.bmv
        have he := HEQ.out
        dsimp only at h1 h2
        rw [he.1, he.2.2] at h1
        rw [he.2.2] at h2
        exact ⟨h1, h2⟩)
      have y9 := HOB6.out.1
      go_wp2_with (refine wpList_delV _ rfl _ _ _ rfl Tryz.underlying43 b.bm b1.kv rfl HOB6.out.2 id rfl HIDW.out (fun w7 hm7 f7 => ?_))
      have HST7 : Hid (BStep V4 B b0 w7 { b1 with P := updP b1.P y.fl (some x6), K := updP b1.K id none }) := zh (HST6.out.delK id (by dsimp only; rw [HEQ.out.2.2]; exact hm7) (by dsimp only; rw [HEQ.out.2.2]; exact f7))
      have HWT7 : Hid (({ b1 with P := updP b1.P y.fl (some x6), K := updP b1.K id none } : BoM).wt) := zh (BoM.wt_del HWT1.out HY.out HX.out (fun u hu => by rw [HE6.out] at hu; exact ⟨hu, BoM.wt_ne HWT1.out HY.out (by rw [HS.out]; decide) HX.out hu⟩))
      clear hm7 f7 HST6 HOB6 y9
      go_wp2_with fail
      go_roundw
      case rel => exact HNEXT.out _ _ HST7.out HWT7.out (ws_P HX.out HE6.out HWS1.out) HTM1.out (fun j hj => updP_other _ _ hj)
      case measure => simp [RowKit.intOf]; omega
    · have hlti : ¬ (i : Int) < (ids.length : Int) := by omega
      have HEQ : Hid (b1.b = b.b ∧ b1.fm = b.fm ∧ b1.bm = b.bm) := zh ⟨HR1.out.e1.trans HST4.out.e1, HR1.out.e2.trans HST4.out.e2, HR1.out.e3.trans HST4.out.e3⟩
      have q2 : wr.cell? ⟨b.b, 2, none⟩ = some (.map (some b.fm)) := by have := HR1.out.bk.blk.cell 2; rw [HEQ.out.1, HEQ.out.2.1] at this; exact this
      have HBR5 := zh (HBR4.out.frm HR1.out.fr (HST4.out.bk.not_own HBR4.out (by decide) (by decide)))
      have HST5 := zh (HST4.out.trans HR1.out)
      clear HR1 HST4 HBR4 HKK HSL HNO HKS HPW HWT0 HWS0 HLEN hll hi0 hlt
      go_wp2_with fail
      refine (keysPl_any (some b.fm) wr).mono ?_
      rintro e w4 ⟨rfl, rfl⟩
      go_wp2_with fail
      refine (sortedPl_any wr b.fm b1.fv (by have := HST5.out.bk.fmv; rw [HEQ.out.2.1] at this; exact this) HST5.out.bk.kbP).mono ?_
      rintro e V5 ⟨v5, ns, rfl, hpw, hks, hlen, hsl, f5⟩
      obtain ⟨A5, c5, rfl, _, _, _⟩ := hsl.shape
      have hf45 : Fresh wr V5 := ((Frm.refl _ wr).alloc _).trans f5
      have HST6 := zh (HST5.out.fresh hf45)
      have HBR6 := zh (HBR5.out.frm hf45 (fun f => f))
      have HPW := zh hpw
      have HKS : Hid (∀ j ∈ ns, (b1.P j).isSome = true) := zh (fun j hj => by have := (hks j).1 hj; unfold BoM.fv at this; rw [Option.isSome_map] at this; exact this)
      have HSL := zh hsl
      have HNO : Hid (∀ g, (Value.slice A5 ns.length c5).ownBlock = some g → ¬ b1.own g) := zh (fun g hg ho => by
        have h1 := (hsl.lt g hg).1
        have h2 := HST5.out.bk.own_lt ho
        have h3 := ((Frm.refl (fun _ => False) wr).alloc (.cells #[.map (some b.fm)] 42)).size
        omega)
      have HLEN := zh hlen
      clear hpw hks hlen hsl f5 hf45 HST5 HBR5 q2
      go_wp2_with fail
      go_loopw [81] (fun v81 wq => ∃ (i : Nat) (b2 : BoM), i ≤ ns.length ∧ v81 = .int .i64 (i : Int) ∧ BStep V5 B b1 wq b2 ∧ b2.wt ∧ FairB b1 b2 ∧ b2.tm = b1.tm ∧ ∀ j ∈ ns.drop i, b2.P j = b1.P j) (fun v81 _ => ns.length - (RowKit.intOf v81).toNat)
      case atStart => exact ⟨0, b1, by omega, rfl, BStep.refl HST6.out.bk (Frm.refl _ _), HWT1.out, FairB.refl _, rfl, fun _ _ => rfl⟩
      case round =>
        obtain ⟨i, b2, hi, rfl, hr2, hwt, hfa, htm, hpp⟩ := hrel
        have HR2 := zh hr2
        have HWT2 := zh hwt
        have HFA2 := zh hfa
        have HTM2 := zh htm
        have HPP := zh hpp
        have hi0 : (0 : Int) ≤ (i : Int) := by omega
        have hll := HLEN.out
        clear hr2 hwt hfa htm hpp
        by_cases hlt : i < ns.length
        · have hlti : (i : Int) < (ns.length : Int) := by omega
          have HSL1 := zh (HSL.out.frm HR2.out.fr HNO.out)
          obtain ⟨g, o, rfl, _, hc⟩ := HSL1.out.rd.at_ (k := i) (by unfold ivs; simpa using hlt)
          unfold ivs at hc
          rw [List.getElem_map] at hc
          have hmem := List.getElem_mem hlt
          have hki := HPP.out ns[i] (by rw [List.drop_eq_getElem_cons hlt]; exact List.mem_cons_self ..)
          obtain ⟨x, hx0⟩ := Option.isSome_iff_exists.1 (HKS.out _ hmem)
          have hx : b2.P ns[i] = some x := hki.trans hx0
          have HDR : Hid (∀ j ∈ ns.drop (i + 1), j ≠ ns[i] ∧ b2.P j = b1.P j) := zh fun j hj => ⟨drop_ne HPW.out hlt hj, HPP.out j (by rw [List.drop_eq_getElem_cons hlt]; exact List.mem_cons_of_mem _ hj)⟩
          obtain ⟨k, hk⟩ : ∃ k, ns[i] = k := ⟨_, rfl⟩
          rw [hk] at hc hx HDR hx0
          have HX := zh hx
          have HX0 := zh hx0
          have HPR : Hid (Calls Tryz.prog 28 #[.pointer (some ⟨b.b, 0, none⟩), .int .i64 k] wr fun e w' => e = .returned (.tuple #[]) ∧ PromPost wr B b2 k x w') := zh (by
            have := promote_any wr B (Nat.le_trans hB (Nat.le_trans HST6.out.fr.size HR2.out.fr.size)) b2 HR2.out.bk HWT2.out k x hx
            rw [HR2.out.e1, HEQ.out.1] at this
            exact this)
          clear hmem hki hx0 hx hk
          go_wp2_with fail
          refine HPR.out.mono ?_
          rintro e w9 ⟨rfl, b9, x9, st9, wt9, p9, fair9, ot9, tm9, nx9, k9⟩
          have HFIN : Hid (∃ (k : Nat) (b2 : BoM), k ≤ ns.length ∧ Value.int .i64 ((i : Int) + 1) = .int .i64 (k : Int) ∧ BStep V5 B b1 w9 b2 ∧ b2.wt ∧ FairB b1 b2 ∧ b2.tm = b1.tm ∧ ∀ j ∈ ns.drop k, b2.P j = b1.P j) := zh
            ⟨i + 1, b9, by omega, by push_cast; rfl, HR2.out.trans st9, wt9, FairB.step HFA2.out HX0.out p9 fair9 ot9, tm9.trans HTM2.out, fun j hj => (ot9 j (HDR.out j hj).1).trans (HDR.out j hj).2⟩
          clear st9 wt9 p9 fair9 ot9 tm9 nx9 k9 HPR
          go_wp2_with fail
          go_roundw
          case rel => exact HFIN.out
          case measure => simp [RowKit.intOf]; omega
        · have hlti : ¬ (i : Int) < (ns.length : Int) := by omega
          have q0 : wr.cell? ⟨b.b, 0, none⟩ = some (.int .i64 b2.tm) := by have := HR2.out.bk.blk.cell 0; rw [HR2.out.e1, HEQ.out.1] at this; exact this
          have HBR9 := zh (HBR6.out.frm HR2.out.fr (HST6.out.bk.not_own HBR6.out (by decide) (by decide)))
          have HST9 := zh (HST6.out.trans HR2.out)
          have HWT9 := HWT2
          have HFAIR9 : Hid (True → FairB b b2) := zh (fun _ => FairB.of_ws HWS1.out HFA2.out)
          obtain ⟨t16, ht16⟩ : ∃ t, t = b2.tm := ⟨_, rfl⟩
          rw [← ht16] at q0
          obtain ⟨zs, hzs⟩ : ∃ zs : List Value, zs = [.int .i64 0, .string ⟨#[]⟩, .int .i64 0, .int .i64 0, .int .i64 0, .int .i64 0, .int .i64 t16, .slice none 0 0, .slice none 0 0] := ⟨_, rfl⟩
          have HRZ : Hid (RepZ zs) := zh (by rw [hzs]; exact ⟨rfl, by kernel_rfl⟩)
          have HZS := zh hzs
          have HTHR : Hid (wr.there (w.heap.size + 1) 0 zs.toArray.size) := zh (HBR9.out.there (by have := HRZ.out.len; show _ = 9; simpa using this))
          have HINF := zh HRZ.out.info
          have HONE := zh HRZ.out.one
          clear hzs HR2 HFA2 HPP HSL HNO ht16
          go_wp2_with (refine wpList_store_mid rfl 29 (.tmp 4) (.tmp 93) rfl (w.heap.size + 1) 0 zs.toArray rfl (by rw [HZS.out]; rfl) HTHR.out HINF.out HONE.out ?_)
          exact rep_done rfl rfl (blk_setAll HBR9.out (vs := zs) (by rw [HRZ.out.len]; rfl)) HRZ.out (ActPost.yes (HST9.out.box HBR9.out (by omega) (by decide) (by decide) (frm_setCells _ _ 0 _)) HWT9.out HFAIR9.out HRZ.out)
end
end Go.Proofs.YtbeaoddjomdlcaaGreatDoor

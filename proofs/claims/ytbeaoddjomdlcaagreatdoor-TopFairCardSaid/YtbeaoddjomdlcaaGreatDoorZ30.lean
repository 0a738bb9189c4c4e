/- Proved here, for the statement TopFairCardSaid: laws that its walk leans on. It holds with no condition. (Put together and shortened by a program out of many texts: To38, To45.) -/
import Derived.Test.YtbeaoddjomdlcaaGreatDoorZ29
set_option linter.unusedVariables false
set_option linter.unusedSimpArgs false
set_option maxRecDepth 100000
set_option maxHeartbeats 64000000
namespace Go.Proofs.YtbeaoddjomdlcaaGreatDoor
section
open Go.RowKit
open QueueM (Wt)
attribute [local go_sem] run_store_float in
theorem promote_any (w : World) (B : Nat) (hB : B ≤ w.heap.size) (b : BoM) (h : BookP w B b) (hw : b.wt) (k : Int) (x : PlM) (hx : b.P k = some x) :
    Calls Tryz.prog 28 #[.pointer (some ⟨b.b, 0, none⟩), .int .i64 k] w fun e w' => e = .returned (.tuple #[]) ∧ PromPost w B b k x w' := by
  have hp := (h.pl k x hx).1
  have y2 : w.cell? ⟨b.b, 2, none⟩ = some (.map (some b.fm)) := h.blk.cell 2
  have hlook := h.fmv.at' (t := 42) Tryz.underlying42 (z := .agg #[.pointer none, .pointer none]) (fun _ => by kernel_rfl) (k := k) (by have := hp.kb; exact ⟨by omega, by omega⟩)
  have hfk : b.fv k = some x.val := by unfold BoM.fv; rw [hx]; rfl
  rw [hfk] at hlook
  dsimp only [Option.getD, PlM.val] at hlook
  obtain ⟨W, hW⟩ : ∃ W, w.alloc (.cells #[.pointer (some ⟨x.M.f, 0, none⟩), .pointer (some ⟨x.q, 0, none⟩)] 75) = W := ⟨_, rfl⟩
  have FW : Fresh w W := by rw [← hW]; exact (Frm.refl _ w).alloc _
  have HI : Hid (PromI w B b k x w.heap.size W b x) := zh ⟨PromM.refl h FW hx, hw, QueueM.Fair.refl _, fun _ => rfl, by rw [← hW]; exact Blk.new _ _ _⟩
  have x0 : W.cell? ⟨w.heap.size, 0, none⟩ = some (.pointer (some ⟨x.M.f, 0, none⟩)) := HI.out.box.cell 0
  have x1 : W.cell? ⟨w.heap.size, 1, none⟩ = some (.pointer (some ⟨x.q, 0, none⟩)) := HI.out.box.cell 1
  have HG0 : Hid (QueueM.Good x.ws) := zh hp.g
  clear h hw hx hp hfk
  go_in
  go_upto_region 1 with fail
  go_cut [5, 6] from 5 (fun v5 v6 wx => WtAt wx x.ws v5 v6 ∧ Fresh W wx)
  case first =>
    have HS : Hid (∀ w', Fresh W w' → w'.cell? ⟨w.heap.size, 0, none⟩ = some (.pointer (some ⟨x.M.f, 0, none⟩)) ∧ w'.cell? ⟨w.heap.size, 1, none⟩ = some (.pointer (some ⟨x.q, 0, none⟩))) := zh fun w' F => ⟨(HI.out.box.frm F (fun f => f)).cell 0, (HI.out.box.frm F (fun f => f)).cell 1⟩
    have HLF : Hid (∀ w', Fresh W w' → Calls Tryz.prog 24 #[.pointer (some ⟨x.M.f, 0, none⟩)] w' fun e w'' => PLeftPost w' x.M.ls.length e w'') := zh fun w' F => by rw [← HI.out.m.f]; exact pLeft_any w' B x.M (HI.out.m.pl.f.fresh F)
    have HFI : Hid (∀ w' (A : Option Addr) (c : Nat) (zs : List Int), Fresh W w' → zs.length ≤ 8 → Rd w' w'.heap.size A (zs.map (Value.int .i64)) → Calls Tryz.prog 62 #[.pointer (some ⟨x.q, 0, none⟩), .slice A zs.length c] w' fun e w'' => FirstP w' zs x.ws e w'') := zh fun w' A c zs F h8 hA => by rw [← HI.out.m.q]; exact firstP w' B x.q x.v x.ws A c zs (HI.out.m.pl.q.fresh F) HI.out.m.pl.g hA h8
    have HLL : Hid (x.M.ls.length ≤ 8) := zh HI.out.m.pl.f.ll
    refine wp_region_held_drew (S := fun w' => w'.cell? ⟨w.heap.size, 0, none⟩ = some (.pointer (some ⟨x.M.f, 0, none⟩)) ∧ w'.cell? ⟨w.heap.size, 1, none⟩ = some (.pointer (some ⟨x.q, 0, none⟩))) (by kernel_rfl) (HS.out _ ((Frm.refl (fun _ => False) W).drew)) (fun hHeld => ?_)
    iterate 4 ((first | refine ztn (v := ?_) (zo rfl) ?_ | refine ztz (v := ?_) (zo rfl) ?_); try simp only [Act.put, zT, zZ, zS])
    refine zr2 4 9 (zo rfl) (zo rfl) (fun K hK => ?_) (fun K hK => ?_)
    · go_simp
      refine (HLF.out (W.drew) ((Frm.refl (fun _ => False) W).drew)).mono ?_
      rintro e w4 ⟨v4, zs, rfl, hzl, s4, f4⟩
      have h8 : zs.length ≤ 8 := by have := HLL.out; omega
      clear hzl
      obtain ⟨A4, c4, rfl, _, _, _⟩ := s4.shape
      have HS4 := zh s4
      have HF4 : Hid (Fresh W w4) := zh (((Frm.refl (fun _ => False) W).drew).trans f4)
      clear s4 f4
      refine hK.out _ _ (HS.out _ HF4.out) (fun hHeld => ?_)
      clear hK K
      try simp only [Act.put, zT, zZ, zS]
      refine zr2 5 9 (zo rfl) (zo rfl) (fun K hK => ?_) (fun K hK => ?_)
      · go_simp
        refine (HFI.out (w4) _ _ _ (HF4.out) h8 (HS4.out.rd)).mono ?_
        rintro e w5 ⟨vi, vc, vm, vt, vs, fb, rfl, hcase, f5⟩
        have HF5 : Hid (Fresh W w5) := zh ((HF4.out).trans f5)
        have HCASE := zh hcase
        clear f5 hcase
        refine hK.out _ _ (HS.out _ HF5.out) (fun hHeld => ?_)
        clear hK K
        try simp only [Act.put, zT, zZ, zS]
        (refine zt 6 (v := ?_) (zo rfl) ?_; try simp only [Act.put, zT, zZ, zS])
        iterate 2 (refine ztn (v := ?_) (zo rfl) ?_; try simp only [Act.put, zT, zZ, zS])
        refine zr1 9 (zo rfl) (fun K hK => ?_)
        go_simp
        have HB9 := zh (Blk.new (w5) 69 #[.int .i64 0, .int .i64 0, .int .i64 0, .int .i64 0, .float .f64 0])
        have HF9 : Hid (Fresh W ((w5).alloc (.cells #[.int .i64 0, .int .i64 0, .int .i64 0, .int .i64 0, .float .f64 0] 69))) := zh ((HF5.out).alloc _)
        have HQ9 : Hid (W.heap.size ≤ (w5).heap.size) := zh (HF5.out).size
        refine hK.out _ _ (HS.out _ HF9.out) (fun hHeld => ?_)
        clear hK K
        try simp only [Act.put, zT, zZ, zS]
        refine zr1 10 (zo rfl) (fun K hK => ?_)
        rw [if_pos (by rfl)]
        refine wp_store_mid _ _ _ rfl _ 0 #[.int .i64 vi, .int .i64 vc, .int .i64 vm, .int .i64 vt, .float .f64 vs] rfl rfl (HB9.out.there rfl) (by kernel_rfl) (by kernel_rfl) ?_
        have HB10 := zh (blk_setAll HB9.out (vs := [.int .i64 vi, .int .i64 vc, .int .i64 vm, .int .i64 vt, .float .f64 vs]) rfl)
        have HF10 := zh ((HF9.out).trans' (frm_setCells (w5.heap.size) [.int .i64 vi, .int .i64 vc, .int .i64 vm, .int .i64 vt, .float .f64 vs] 0 (w5.alloc (.cells #[.int .i64 0, .int .i64 0, .int .i64 0, .int .i64 0, .float .f64 0] 69))) (fun k hk e => by have := HQ9.out; omega))
        refine hK.out _ _ (HS.out _ HF10.out) (fun hHeld => ?_)
        clear hK K
        try simp only [Act.put, zT, zZ, zS]
        (refine ztn (v := ?_) (zo rfl) ?_; try simp only [Act.put, zT, zZ, zS])
        refine wpAnyH_done (by kernel_rfl) ?_ _
        go_wp2_with fail
        go_meet
        exact ⟨⟨⟨vi, vc, vm, vt, vs⟩, fb, zs, _, rfl, rfl, HCASE.out, HB10.out⟩, HF10.out⟩
      · go_simp
        have HB9 := zh (Blk.new (w4) 69 #[.int .i64 0, .int .i64 0, .int .i64 0, .int .i64 0, .float .f64 0])
        have HF9 : Hid (Fresh W ((w4).alloc (.cells #[.int .i64 0, .int .i64 0, .int .i64 0, .int .i64 0, .float .f64 0] 69))) := zh ((HF4.out).alloc _)
        have HQ9 : Hid (W.heap.size ≤ (w4).heap.size) := zh (HF4.out).size
        refine hK.out _ _ (HS.out _ HF9.out) (fun hHeld => ?_)
        clear hK K
        try simp only [Act.put, zT, zZ, zS]
        refine zr1 5 (zo rfl) (fun K hK => ?_)
        go_simp
        refine (HFI.out (w4.alloc (.cells #[.int .i64 0, .int .i64 0, .int .i64 0, .int .i64 0, .float .f64 0] 69)) _ _ _ (HF9.out) h8 (((HS4.out.alloc (.cells #[.int .i64 0, .int .i64 0, .int .i64 0, .int .i64 0, .float .f64 0] 69)).rd))).mono ?_
        rintro e w5 ⟨vi, vc, vm, vt, vs, fb, rfl, hcase, f5⟩
        have HF5 : Hid (Fresh W w5) := zh ((HF9.out).trans f5)
        have HCASE := zh hcase
        have HB9n := zh (HB9.out.frm f5 (fun f => f))
        clear HB9
        have HB9 := HB9n
        clear HB9n
        clear f5 hcase
        refine hK.out _ _ (HS.out _ HF5.out) (fun hHeld => ?_)
        clear hK K
        try simp only [Act.put, zT, zZ, zS]
        iterate 3 (refine ztn (v := ?_) (zo rfl) ?_; try simp only [Act.put, zT, zZ, zS])
        refine zr1 10 (zo rfl) (fun K hK => ?_)
        rw [if_pos (by rfl)]
        refine wp_store_mid _ _ _ rfl _ 0 #[.int .i64 vi, .int .i64 vc, .int .i64 vm, .int .i64 vt, .float .f64 vs] rfl rfl (HB9.out.there rfl) (by kernel_rfl) (by kernel_rfl) ?_
        have HB10 := zh (blk_setAll HB9.out (vs := [.int .i64 vi, .int .i64 vc, .int .i64 vm, .int .i64 vt, .float .f64 vs]) rfl)
        have HF10 := zh ((HF5.out).trans' (frm_setCells (w4.heap.size) [.int .i64 vi, .int .i64 vc, .int .i64 vm, .int .i64 vt, .float .f64 vs] 0 (w5)) (fun k hk e => by have := HQ9.out; omega))
        refine hK.out _ _ (HS.out _ HF10.out) (fun hHeld => ?_)
        clear hK K
        try simp only [Act.put, zT, zZ, zS]
        (refine ztn (v := ?_) (zo rfl) ?_; try simp only [Act.put, zT, zZ, zS])
        refine wpAnyH_done (by kernel_rfl) ?_ _
        go_wp2_with fail
        go_meet
        exact ⟨⟨⟨vi, vc, vm, vt, vs⟩, fb, zs, _, rfl, rfl, HCASE.out, HB10.out⟩, HF10.out⟩
    · go_simp
      have HB9 := zh (Blk.new (W.drew) 69 #[.int .i64 0, .int .i64 0, .int .i64 0, .int .i64 0, .float .f64 0])
      have HF9 : Hid (Fresh W ((W.drew).alloc (.cells #[.int .i64 0, .int .i64 0, .int .i64 0, .int .i64 0, .float .f64 0] 69))) := zh (((Frm.refl (fun _ => False) W).drew).alloc _)
      have HQ9 : Hid (W.heap.size ≤ (W.drew).heap.size) := zh ((Frm.refl (fun _ => False) W).drew).size
      refine hK.out _ _ (HS.out _ HF9.out) (fun hHeld => ?_)
      clear hK K
      try simp only [Act.put, zT, zZ, zS]
      refine zr1 4 (zo rfl) (fun K hK => ?_)
      go_simp
      refine (HLF.out (W.drew.alloc (.cells #[.int .i64 0, .int .i64 0, .int .i64 0, .int .i64 0, .float .f64 0] 69)) (HF9.out)).mono ?_
      rintro e w4 ⟨v4, zs, rfl, hzl, s4, f4⟩
      have h8 : zs.length ≤ 8 := by have := HLL.out; omega
      clear hzl
      obtain ⟨A4, c4, rfl, _, _, _⟩ := s4.shape
      have HS4 := zh s4
      have HF4 : Hid (Fresh W w4) := zh ((HF9.out).trans f4)
      have HB9n := zh (HB9.out.frm f4 (fun f => f))
      clear HB9
      have HB9 := HB9n
      clear HB9n
      clear s4 f4
      refine hK.out _ _ (HS.out _ HF4.out) (fun hHeld => ?_)
      clear hK K
      try simp only [Act.put, zT, zZ, zS]
      refine zr1 5 (zo rfl) (fun K hK => ?_)
      go_simp
      refine (HFI.out (w4) _ _ _ (HF4.out) h8 (HS4.out.rd)).mono ?_
      rintro e w5 ⟨vi, vc, vm, vt, vs, fb, rfl, hcase, f5⟩
      have HF5 : Hid (Fresh W w5) := zh ((HF4.out).trans f5)
      have HCASE := zh hcase
      have HB9n := zh (HB9.out.frm f5 (fun f => f))
      clear HB9
      have HB9 := HB9n
      clear HB9n
      clear f5 hcase
      refine hK.out _ _ (HS.out _ HF5.out) (fun hHeld => ?_)
      clear hK K
      try simp only [Act.put, zT, zZ, zS]
      iterate 3 (refine ztn (v := ?_) (zo rfl) ?_; try simp only [Act.put, zT, zZ, zS])
      refine zr1 10 (zo rfl) (fun K hK => ?_)
      rw [if_pos (by rfl)]
      refine wp_store_mid _ _ _ rfl _ 0 #[.int .i64 vi, .int .i64 vc, .int .i64 vm, .int .i64 vt, .float .f64 vs] rfl rfl (HB9.out.there rfl) (by kernel_rfl) (by kernel_rfl) ?_
      have HB10 := zh (blk_setAll HB9.out (vs := [.int .i64 vi, .int .i64 vc, .int .i64 vm, .int .i64 vt, .float .f64 vs]) rfl)
      have HF10 := zh ((HF5.out).trans' (frm_setCells (W.drew.heap.size) [.int .i64 vi, .int .i64 vc, .int .i64 vm, .int .i64 vt, .float .f64 vs] 0 (w5)) (fun k hk e => by have := HQ9.out; omega))
      refine hK.out _ _ (HS.out _ HF10.out) (fun hHeld => ?_)
      clear hK K
      try simp only [Act.put, zT, zZ, zS]
      (refine ztn (v := ?_) (zo rfl) ?_; try simp only [Act.put, zT, zZ, zS])
      refine wpAnyH_done (by kernel_rfl) ?_ _
      go_wp2_with fail
      go_meet
      exact ⟨⟨⟨vi, vc, vm, vt, vs⟩, fb, zs, _, rfl, rfl, HCASE.out, HB10.out⟩, HF10.out⟩
  case rest =>
    obtain ⟨hwt, hfw⟩ := hcut
    have HI2 := zh (HI.out.fresh hfw)
    have HWT := zh hwt
    clear hwt hfw HI FW
    go_wp2_with fail
    go_loopw [5, 6] (fun v5 v6 wr => ∃ (b' : BoM) (x' : PlM), PromI w B b k x w.heap.size wr b' x' ∧ WtAt wr x'.ws v5 v6) (fun _ _ wr => qLen wr x.q)
    case atStart => exact ⟨b, x, HI2.out, HWT.out⟩
    case round =>
      clear HI2 HWT x0 x1
      obtain ⟨b', x', hi, ⟨vi, vc, vm, vt, vs⟩, fb, zs, c, rfl, rfl, hcase, hbw⟩ := hrel
      dsimp only at hcase hbw
      rcases hcase with ⟨hno, rfl⟩ | ⟨hso, rfl⟩
      · have HF := zh hi.post
        clear hi hbw hno
        go_wp2_with fail
        go_end0
        exact ⟨rfl, HF.out⟩
      · obtain ⟨hmem, hhas⟩ := QueueM.first_has hso
        have hp := hi.m.pl
        have hri := (QueueM.right_iff _).1 (hp.g.right _ hmem)
        dsimp only at hri hhas
        obtain ⟨y, hyk, hyf, hys⟩ := hi.m.who hi.wt hmem
        dsimp only at hyk
        have HSTEP : Hid (∀ w2 b2 x2, PromM w B b k x (updP b'.K vi (some { y with st := 2 })) (QueueM.del vi x'.ws) w2 b2 x2 → b2.wt) := zh fun w2 b2 x2 h2 => hi.m.wt hi.wt hp.g hmem hyk h2
        have HFAIR : Hid (QueueM.Fair x.ws (QueueM.del vi x'.ws)) := zh (hi.fair.step HG0.out hp.g hso)
        have HGD : Hid (QueueM.Good (QueueM.del vi x'.ws)) := zh (hp.g.sub (QueueM.del_sub _ _))
        have HWD : Hid (Words (QueueM.del vi x'.ws)) := zh fun a ha => hp.wd a ((QueueM.del_sub _ _).subset ha)
        have HLEN : Hid ((QueueM.del vi x'.ws).length < qLen wr x.q) := zh (by
          rw [← hi.m.q, qLen_of hp.q, QueueM.del_eq, List.length_eraseIdx, if_pos (((plc_yes hhas).2))]
          have := (plc_yes hhas).2
          omega)
        have HRM : Hid (Calls Tryz.prog 35 #[.pointer (some ⟨x.q, 0, none⟩), .int .i64 vi] wr fun e w' => RemovePost wr B x'.q x'.v vi x'.ws e w') := zh (by
          rw [← hi.m.q]
          exact remove_any wr B x'.q x'.v x'.ws vi hp.q (by have := hp.g.few; omega))
        have HREM : Hid ((QueueM.remove vi x'.ws).2 = QueueM.del vi x'.ws) := zh (by unfold QueueM.remove; rw [if_pos hhas])
        have HNB : Hid (¬ b'.own w.heap.size) := zh (hi.m.st.bk.not_own hi.box (by decide) (by decide))
        have HNW : Hid (¬ b'.own c) := zh (hi.m.st.bk.not_own hbw (by decide) (by decide))
        have HSOME : Hid (∀ i, (updP b'.K vi (some { y with st := 2 }) i).map BkM.p = (b.K i).map BkM.p) := zh fun i => by
          rw [← hi.sm i]
          by_cases e : i = vi
          · rw [e, updP_same, hyk]; rfl
          · rw [updP_other _ _ e]
        have u0 : wr.cell? ⟨w.heap.size, 0, none⟩ = some (.pointer (some ⟨x.M.f, 0, none⟩)) := hi.box.cell 0
        have u1 : wr.cell? ⟨w.heap.size, 1, none⟩ = some (.pointer (some ⟨x.q, 0, none⟩)) := hi.box.cell 1
        have u2 : wr.cell? ⟨c, 0, none⟩ = some (.int .i64 vi) := hbw.cell 0
        have HI := zh hi
        have HBW := zh hbw
        have HYK := zh hyk
        have hvi : wf64 vi ∧ wf64 vc ∧ wf64 vm := ⟨⟨by omega, by omega⟩, ⟨by omega, by omega⟩, ⟨by omega, by omega⟩⟩
        have HVI := zh hvi
        clear hi hbw hyk hyf hys hmem hhas hso hp hri hvi
        go_wp2_with fail
        refine HRM.out.mono ?_
        rintro e w6 ⟨rfl, hs6⟩
        rw [HREM.out] at hs6
        obtain ⟨b6, x6, m6, f6⟩ := HI.out.m.queue hs6 HGD.out HWD.out
        have bx6 := HI.out.box.frm f6 HNB.out
        have bw6 := HBW.out.frm f6 HNW.out
        have HNB6 : Hid (¬ b6.own w.heap.size) := zh (m6.st.bk.not_own bx6 (by decide) (by decide))
        have HNW6 : Hid (¬ b6.own c) := zh (m6.st.bk.not_own bw6 (by decide) (by decide))
        have HTK : Hid (Calls Tryz.prog 26 #[.pointer (some ⟨x.M.f, 0, none⟩), .int .i64 vi, .int .i64 vc, .int .i64 vm] w6 fun e w' => CodePost w6 B x6.M e w') := zh (by
          rw [← m6.f]
          exact takeP_any w6 B (Nat.le_trans hB m6.st.fr.size) x6.M m6.pl.f vi vc vm HVI.out.1 HVI.out.2.1 HVI.out.2.2)
        have z0 : w6.cell? ⟨w.heap.size, 0, none⟩ = some (.pointer (some ⟨x.M.f, 0, none⟩)) := bx6.cell 0
        have z1 : w6.cell? ⟨c, 0, none⟩ = some (.int .i64 vi) := bw6.cell 0
        have z2 : w6.cell? ⟨c, 1, none⟩ = some (.int .i64 vc) := bw6.cell 1
        have z3 : w6.cell? ⟨c, 2, none⟩ = some (.int .i64 vm) := bw6.cell 2
        have HM6 := zh m6
        have HX6 := zh bx6
        have HW6 := zh bw6
        clear HRM hs6 m6 f6 bx6 bw6 u0 u1 u2 HBW HNB HNW HREM HWD
        go_wp2_with fail
        refine HTK.out.mono ?_
        rintro e w7 ⟨k7, rfl, hs7⟩
        obtain ⟨b7, x7, m7, f7⟩ := HM6.out.flight hs7
        have bx7 := HX6.out.frm f7 HNB6.out
        have bw7 := HW6.out.frm f7 HNW6.out
        have hb7 := m7.st.bk
        have t0 : w7.cell? ⟨b.b, 3, none⟩ = some (.map (some b.bm)) := by rw [← m7.st.e1, ← m7.st.e3]; exact hb7.blk.cell 3
        have t1 : w7.cell? ⟨c, 0, none⟩ = some (.int .i64 vi) := bw7.cell 0
        have hk7 : b7.K vi = some y := by rw [m7.K]; exact HYK.out
        have hy7 := (hb7.bo vi y hk7).1
        have t2 : w7.cell? ⟨y.p, 4, none⟩ = some (.int .i64 y.st) := hy7.blk.cell 4
        have t3 : w7.frozen? ⟨y.p, 4, none⟩ = false := hy7.blk.frozen _
        have hl7 := (hb7.bmv.fresh (Frm.refl (fun _ => False) w7).drew).at' (t := 43) Tryz.underlying43 (z := .pointer none) (fun _ => by kernel_rfl) (k := vi) HVI.out.1
        have hkv : b7.kv vi = some y.ptr := by unfold BoM.kv; rw [hk7]; rfl
        rw [hkv, m7.st.e3] at hl7
        dsimp only [Option.getD, BkM.ptr] at hl7
        have m8 := (m7.fresh (Frm.refl (fun _ => False) w7).drew).booked HYK.out
        have F8 : Frm (fun j => j = y.p) w7 (w7.drew.setCell ⟨y.p, 4, none⟩ (.int .i64 2)) := ((Frm.refl (fun j => j = y.p) w7).drew).setCell (p := ⟨y.p, 4, none⟩) (fun _ => rfl) _
        have bx8 := bx7.frm F8 (bx7.apart hy7.blk (by decide))
        have bw8 := bw7.frm F8 (bw7.apart hy7.blk (by decide))
        have HL8 : Hid (qLen (w7.drew.setCell ⟨y.p, 4, none⟩ (.int .i64 2)) x.q < qLen wr x.q) := zh (by
          have e : qLen (w7.drew.setCell ⟨y.p, 4, none⟩ (.int .i64 2)) x.q = x7.ws.length := by rw [← m8.q]; exact qLen_of m8.pl.q
          rw [e, m8.ws]
          exact HLEN.out)
        have HI8 : Hid (∃ b8, PromI w B b k x w.heap.size (w7.drew.setCell ⟨y.p, 4, none⟩ (.int .i64 2)) b8 x7) := zh ⟨_, ⟨⟨m8.st, m8.pk, m8.f, m8.q, rfl, m8.ot, m8.tm, m8.nx, rfl⟩, HSTEP.out _ _ _ m8, by rw [m8.ws]; exact HFAIR.out, HSOME.out, bx8⟩⟩
        have HW8 := zh bw8
        obtain ⟨V0, hV0⟩ : ∃ V0, (w7.setCell ⟨y.p, 4, none⟩ (.int .i64 2)).drew = V0 := ⟨_, rfl⟩
        rw [show w7.drew.setCell ⟨y.p, 4, none⟩ (.int .i64 2) = V0 from hV0] at HI8 HW8 HL8
        clear HTK hs7 m7 f7 bx7 bw7 hb7 hk7 hy7 hkv m8 F8 bx8 bw8 z0 z1 z2 z3 HX6 HW6 HM6 HNB6 HNW6 HYK HSTEP HFAIR HSOME HLEN
        go_wp2_with fail
        go_region
        try rw [hV0]
        clear hV0 t0 t1 t2 t3 hl7
        have r0 : V0.cell? ⟨c, 0, none⟩ = some (.int .i64 vi) := HW8.out.cell 0
        have r1 : V0.cell? ⟨c, 1, none⟩ = some (.int .i64 vc) := HW8.out.cell 1
        have r2 : V0.cell? ⟨c, 2, none⟩ = some (.int .i64 vm) := HW8.out.cell 2
        have r3 : V0.cell? ⟨c, 3, none⟩ = some (.int .i64 vt) := HW8.out.cell 3
        have r4 : V0.cell? ⟨c, 4, none⟩ = some (.float .f64 vs) := HW8.out.cell 4
        obtain ⟨b8, hi8⟩ := HI8.out
        have HIB := zh hi8
        have HB9 : Hid (Blk (V0.alloc (.cells #[.int .i64 vi, .int .i64 vc, .int .i64 vm, .int .i64 vt, .float .f64 vs] 69)).drew V0.heap.size 69 #[.int .i64 vi, .int .i64 vc, .int .i64 vm, .int .i64 vt, .float .f64 vs]) := zh ((Blk.new _ _ _).frm (Frm.refl (fun _ => False) _).drew (fun f => f))
        have HF9 : Hid (Fresh V0 (V0.alloc (.cells #[.int .i64 vi, .int .i64 vc, .int .i64 vm, .int .i64 vt, .float .f64 vs] 69))) := zh ((Frm.refl _ _).alloc _)
        clear hi8
        have HI := HIB
        clear HIB
        go_wp2_with fail
        have HS : Hid (∀ w', Fresh V0 w' → w'.cell? ⟨w.heap.size, 0, none⟩ = some (.pointer (some ⟨x.M.f, 0, none⟩)) ∧ w'.cell? ⟨w.heap.size, 1, none⟩ = some (.pointer (some ⟨x.q, 0, none⟩))) := zh fun w' F => ⟨(HI.out.box.frm F (fun f => f)).cell 0, (HI.out.box.frm F (fun f => f)).cell 1⟩
        have HLF : Hid (∀ w', Fresh V0 w' → Calls Tryz.prog 24 #[.pointer (some ⟨x.M.f, 0, none⟩)] w' fun e w'' => PLeftPost w' x7.M.ls.length e w'') := zh fun w' F => by rw [← HI.out.m.f]; exact pLeft_any w' B x7.M (HI.out.m.pl.f.fresh F)
        have HFI : Hid (∀ w' (A : Option Addr) (c : Nat) (zs : List Int), Fresh V0 w' → zs.length ≤ 8 → Rd w' w'.heap.size A (zs.map (Value.int .i64)) → Calls Tryz.prog 62 #[.pointer (some ⟨x.q, 0, none⟩), .slice A zs.length c] w' fun e w'' => FirstP w' zs x7.ws e w'') := zh fun w' A c zs F h8 hA => by rw [← HI.out.m.q]; exact firstP w' B x7.q x7.v x7.ws A c zs (HI.out.m.pl.q.fresh F) HI.out.m.pl.g hA h8
        have HLL : Hid (x7.M.ls.length ≤ 8) := zh HI.out.m.pl.f.ll
        refine wp_region_held_drew (S := fun w' => w'.cell? ⟨w.heap.size, 0, none⟩ = some (.pointer (some ⟨x.M.f, 0, none⟩)) ∧ w'.cell? ⟨w.heap.size, 1, none⟩ = some (.pointer (some ⟨x.q, 0, none⟩))) (by kernel_rfl) (HS.out _ HF9.out.drew) (fun hHeld => ?_)
        iterate 4 ((first | refine ztn (v := ?_) (zo rfl) ?_ | refine ztz (v := ?_) (zo rfl) ?_); try simp only [Act.put, zT, zZ, zS])
        refine zr1 4 (zo rfl) (fun K hK => ?_)
        go_simp
        refine (HLF.out ((V0.alloc (.cells #[.int .i64 vi, .int .i64 vc, .int .i64 vm, .int .i64 vt, .float .f64 vs] 69)).drew) (HF9.out.drew)).mono ?_
        rintro e w4 ⟨v4, zs, rfl, hzl, s4, f4⟩
        have h8 : zs.length ≤ 8 := by have := HLL.out; omega
        clear hzl
        obtain ⟨A4, c4, rfl, _, _, _⟩ := s4.shape
        have HS4 := zh s4
        have HF4 : Hid (Fresh V0 w4) := zh ((HF9.out.drew).trans f4)
        have HB9n := zh (HB9.out.frm f4 (fun f => f))
        clear HB9
        have HB9 := HB9n
        clear HB9n
        clear s4 f4
        refine hK.out _ _ (HS.out _ HF4.out) (fun hHeld => ?_)
        clear hK K
        try simp only [Act.put, zT, zZ, zS]
        refine zr1 5 (zo rfl) (fun K hK => ?_)
        go_simp
        refine (HFI.out (w4) _ _ _ (HF4.out) h8 (HS4.out.rd)).mono ?_
        rintro e w5 ⟨vi, vc, vm, vt, vs, fb, rfl, hcase, f5⟩
        have HF5 : Hid (Fresh V0 w5) := zh ((HF4.out).trans f5)
        have HCASE := zh hcase
        have HB9n := zh (HB9.out.frm f5 (fun f => f))
        clear HB9
        have HB9 := HB9n
        clear HB9n
        clear f5 hcase
        refine hK.out _ _ (HS.out _ HF5.out) (fun hHeld => ?_)
        clear hK K
        try simp only [Act.put, zT, zZ, zS]
        iterate 3 (refine ztn (v := ?_) (zo rfl) ?_; try simp only [Act.put, zT, zZ, zS])
        refine zr1 9 (zo rfl) (fun K hK => ?_)
        rw [if_pos (by rfl)]
        refine wp_store_mid _ _ _ rfl _ 0 #[.int .i64 vi, .int .i64 vc, .int .i64 vm, .int .i64 vt, .float .f64 vs] rfl rfl (HB9.out.there rfl) (by kernel_rfl) (by kernel_rfl) ?_
        have HB10 := zh (blk_setAll HB9.out (vs := [.int .i64 vi, .int .i64 vc, .int .i64 vm, .int .i64 vt, .float .f64 vs]) rfl)
        have HF10 := zh (HF5.out.trans' (frm_setCells V0.heap.size [.int .i64 vi, .int .i64 vc, .int .i64 vm, .int .i64 vt, .float .f64 vs] 0 w5) (fun k hk e => by omega))
        refine hK.out _ _ (HS.out _ HF10.out) (fun hHeld => ?_)
        clear hK K
        try simp only [Act.put, zT, zZ, zS]
        (refine ztn (v := ?_) (zo rfl) ?_; try simp only [Act.put, zT, zZ, zS])
        refine wpAnyH_done (by kernel_rfl) ?_ _
        go_roundw
        case rel => exact ⟨_, _, _, _, _, _, _, _, _, _, _, _, _, _, _, _, _, _, _, _, _, _, _, _, _, _, _, _, _, _, _, _, _, _, _, _, ⟨b8, x7, HI.out.fresh HF10.out, ⟨vi, vc, vm, vt, vs⟩, fb, zs, _, rfl, rfl, HCASE.out, HB10.out⟩, rfl⟩
        case measure =>
          have e1 := qLen_of (HI.out.m.pl.q)
          have e2 := qLen_of (HI.out.fresh HF10.out).m.pl.q
          rw [HI.out.m.q] at e1 e2
          have e3 := HL8.out
          refine Nat.lt_of_le_of_lt (Nat.le_of_eq e2) ?_
          omega
theorem ask2_any (w : World) (B : Nat) (hB : B ≤ w.heap.size) (b : BoM) (h : BookP w B b) (hw : b.wt) (c : CmA) (GA : Option Addr) (gc : Nat) (PA : Option Addr) (pc : Nat) (hL : CmAL w c GA gc PA pc) (ok : CmOk c) (hk : c.kind = 2) :
    Calls Tryz.prog 12 #[.pointer (some ⟨b.b, 0, none⟩), .agg (cmcel c GA gc PA pc).toArray] w fun e w' => ActPost w B b True e w' := by
  obtain ⟨cz, hcz⟩ : ∃ x, x = cmcel c GA gc PA pc := ⟨_, rfl⟩
  rw [← hcz]
  obtain ⟨W, hW⟩ : ∃ W, (w.alloc (.cells cz.toArray 36)).alloc (.cells (replyC 0) 29) = W := ⟨_, rfl⟩
  have HFW : Hid (Fresh w W) := zh (by rw [← hW]; exact ((Frm.refl _ w).alloc _).alloc _)
  have HBC : Hid (Blk W w.heap.size 36 (cmcel c GA gc PA pc).toArray) := zh (by rw [← hW, ← hcz]; exact (Blk.new _ _ _).alloc _)
  have HBR : Hid (Blk W (w.heap.size + 1) 29 (replyC 0)) := zh (by rw [← hW]; have := Blk.new (w.alloc (.cells cz.toArray 36)) 29 (replyC 0); rw [show (w.alloc (.cells cz.toArray 36)).heap.size = w.heap.size + 1 from Array.size_push _] at this; exact this)
  have HWS : Hid (W.heap.size = w.heap.size + 2) := zh (by rw [← hW]; exact (Array.size_push _).trans (congrArg (· + 1) (Array.size_push _)))
  have HFLW : Hid (wf64 c.fl ∧ wf64 c.cl ∧ wf64 c.mn) := zh ⟨hL.wf.2.1, hL.wf.2.2.1, hL.wf.2.2.2.1⟩
  have HAT := zh (at_any W B b (h.fresh HFW.out) c.fl HFLW.out.1)
  have HH := zh h
  have HW := zh hw
  have HL := zh hL
  have HOK := zh ok
  have HKD := zh hk
  have y2 : W.cell? ⟨w.heap.size, 2, none⟩ = some (.int .i64 c.fl) := (cmC HBC.out).2.2.1
  unfold replyC at hW
  clear h hw hL ok hcz hk
  go_in
  go_upto_region 1 with fail
  try rw [hW]
  clear hW
  go_wp2_with fail
  refine HAT.out.mono ?_
  rintro e V0 ⟨f0, ⟨x, hx, rfl⟩ | ⟨hx, rfl⟩⟩
  rotate_left 1
  · exact ⟨rfl, ActPost.no HH.out HW.out (HFW.out.trans f0) 2⟩
  obtain ⟨V1, hV1⟩ : ∃ V1, V0.alloc (.cells #[.pointer (some ⟨x.M.f, 0, none⟩), .pointer (some ⟨x.q, 0, none⟩)] 75) = V1 := ⟨_, rfl⟩
  have f1 : Fresh W V1 := by rw [← hV1]; exact f0.alloc _
  have HF1 : Hid (Fresh w V1) := zh (HFW.out.trans f1)
  have HBP1 : Hid (Blk V1 V0.heap.size 75 #[.pointer (some ⟨x.M.f, 0, none⟩), .pointer (some ⟨x.q, 0, none⟩)]) := zh (by rw [← hV1]; exact Blk.new _ _ _)
  have HBC1 := zh (HBC.out.frm f1 (fun f => f))
  have HBR1 := zh (HBR.out.frm f1 (fun f => f))
  have HSZ : Hid (w.heap.size + 2 ≤ V0.heap.size ∧ V1.heap.size = V0.heap.size + 1) := zh ⟨by have := f0.size; have := HWS.out; omega, by rw [← hV1]; exact Array.size_push _⟩
  have HX := zh hx
  obtain ⟨z0, _, z2, z3, z4, z5, z6, _, _, _, _⟩ := cmC HBC1.out
  rw [HKD.out] at z0
  have y0 : V1.cell? ⟨b.b, 0, none⟩ = some (.int .i64 b.tm) := (HH.out.fresh HF1.out).blk.cell 0
  have y1 : V1.cell? ⟨b.b, 1, none⟩ = some (.int .i64 b.nx) := (HH.out.fresh HF1.out).blk.cell 1
  clear f0 f1 hx HAT y2 HBC HBR HFW
  go_wp2_with fail
  try rw [hV1]
  clear hV1
  go_region
  obtain ⟨V2, hV2⟩ : ∃ V2, (V1.alloc (.cells #[.int .i64 b.nx, .int .i64 c.fl, .int .i64 c.cl, .int .i64 c.mn, .int .i64 1, .int .i64 c.tm] 84)).drew = V2 := ⟨_, rfl⟩
  have f2 : Fresh V1 V2 := by rw [← hV2]; exact ((Frm.refl _ _).alloc _).drew
  have HF2 : Hid (Fresh w V2) := zh (HF1.out.trans f2)
  have HAB : Hid (AskB V2 w.heap.size c GA gc PA pc V0.heap.size x.M.f x.q V1.heap.size #[.int .i64 b.nx, .int .i64 c.fl, .int .i64 c.cl, .int .i64 c.mn, .int .i64 1, .int .i64 c.tm]) := zh ⟨HBC1.out.frm f2 (fun f => f), HBR1.out.frm f2 (fun f => f), HBP1.out.frm f2 (fun f => f), by rw [← hV2]; exact Blk.new V1 _ _, by have := HSZ.out; omega, by have := HSZ.out; omega⟩
  rw [hV2]
  have z0 : V2.cell? ⟨w.heap.size, 0, none⟩ = some (.int .i64 2) := by rw [← HKD.out]; exact (cmC HAB.out.c).1
  clear hV2 f2 HBC1 HBR1 HBP1 y0 y1 z2 z3 z4 z5 z6
  go_wp2_with fail
  have HS4 : Hid (V2.drew.cell? ⟨w.heap.size, 5, none⟩ = some (.int .i64 c.tm) ∧ V2.drew.cell? ⟨b.b, 0, none⟩ = some (.int .i64 b.tm)) := zh ⟨(cmC HAB.out.c).2.2.2.2.2.1, (HH.out.fresh HF2.out).blk.cell 0⟩
  by_cases ht : b.tm < c.tm
  rotate_left 1
  · have d4 : decide (b.tm < c.tm) = false := decide_eq_false ht
    refine wp_region_held_drew (S := fun w' => w'.cell? ⟨w.heap.size, 5, none⟩ = some (.int .i64 c.tm) ∧ w'.cell? ⟨b.b, 0, none⟩ = some (.int .i64 b.tm)) (by kernel_rfl) (HS4.out) (fun hHeld => ?_)
    iterate 7 ((first | refine ztn (v := ?_) (zo rfl) ?_ | refine ztz (v := ?_) (zo rfl) ?_); try simp only [Act.put, zT, zZ, zS])
    refine zr1 7 (zo rfl) (fun K hK => ?_)
    go_simp
    refine (need_no 1 _).mono ?_
    rintro e w3 ⟨rfl, hw3⟩
    replace hw3 := hw3.symm
    subst hw3
    exact ⟨rfl, ActPost.no HH.out HW.out HF2.out.drew 1⟩
  have d4 : decide (b.tm < c.tm) = true := decide_eq_true ht
  refine wp_region_held_drew (S := fun w' => w'.cell? ⟨w.heap.size, 5, none⟩ = some (.int .i64 c.tm) ∧ w'.cell? ⟨b.b, 0, none⟩ = some (.int .i64 b.tm)) (by kernel_rfl) (HS4.out) (fun hHeld => ?_)
  iterate 7 ((first | refine ztn (v := ?_) (zo rfl) ?_ | refine ztz (v := ?_) (zo rfl) ?_); try simp only [Act.put, zT, zZ, zS])
  refine zr1 7 (zo rfl) (fun K hK => ?_)
  go_simp
  refine (need_yes 1 _).mono ?_
  rintro e w3 ⟨rfl, hw3⟩
  replace hw3 := hw3.symm
  subst hw3
  refine hK.out _ _ (HS4.out) (fun hHeld => ?_)
  clear hK K
  try simp only [Act.put, zT, zZ, zS]
  refine wpAnyH_done (by kernel_rfl) ?_ _
  have HF3 : Hid (Fresh w V2.drew) := zh HF2.out.drew
  have HAB3 : Hid (AskB V2.drew w.heap.size c GA gc PA pc V0.heap.size x.M.f x.q V1.heap.size #[.int .i64 b.nx, .int .i64 c.fl, .int .i64 c.cl, .int .i64 c.mn, .int .i64 1, .int .i64 c.tm]) := zh (HAB.out.fresh (Frm.refl _ _).drew)
  obtain ⟨V3, hV3⟩ : ∃ V3, V2.drew = V3 := ⟨_, rfl⟩
  rw [hV3] at HF3 HAB3 ⊢
  clear HF2 HAB HS4 z0 hV3
  go_upto_region 7 with fail
  obtain ⟨ks, _, _, _, hlen⟩ := (HH.out.fresh HF3.out).bmv.len HH.out.kbK (t := 43) Tryz.underlying43
  have q3 : V3.cell? ⟨b.b, 3, none⟩ = some (.map (some b.bm)) := (HH.out.fresh HF3.out).blk.cell 3
  have q1 : V3.cell? ⟨b.b, 1, none⟩ = some (.int .i64 b.nx) := (HH.out.fresh HF3.out).blk.cell 1
  have z0 : V3.cell? ⟨w.heap.size, 0, none⟩ = some (.int .i64 2) := by rw [← HKD.out]; exact (cmC HAB3.out.c).1
  by_cases hl3 : ks.length < 300
  rotate_left 1
  · have d7 : decide ((ks.length : Int) < 300) = false := decide_eq_false (by omega)
    go_wp2_with fail
    refine (need_no 3 _).mono ?_
    rintro e w3 ⟨rfl, hw3⟩
    replace hw3 := hw3.symm
    subst hw3
    exact ⟨rfl, ActPost.no HH.out HW.out HF3.out 3⟩
  have d7 : decide ((ks.length : Int) < 300) = true := decide_eq_true (by omega)
  by_cases hn3 : b.nx < 28629151
  rotate_left 1
  · have d8 : decide (b.nx < 28629151) = false := decide_eq_false hn3
    go_wp2_with fail
    refine (need_no 3 _).mono ?_
    rintro e w3 ⟨rfl, hw3⟩
    replace hw3 := hw3.symm
    subst hw3
    exact ⟨rfl, ActPost.no HH.out HW.out HF3.out 3⟩
  have d8 : decide (b.nx < 28629151) = true := decide_eq_true hn3
  have HN3 := zh hn3
  go_wp2_with fail
  refine (need_yes 3 _).mono ?_
  rintro e w3 ⟨rfl, hw3⟩
  replace hw3 := hw3.symm
  subst hw3
  clear hlen d7 d8 hl3 hn3 q3 q1
  go_wp2_with fail
  have HS9 : Hid (∀ w', AskB w' w.heap.size c GA gc PA pc V0.heap.size x.M.f x.q V1.heap.size #[.int .i64 b.nx, .int .i64 c.fl, .int .i64 c.cl, .int .i64 c.mn, .int .i64 1, .int .i64 c.tm] → w'.cell? ⟨V0.heap.size, 0, none⟩ = some (.pointer (some ⟨x.M.f, 0, none⟩)) ∧ w'.cell? ⟨V1.heap.size, 0, none⟩ = some (.int .i64 b.nx) ∧ w'.cell? ⟨V1.heap.size, 2, none⟩ = some (.int .i64 c.cl) ∧ w'.cell? ⟨V1.heap.size, 3, none⟩ = some (.int .i64 c.mn)) := zh fun w' h => ⟨h.pl.cell 0, h.y.cell 0, h.y.cell 2, h.y.cell 3⟩
  have HBK3 : Hid (BookP V3.drew B b) := zh (HH.out.fresh HF3.out.drew)
  have HTK := zh (takeP_any V3.drew B (Nat.le_trans hB HF3.out.size) x.M (HBK3.out.pl _ x HX.out).1.f b.nx c.cl c.mn (by have := HH.out.nw; exact ⟨by omega, by omega⟩) HFLW.out.2.1 HFLW.out.2.2)
  refine wp_region_held_drew (S := fun w' => w'.cell? ⟨V0.heap.size, 0, none⟩ = some (.pointer (some ⟨x.M.f, 0, none⟩)) ∧ w'.cell? ⟨V1.heap.size, 0, none⟩ = some (.int .i64 b.nx) ∧ w'.cell? ⟨V1.heap.size, 2, none⟩ = some (.int .i64 c.cl) ∧ w'.cell? ⟨V1.heap.size, 3, none⟩ = some (.int .i64 c.mn)) (by kernel_rfl) (HS9.out _ (HAB3.out.fresh (Frm.refl _ _).drew)) (fun hHeld => ?_)
  iterate 14 ((first | refine ztn (v := ?_) (zo rfl) ?_ | refine ztz (v := ?_) (zo rfl) ?_); try simp only [Act.put, zT, zZ, zS])
  refine zr1 14 (zo rfl) (fun K hK => ?_)
  go_simp
  refine (HTK.out).mono ?_
  rintro e w6 ⟨k6, rfl, hs6⟩
  obtain ⟨x6, e61, e62, e63, st6⟩ := BStep.flight HBK3.out HX.out hs6
  have HST6 : Hid (BStep w B b w6 { b with P := updP b.P c.fl (some x6) }) := zh ((BStep.refl HH.out HF3.out.drew).trans st6)
  have HE6 : Hid (x6.ws = x.ws) := zh e61
  have HAB6 : Hid (AskB w6 w.heap.size c GA gc PA pc V0.heap.size x.M.f x.q V1.heap.size #[.int .i64 b.nx, .int .i64 c.fl, .int .i64 c.cl, .int .i64 c.mn, .int .i64 1, .int .i64 c.tm]) := zh ((HAB3.out.fresh (Frm.refl _ _).drew).frm st6.fr (fun j hj e => by have := HH.out.own_lt e; omega))
  have HWT6 := zh (BoM.wt_P HW.out HX.out e61)
  clear hs6 e61 e62 e63 st6
  refine hK.out _ _ (HS9.out _ HAB6.out) (fun hHeld => ?_)
  clear hK K
  try simp only [Act.put, zT, zZ, zS]
  refine zr1 15 (zo rfl) (fun K hK => ?_)
  by_cases hk6 : k6 = 0
  rotate_left 1
  · go_simp
    refine (must_no k6 hk6 _).mono ?_
    rintro e w3 ⟨rfl, hw3⟩
    replace hw3 := hw3.symm
    subst hw3
    exact ⟨rfl, ActPost.pan HST6.out HWT6.out (fun _ => FairB.of_P HX.out HE6.out rfl) k6⟩
  subst hk6
  go_simp
  refine (must_yes _).mono ?_
  rintro e w3 ⟨rfl, hw3⟩
  replace hw3 := hw3.symm
  subst hw3
  refine hK.out _ _ (HS9.out _ HAB6.out) (fun hHeld => ?_)
  clear hK K
  try simp only [Act.put, zT, zZ, zS]
  refine wpAnyH_done (by kernel_rfl) ?_ _
  clear HS9 HBK3 HTK HAB3 HF3 z0
  go_wp2_with fail
  have HNX : Hid (wf64 b.nx) := zh (by have := HH.out.nw; exact ⟨by omega, by omega⟩)
  have HS11 : Hid ((w6.drew.cell? ⟨b.b, 3, none⟩ = some (.map (some b.bm)) ∧ w6.drew.cell? ⟨V1.heap.size, 0, none⟩ = some (.int .i64 b.nx)) ∧ ∀ w7, Frm (fun j => j = b.bm) w6.drew w7 → w7.cell? ⟨b.b, 3, none⟩ = some (.map (some b.bm)) ∧ w7.cell? ⟨V1.heap.size, 0, none⟩ = some (.int .i64 b.nx)) := zh (by
    have hbk := (HST6.out.bk.fresh (Frm.refl (fun _ => False) w6).drew)
    have hy := (HAB6.out.fresh (Frm.refl (fun _ => False) w6).drew).y
    refine ⟨⟨hbk.blk.cell 3, hy.cell 0⟩, fun w7 F => ⟨(hbk.blk.frm F (fun e => hbk.bmv.not_cells hbk.blk e.symm)).cell 3, (hy.frm F (fun e => hbk.bmv.not_cells hy e.symm)).cell 0⟩⟩)
  refine wp_region_held_drew (S := fun w' => w'.cell? ⟨b.b, 3, none⟩ = some (.map (some b.bm)) ∧ w'.cell? ⟨V1.heap.size, 0, none⟩ = some (.int .i64 b.nx)) (by kernel_rfl) (HS11.out.1) (fun hHeld => ?_)
  iterate 9 ((first | refine ztn (v := ?_) (zo rfl) ?_ | refine ztz (v := ?_) (zo rfl) ?_); try simp only [Act.put, zT, zZ, zS])
  refine zr1 9 (zo rfl) (fun K hK => ?_)
  rw [if_pos (by rfl)]
  refine wp_putV _ _ _ _ rfl Tryz.underlying43 b.bm b.kv rfl (HST6.out.bk.bmv.fresh (Frm.refl (fun _ => False) w6).drew) HH.out.kbK b.nx (.pointer (some ⟨V1.heap.size, 0, none⟩)) rfl rfl HNX.out (fun w7 hm7 f7 => ?_)
  have HM7 := zh hm7
  have HF7 := zh f7
  clear hm7 f7
  refine hK.out _ _ (HS11.out.2 w7 HF7.out) (fun hHeld => ?_)
  clear hK K
  try simp only [Act.put, zT, zZ, zS]
  refine wpAnyH_done (by kernel_rfl) ?_ _
  have HAB7 : Hid (AskB w7 w.heap.size c GA gc PA pc V0.heap.size x.M.f x.q V1.heap.size #[.int .i64 b.nx, .int .i64 c.fl, .int .i64 c.cl, .int .i64 c.mn, .int .i64 1, .int .i64 c.tm]) := zh ((HAB6.out.fresh (Frm.refl (fun _ => False) w6).drew).frm HF7.out (fun j hj e => by have := HH.out.bmv.lt; omega))
  have HST8 : Hid (BStep w B b (w7.setCell ⟨b.b, 1, none⟩ (.int .i64 (b.nx + 1))) { b with P := updP b.P c.fl (some x6), K := updP b.K b.nx (some (⟨V1.heap.size, b.nx, c.fl, c.cl, c.mn, 1, c.tm⟩ : BkM)), nx := b.nx + 1 }) := zh
    ((HST6.out.fresh (Frm.refl (fun _ => False) w6).drew).addKN (⟨V1.heap.size, b.nx, c.fl, c.cl, c.mn, 1, c.tm⟩ : BkM) ⟨HAB7.out.y, by have := HSZ.out; dsimp only; omega, rfl, HH.out.nw.1, HFLW.out.1, HFLW.out.2.1, HFLW.out.2.2, ⟨by show (-9223372036854775808 : Int) ≤ 1; decide, by show (1 : Int) ≤ 9223372036854775807; decide⟩, HL.out.wf.2.2.2.2.1⟩ (by have := HSZ.out; dsimp only; omega) (fun i z hz e => by
      have h1 := (HH.out.bo i z hz).1.blk.lt
      have := HSZ.out
      dsimp only at e
      omega) ⟨x6, updP_same _ _ _⟩ HN3.out HM7.out HF7.out)
  have q1 : w7.cell? ⟨b.b, 1, none⟩ = some (.int .i64 b.nx) := by
    have hbk := (HST6.out.bk.fresh (Frm.refl (fun _ => False) w6).drew)
    exact (hbk.blk.frm HF7.out (fun e => hbk.bmv.not_cells hbk.blk e.symm)).cell 1
  have q2 : w7.frozen? ⟨b.b, 1, none⟩ = false := by
    have hbk := (HST6.out.bk.fresh (Frm.refl (fun _ => False) w6).drew)
    exact (hbk.blk.frm HF7.out (fun e => hbk.bmv.not_cells hbk.blk e.symm)).frozen _
  have HBR8 : Hid (Blk (w7.setCell ⟨b.b, 1, none⟩ (.int .i64 (b.nx + 1))) (w.heap.size + 1) 29 (replyC 0)) := zh (HAB7.out.r.frm ((Frm.refl (fun j => j = b.b) w7).setCell (p := ⟨b.b, 1, none⟩) (fun _ => rfl) _) (fun e => by have := HH.out.blk.lt; omega))
  have HBC8 : Hid (Blk (w7.setCell ⟨b.b, 1, none⟩ (.int .i64 (b.nx + 1))) w.heap.size 36 (cmcel c GA gc PA pc).toArray) := zh (HAB7.out.c.frm ((Frm.refl (fun j => j = b.b) w7).setCell (p := ⟨b.b, 1, none⟩) (fun _ => rfl) _) (fun e => by have := HH.out.blk.lt; omega))
  have hnw : b.nx + 1 ≤ 28629151 ∧ 1 ≤ b.nx := ⟨by have := HN3.out; omega, HH.out.nw.1⟩
  obtain ⟨V8, hV8⟩ : ∃ V8, w7.setCell ⟨b.b, 1, none⟩ (.int .i64 (b.nx + 1)) = V8 := ⟨_, rfl⟩
  rw [hV8] at HST8 HBR8 HBC8
  obtain ⟨b8, hb8⟩ : ∃ b8 : BoM, b8 = { b with P := updP b.P c.fl (some x6), K := updP b.K b.nx (some (⟨V1.heap.size, b.nx, c.fl, c.cl, c.mn, 1, c.tm⟩ : BkM)), nx := b.nx + 1 } := ⟨_, rfl⟩
  rw [← hb8] at HST8
  have HB8 := zh hb8
  have e8 : b8.b = b.b := by rw [hb8]
  have HK8 : Hid (b8.K b.nx = some (⟨V1.heap.size, b.nx, c.fl, c.cl, c.mn, 1, c.tm⟩ : BkM)) := zh (by rw [hb8]; exact updP_same _ _ _)
  have HP8 : Hid (b8.P c.fl = some x6) := zh (by rw [hb8]; exact updP_same _ _ _)
  have HWT8 : Hid b8.wt := zh (by rw [hb8]; exact BoM.wt_K (BoM.wt_P HW.out HX.out HE6.out) HH.out.nK _)
  clear hb8 HS11 HM7
  obtain ⟨z0, _, z2, _⟩ := cmC HBC8.out
  rw [HKD.out] at z0
  go_upto_region 13 with fail
  try rw [hV8]
  clear hV8 q1 q2 HAB7 HF7 HAB6 hnw
  go_wp2_with fail
  have HTO : Hid (Calls Tryz.prog 29 #[.pointer (some ⟨b.b, 0, none⟩), .pointer (some ⟨V1.heap.size, 0, none⟩)] V8 fun e w' => RepPost V8 e w') := zh (by rw [← e8]; exact told_any V8 B b8 HST8.out.bk b.nx (⟨V1.heap.size, b.nx, c.fl, c.cl, c.mn, 1, c.tm⟩ : BkM) HK8.out)
  have HFAIR : Hid (FairB b b8) := zh (by rw [HB8.out]; exact FairB.of_P HX.out HE6.out rfl)
  clear e8
  refine HTO.out.mono ?_
  rintro e w9 ⟨zs, hz, rfl, f9⟩
  have HBR9 := zh (HBR8.out.frm f9 (fun f => f))
  have HST9 := zh (HST8.out.fresh f9)
  have HWT9 := HWT8
  have HFAIR9 := HFAIR
  clear f9 HTO
  have HRZ := zh hz
  have HTHR : Hid (w9.there (w.heap.size + 1) 0 zs.toArray.size) := zh (HBR9.out.there (by have := hz.len; show _ = 9; simpa using this))
  have HINF := zh hz.info
  have HONE := zh hz.one
  clear hz
  go_wp2_with (refine wpList_store_mid rfl 29 (.tmp 4) (.tmp 131) rfl (w.heap.size + 1) 0 zs.toArray rfl rfl HTHR.out HINF.out HONE.out ?_)
  exact rep_done rfl rfl (blk_setAll HBR9.out (vs := zs) (by rw [HRZ.out.len]; rfl)) HRZ.out (ActPost.yes (HST9.out.box HBR9.out (by omega) (by decide) (by decide) (frm_setCells _ _ 0 _)) HWT9.out (fun _ => HFAIR9.out) HRZ.out)
end
end Go.Proofs.YtbeaoddjomdlcaaGreatDoor

/- Proved here, for the statement TopFairCardSaid: laws that its walk leans on. It holds with no condition. (Put together and shortened by a program out of many texts: To43, To53.) -/
import Derived.Test.YtbeaoddjomdlcaaGreatDoorZ29
set_option linter.unusedVariables false
set_option linter.unusedSimpArgs false
set_option maxRecDepth 100000
set_option maxHeartbeats 64000000
namespace Go.Proofs.YtbeaoddjomdlcaaGreatDoor
section
open Go.RowKit
open QueueM (Wt)
theorem open_any (w : World) (B : Nat) (hB : B ≤ w.heap.size) (b : BoM) (h : BookP w B b) (hw : b.wt) (c : CmA) (GA : Option Addr) (gc : Nat) (PA : Option Addr) (pc : Nat) (hL : CmAL w c GA gc PA pc) (ok : CmOk c) :
    Calls Tryz.prog 11 #[.pointer (some ⟨b.b, 0, none⟩), .agg (cmcel c GA gc PA pc).toArray] w fun e w' => ActPost w B b False e w' := by
  obtain ⟨cz, hcz⟩ : ∃ x, x = cmcel c GA gc PA pc := ⟨_, rfl⟩
  rw [← hcz]
  obtain ⟨W, hW⟩ : ∃ W, (w.alloc (.cells cz.toArray 36)).alloc (.cells (replyC 0) 29) = W := ⟨_, rfl⟩
  have HFW : Hid (Fresh w W) := zh (by rw [← hW]; exact ((Frm.refl _ w).alloc _).alloc _)
  have HBC : Hid (Blk W w.heap.size 36 (cmcel c GA gc PA pc).toArray) := zh (by rw [← hW, ← hcz]; exact (Blk.new _ _ _).alloc _)
  have HBR : Hid (Blk W (w.heap.size + 1) 29 (replyC 0)) := zh (by rw [← hW]; have := Blk.new (w.alloc (.cells cz.toArray 36)) 29 (replyC 0); rw [show (w.alloc (.cells cz.toArray 36)).heap.size = w.heap.size + 1 from Array.size_push _] at this; exact this)
  have HWS : Hid (W.heap.size = w.heap.size + 2) := zh (by rw [← hW]; exact (Array.size_push _).trans (congrArg (· + 1) (Array.size_push _)))
  have HFLW : Hid (wf64 c.fl) := zh hL.wf.2.1
  have HH := zh h
  have HW := zh hw
  have HL := zh hL
  have HOK := zh ok
  obtain ⟨β, hβ⟩ : ∃ β, (b.fv c.fl).isSome = β := ⟨_, rfl⟩
  have hpp : ∃ p0 p1 : Value, (b.fv c.fl).getD (.agg #[.pointer none, .pointer none]) = .agg #[p0, p1] ∧ p0.oneCell' = true ∧ p1.oneCell' = true := by
    cases hx : b.P c.fl with
    | none => rw [BoM.fv_none hx]; exact ⟨_, _, rfl, rfl, rfl⟩
    | some x => rw [BoM.fv_some hx]; exact ⟨_, _, rfl, rfl, rfl⟩
  obtain ⟨p0, p1, hp, hp0, hp1⟩ := hpp
  have HP0 := zh hp0
  have HP1 := zh hp1
  have HS1 : Hid (∀ w', Fresh W w' → w'.cell? ⟨b.b, 2, none⟩ = some (.map (some b.fm)) ∧ w'.cell? ⟨w.heap.size, 2, none⟩ = some (.int .i64 c.fl) ∧ (Instr.lookup 42 (.map (some b.fm)) (.int .i64 c.fl) true).run Tryz.prog w' = .ok (.tuple #[.agg #[p0, p1], .bool β]) w') := zh fun w' F => by
    have hq := HH.out.fresh (HFW.out.trans F)
    have hl := hq.fmv.ask (t := 42) Tryz.underlying42 (z := .agg #[.pointer none, .pointer none]) (fun _ => by kernel_rfl) (k := c.fl) HFLW.out
    rw [hp, hβ] at hl
    exact ⟨hq.blk.cell 2, (cmC (HBC.out.frm F (fun f => f))).2.2.1, hl⟩
  have HBETA := zh hβ
  unfold replyC at hW
  clear h hw hL ok hβ hp hp0 hp1 hcz
  go_in
  go_upto_region 1 with fail
  try rw [hW]
  clear hW
  refine wp_region_held_drew (S := fun w' => w'.cell? ⟨b.b, 2, none⟩ = some (.map (some b.fm)) ∧ w'.cell? ⟨w.heap.size, 2, none⟩ = some (.int .i64 c.fl) ∧ (Instr.lookup 42 (.map (some b.fm)) (.int .i64 c.fl) true).run Tryz.prog w' = .ok (.tuple #[.agg #[p0, p1], .bool β]) w') (by kernel_rfl) (HS1.out _ (Frm.refl (fun _ => False) W).drew) (fun hHeld => ?_)
  iterate 10 ((first | refine ztn (v := ?_) (zo rfl) ?_ | refine ztz (v := ?_) (zo rfl) ?_); try simp only [Act.put, zT, zZ, zS])
  refine zr1 10 (zo rfl) (fun K hK => ?_)
  go_simp
  have HB9 := zh (Blk.new W.drew 75 #[.pointer none, .pointer none])
  have HF9 : Hid (Fresh W (W.drew.alloc (.cells #[.pointer none, .pointer none] 75))) := zh (((Frm.refl (fun _ => False) W).drew).alloc _)
  refine hK.out _ _ (HS1.out _ HF9.out) (fun hHeld => ?_)
  clear hK K
  try simp only [Act.put, zT, zZ, zS]
  refine zr1 11 (zo rfl) (fun K hK => ?_)
  rw [if_pos (by rfl)]
  refine wp_store_mid _ _ _ rfl _ 0 #[p0, p1] rfl rfl (HB9.out.there rfl) (by kernel_rfl) (by simp [HP0.out, HP1.out]) ?_
  have HB10 := zh (blk_setAll HB9.out (vs := [p0, p1]) rfl)
  have HF10 := zh (HF9.out.trans' (frm_setCells W.heap.size [p0, p1] 0 (W.drew.alloc (.cells #[.pointer none, .pointer none] 75))) (fun k hk e => by omega))
  refine hK.out _ _ (HS1.out _ HF10.out) (fun hHeld => ?_)
  clear hK K
  try simp only [Act.put, zT, zZ, zS]
  (refine ztn (v := ?_) (zo rfl) ?_; try simp only [Act.put, zT, zZ, zS])
  refine wpAnyH_done (by kernel_rfl) ?_ _
  obtain ⟨V, hV⟩ : ∃ V, (W.drew.alloc (.cells #[.pointer none, .pointer none] 75)).setCells W.heap.size 0 [p0, p1] = V := ⟨_, rfl⟩
  have hf2 := HF10.out
  rw [hV] at hf2
  have HF2 : Hid (Fresh w V) := zh (HFW.out.trans hf2)
  have HBC2 := zh (HBC.out.frm hf2 (fun f => f))
  have HBR2 := zh (HBR.out.frm hf2 (fun f => f))
  have HSZ : Hid (w.heap.size + 2 ≤ V.heap.size) := zh (by have := hf2.size; have := HWS.out; omega)
  rw [show (W.alloc (.cells #[.pointer none, .pointer none] 75)).drew.setCells W.heap.size 0 [p0, p1] = V from hV]
  clear HF9 HB9 HF10 HB10 hf2 HS1 HBC HBR hV
  cases β with
  | true =>
    go_wp2_with fail
    refine (need_no 7 _).mono ?_
    rintro e w3 ⟨rfl, hw3⟩
    replace hw3 := hw3.symm
    subst hw3
    exact ⟨rfl, ActPost.no HH.out HW.out HF2.out 7⟩
  | false =>
    have hn : b.P c.fl = none := by
      have := HBETA.out
      unfold BoM.fv at this
      rw [Option.isSome_map] at this
      simpa using this
    have HN := zh hn
    obtain ⟨ks, hnd, hks, hkl, hlen⟩ := (HH.out.fresh HF2.out).fmv.len HH.out.kbP (t := 42) Tryz.underlying42
    have q2 : V.cell? ⟨b.b, 2, none⟩ = some (.map (some b.fm)) := (HH.out.fresh HF2.out).blk.cell 2
    obtain ⟨_, _, q3, _, _, _, _, _, q4, q5, q6⟩ := cmC HBC2.out
    have HK := zh hks
    clear hnd hks hn
    by_cases hl8 : ks.length < 8
    · have d8 : decide ((ks.length : Int) < 8) = true := decide_eq_true (by omega)
      have HL8 := zh hl8
      have HNEW : Hid (Calls Tryz.prog 21 #[.int .i64 c.fl, .agg #[.int .i64 c.rows, .slice GA c.gs.length gc], .slice PA c.ps.length pc] V fun e w' => NewPost V B c.fl e w') := zh (by
        have hl := HL.out.fresh HF2.out
        exact new_flight_any V B (Nat.le_trans hB HF2.out.size) c.fl c.rows hl.wf.2.2.2.2.2 GA gc c.gs hl.g HOK.out.gs hl.gl hl.gm PA pc c.ps hl.ps hl.p hl.pl hl.pm)
      go_wp2_with fail
      refine (need_yes 7 _).mono ?_
      rintro e w3 ⟨rfl, hw3⟩
      replace hw3 := hw3.symm
      subst hw3
      go_wp2_with fail
      refine (need_yes 3 _).mono ?_
      rintro e w3 ⟨rfl, hw3⟩
      replace hw3 := hw3.symm
      subst hw3
      go_wp2_with fail
      refine HNEW.out.mono ?_
      rintro e V3 ⟨f3, hn3⟩
      have HF3 : Hid (Fresh w V3) := zh (HF2.out.trans f3)
      have HSZ3 : Hid (V.heap.size ≤ V3.heap.size) := zh f3.size
      have HBC3 := zh (HBC2.out.frm f3 (fun f => f))
      have HBR3 := zh (HBR2.out.frm f3 (fun f => f))
      clear f3 HNEW hlen q2 q3 q4 q5 q6 HBC2 HBR2 hl8 d8 hkl
      rcases hn3 with ⟨M, rfl, hM, hown, hnum, hn1, hn2⟩ | rfl
      · have HM := zh hM
        have HOWN := zh hown
        have HS6 : Hid (∀ w', Fresh V3 w' → w'.cell? ⟨b.b, 2, none⟩ = some (.map (some b.fm)) ∧ w'.cell? ⟨w.heap.size, 2, none⟩ = some (.int .i64 c.fl)) := zh fun w' F => ⟨(HH.out.fresh (HF3.out.trans F)).blk.cell 2, (cmC (HBC3.out.frm F (fun f => f))).2.2.1⟩
        have HADD : Hid (∀ w4 w5, Fresh V3 w4 → IsQ w4 V3.heap.size V3.heap.size (.slice none 0 0) [] → MapV w5 b.fm (upd b.fv c.fl (some (.agg #[.pointer (some ⟨M.f, 0, none⟩), .pointer (some ⟨V3.heap.size, 0, none⟩)]))) → Frm (fun j => j = b.fm) w4 w5 →
            BStep w B b w5 { b with P := updP b.P c.fl (some ⟨M, V3.heap.size, .slice none 0 0, []⟩) } ∧ w5.cell? ⟨b.b, 2, none⟩ = some (.map (some b.fm)) ∧ w5.cell? ⟨w.heap.size, 2, none⟩ = some (.int .i64 c.fl)) := zh fun w4 w5 F hq hm f5 => by
          have hb := Nat.le_trans hB HF3.out.size
          have hq' : IsQ w4 B V3.heap.size (.slice none 0 0) [] := ⟨hq.blk, hb, Sl.nil _ _ _ _⟩
          have hs := BStep.addP HH.out HN.out ⟨M, V3.heap.size, .slice none 0 0, []⟩ (w' := w4) (w2 := w5) ⟨⟨by omega, by omega⟩, HM.out.fresh F, hq', QueueM.Good.nil, fun x hx => by cases hx⟩ (HF3.out.trans F) (fun j hj => by
            rcases hj with hj | rfl | hj
            · exact Nat.le_trans HF2.out.size (HOWN.out j hj)
            · exact HF3.out.size
            · cases hj) hm f5 (few_add HH.out _ HK.out HL8.out)
          refine ⟨hs, ?_, (cmC ((HBC3.out.frm F (fun f => f)).frm f5 (fun e => ?_))).2.2.1⟩
          · have := hs.bk.blk.cell 2
            exact this
          · have := HH.out.fmv.lt
            omega
        clear hM hown hnum hn1 hn2
        go_wp2_with fail
        refine (must_yes _).mono ?_
        rintro e w3 ⟨rfl, hw3⟩
        replace hw3 := hw3.symm
        subst hw3
        go_wp2_with fail
        refine wp_region_held_drew (S := fun w' => w'.cell? ⟨b.b, 2, none⟩ = some (.map (some b.fm)) ∧ w'.cell? ⟨w.heap.size, 2, none⟩ = some (.int .i64 c.fl)) (by kernel_rfl) (HS6.out _ (Frm.refl _ _).drew) (fun hHeld => ?_)
        iterate 7 ((first | refine ztn (v := ?_) (zo rfl) ?_ | refine ztz (v := ?_) (zo rfl) ?_); try simp only [Act.put, zT, zZ, zS])
        refine zr1 7 (zo rfl) (fun K hK => ?_)
        go_simp
        refine (new_any V3.drew).mono ?_
        rintro e w4 ⟨rfl, hq, f4⟩
        have HQ := zh hq
        have HF4 : Hid (Fresh V3 w4) := zh ((Frm.refl (fun _ => False) V3).drew.trans f4)
        clear hq f4
        refine hK.out _ _ (HS6.out _ HF4.out) (fun hHeld => ?_)
        clear hK K
        try simp only [Act.put, zT, zZ, zS]
        (refine ztn (v := ?_) (zo rfl) ?_; try simp only [Act.put, zT, zZ, zS])
        refine zr1 9 (zo rfl) (fun K hK => ?_)
        rw [if_pos (by rfl)]
        refine wp_putV _ _ _ _ rfl Tryz.underlying42 b.fm b.fv rfl (HH.out.fresh (HF3.out.trans HF4.out)).fmv HH.out.kbP c.fl (.agg #[.pointer (some ⟨M.f, 0, none⟩), .pointer (some ⟨V3.heap.size, 0, none⟩)]) rfl rfl HFLW.out (fun w5 hm5 f5 => ?_)
        have HST := zh (HADD.out w4 w5 HF4.out HQ.out hm5 f5)
        have HF5 := zh f5
        clear hm5 f5
        refine hK.out _ _ (HST.out.2) (fun hHeld => ?_)
        clear hK K
        try simp only [Act.put, zT, zZ, zS]
        refine wpAnyH_done (by kernel_rfl) ?_ _
        have HBR5 : Hid (Blk w5 (w.heap.size + 1) 29 (replyC 0)) := zh (by
          have hb5 := HST.out.1
          exact (HBR3.out.frm HF4.out (fun f => f)).frm HF5.out (fun e => by have := HH.out.fmv.lt; omega))
        have HLF : Hid (∀ w', Fresh w5 w' → Calls Tryz.prog 24 #[.pointer (some ⟨M.f, 0, none⟩)] w' fun e w'' => PLeftPost w' M.ls.length e w'') := zh fun w' F => pLeft_any w' B M ((HST.out.1.bk.fresh F).pl c.fl _ (updP_same _ _ _)).1.f
        have HBC5 : Hid (Blk w5 w.heap.size 36 (cmcel c GA gc PA pc).toArray) := zh ((HBC3.out.frm HF4.out (fun f => f)).frm HF5.out (fun e => by have := HH.out.fmv.lt; omega))
        have HS7 : Hid (∀ w', Fresh w5 w' → w'.cell? ⟨w.heap.size, 2, none⟩ = some (.int .i64 c.fl)) := zh fun w' F => (cmC (HBC5.out.frm F (fun f => f))).2.2.1
        have HS8 : Hid (∀ w6 w', Fresh w5 w6 → Frm (fun k => w.heap.size + 1 = k) w6 w' → w'.cell? ⟨w.heap.size, 2, none⟩ = some (.int .i64 c.fl)) := zh fun w6 w' F G => (cmC ((HBC5.out.frm F (fun f => f)).frm G (by omega))).2.2.1
        have HWT : Hid (({ b with P := updP b.P c.fl (some ⟨M, V3.heap.size, .slice none 0 0, []⟩) } : BoM).wt) := zh fun k x hx u hu => by
          dsimp only at hx
          by_cases e : k = c.fl
          · subst e
            rw [updP_same] at hx
            injection hx with hx
            subst hx
            cases hu
          · rw [updP_other _ _ e] at hx
            exact HW.out k x hx u hu
        have HST5 := zh HST.out.1
        clear HST HS6 HADD HBC3 HBR3 HM HOWN
        go_wp2_with fail
        refine wp_region_held_drew (S := fun w' => w'.cell? ⟨w.heap.size, 2, none⟩ = some (.int .i64 c.fl)) (by kernel_rfl) (HS7.out _ (Frm.refl _ _).drew) (fun hHeld => ?_)
        iterate 3 ((first | refine ztn (v := ?_) (zo rfl) ?_ | refine ztz (v := ?_) (zo rfl) ?_); try simp only [Act.put, zT, zZ, zS])
        refine zr1 3 (zo rfl) (fun K hK => ?_)
        go_simp
        refine (HLF.out w5.drew (Frm.refl _ _).drew).mono ?_
        rintro e w6 ⟨v4, zs, rfl, hzl, s4, f4⟩
        clear hzl
        obtain ⟨A4, c4, rfl, _, _, _⟩ := s4.shape
        have HF6 : Hid (Fresh w5 w6) := zh ((Frm.refl (fun _ => False) w5).drew.trans f4)
        clear s4 f4
        have HB6 := zh (HBR5.out.frm HF6.out (fun f => f))
        refine hK.out _ _ (HS7.out _ HF6.out) (fun hHeld => ?_)
        clear hK K
        try simp only [Act.put, zT, zZ, zS]
        (refine ztn (v := ?_) (zo rfl) ?_; try simp only [Act.put, zT, zZ, zS])
        refine zr1 5 (zo rfl) (fun K hK => ?_)
        rw [if_pos (by rfl)]
        refine wp_store_mid _ _ _ rfl _ 0 #[.int .i64 0, .string ⟨#[]⟩, .int .i64 0, .int .i64 c.fl, .int .i64 0, .int .i64 0, .int .i64 0, .slice A4 zs.length c4, .slice none 0 0] rfl rfl (HB6.out.there rfl) (by kernel_rfl) (by kernel_rfl) ?_
        have HB7 := zh (blk_setAll HB6.out (vs := [.int .i64 0, .string ⟨#[]⟩, .int .i64 0, .int .i64 c.fl, .int .i64 0, .int .i64 0, .int .i64 0, .slice A4 zs.length c4, .slice none 0 0]) rfl)
        have HF7 := zh (frm_setCells (w.heap.size + 1) [.int .i64 0, .string ⟨#[]⟩, .int .i64 0, .int .i64 c.fl, .int .i64 0, .int .i64 0, .int .i64 0, .slice A4 zs.length c4, .slice none 0 0] 0 w6)
        refine hK.out _ _ (HS8.out _ _ HF6.out HF7.out) (fun hHeld => ?_)
        clear hK K
        try simp only [Act.put, zT, zZ, zS]
        refine wpAnyH_done (by kernel_rfl) ?_ _
        have HE : Hid (BStep w B b (w6.setCells (w.heap.size + 1) 0 [.int .i64 0, .string ⟨#[]⟩, .int .i64 0, .int .i64 c.fl, .int .i64 0, .int .i64 0, .int .i64 0, .slice A4 zs.length c4, .slice none 0 0]) { b with P := updP b.P c.fl (some ⟨M, V3.heap.size, .slice none 0 0, []⟩) }) := zh ((HST5.out.fresh HF6.out).box HB6.out (by omega) (by decide) (by decide) HF7.out)
        obtain ⟨zs', hz'⟩ : ∃ zs' : List Value, zs' = [.int .i64 0, .string ⟨#[]⟩, .int .i64 0, .int .i64 c.fl, .int .i64 0, .int .i64 0, .int .i64 0, .slice A4 zs.length c4, .slice none 0 0] := ⟨_, rfl⟩
        have HRZ : Hid (RepZ zs') := zh (by rw [hz']; exact ⟨rfl, by kernel_rfl⟩)
        have hb6 := HB7.out
        have hf6 := HE.out
        rw [← hz'] at hb6 hf6 ⊢
        have HB8 := zh hb6
        have HE8 := zh hf6
        clear hz' hb6 hf6 HB7 HE HF7
        go_wp2_with fail
        exact rep_done rfl rfl HB8.out HRZ.out (ActPost.yes HE8.out HWT.out (fun f => f.elim) HRZ.out)
      · go_wp2_with fail
        refine (must_no 1 (by decide) _).mono ?_
        rintro e w3 ⟨rfl, hw3⟩
        replace hw3 := hw3.symm
        subst hw3
        exact ⟨rfl, ActPost.no HH.out HW.out HF3.out 1⟩
    · have d8 : decide ((ks.length : Int) < 8) = false := decide_eq_false (by omega)
      go_wp2_with fail
      refine (need_yes 7 _).mono ?_
      rintro e w3 ⟨rfl, hw3⟩
      replace hw3 := hw3.symm
      subst hw3
      go_wp2_with fail
      refine (need_no 3 _).mono ?_
      rintro e w3 ⟨rfl, hw3⟩
      replace hw3 := hw3.symm
      subst hw3
      exact ⟨rfl, ActPost.no HH.out HW.out HF2.out 3⟩
theorem cmd_info (c : CmA) (GA : Option Addr) (gc : Nat) (PA : Option Addr) (pc : Nat) : (Tryz.prog.info? 36).map (·.size) = some (cmcel c GA gc PA pc).length :=
  (show (Tryz.prog.info? 36).map (·.size) = some 11 by kernel_rfl)
theorem show_any (w : World) (B : Nat) (hB : B ≤ w.heap.size) (b : BoM) (h : BookP w B b) (c : CmA) (GA : Option Addr) (gc : Nat) (PA : Option Addr) (pc : Nat) (hL : CmAL w c GA gc PA pc) (ok : CmOk c) (hk : c.kind = 9) :
    Calls Tryz.prog 14 #[.pointer (some ⟨b.b, 0, none⟩), .agg (cmcel c GA gc PA pc).toArray] w fun e w' => RepPost w e w' := by
  obtain ⟨cz, hcz⟩ : ∃ x, x = cmcel c GA gc PA pc := ⟨_, rfl⟩
  have HCZ := zh hcz
  have HR : Hid (∀ w', Fresh w w' → Calls Tryz.prog 10 #[.agg cz.toArray] w' fun e w'' => RightAPost w' (CmOk c) e w'') := zh (fun w' F => by rw [hcz]; exact pRight_all w' c GA gc PA pc (hL.fresh F))
  have HINF : Hid ((Tryz.prog.info? 36).map (·.size) = some cz.length) := zh (by rw [hcz]; exact cmd_info c GA gc PA pc)
  rw [← hcz]
  obtain ⟨W, hW⟩ : ∃ W, (w.alloc (.cells cz.toArray 36)).alloc (.cells (replyC 0) 29) = W := ⟨_, rfl⟩
  have HFW : Hid (Fresh w W) := zh (by rw [← hW]; exact ((Frm.refl _ w).alloc _).alloc _)
  have hbc : Blk W w.heap.size 36 cz.toArray := by rw [← hW]; exact (Blk.new _ _ _).alloc _
  have HRG : Hid (∀ w', Blk w' w.heap.size 36 (cmcel c GA gc PA pc).toArray → w'.rangeAt w.heap.size 0 cz) := zh (fun w' hbc j u hu => by rw [hbc.cell, Nat.zero_add, ← hcz]; simpa using hu)
  have HBC : Hid (Blk W w.heap.size 36 (cmcel c GA gc PA pc).toArray) := zh (by rw [← hcz]; exact hbc)
  have HBR : Hid (Blk W (w.heap.size + 1) 29 (replyC 0)) := zh (by rw [← hW]; have := Blk.new (w.alloc (.cells cz.toArray 36)) 29 (replyC 0); rw [show (w.alloc (.cells cz.toArray 36)).heap.size = w.heap.size + 1 from Array.size_push _] at this; exact this)
  have HWS : Hid (W.heap.size = w.heap.size + 2) := zh (by rw [← hW]; exact (Array.size_push _).trans (congrArg (· + 1) (Array.size_push _)))
  have HRW : Hid (W.rangeAt w.heap.size 0 cz) := zh (HRG.out W HBC.out)
  have HH := zh h
  have HL := zh hL
  have HOK := zh ok
  have HKD := zh hk
  unfold replyC at hW
  clear h hL ok hcz hbc hk
  go_enter_defers Tryz.func14, Tryz.ntmps14
  go_upto_region 1 with fail
  try rw [hW]
  clear hW
  go_wp2_with (refine wpList_load_mid rfl 36 (.tmp 3) rfl w.heap.size 0 rfl cz _ HRW.out Tryz.underlying36 rfl HINF.out ?_)
  refine (HR.out W HFW.out).mono ?_
  rintro e V ⟨β, rfl, hβ, fV⟩
  have HFV : Hid (Fresh w V) := zh (HFW.out.trans fV)
  have HBC1 := zh (HBC.out.frm fV (fun f => f))
  have HBR1 := zh (HBR.out.frm fV (fun f => f))
  have z0 : V.cell? ⟨w.heap.size, 0, none⟩ = some (.int .i64 9) := by rw [← HKD.out]; exact (cmC HBC1.out).1
  have z1 : V.cell? ⟨w.heap.size, 1, none⟩ = some (.string c.pnr) := (cmC HBC1.out).2.1
  have z2 : V.cell? ⟨w.heap.size, 2, none⟩ = some (.int .i64 c.fl) := (cmC HBC1.out).2.2.1
  have HNO : Hid (∀ w' k w'', Fresh V w' → Frm (fun j => j = w.heap.size + 1) w' w'' → RepPost w (.returned (.agg (replyC k))) w'') := zh fun w' k w'' F G => ⟨(replyC k).toList, replyC_z k, rfl, (HFV.out.trans F).trans' G (fun i hi e => by omega)⟩
  have HBV := zh (HH.out.fresh HFV.out)
  clear hβ fV HR HRG HINF HBC HBR
  cases β with
  | false =>
    go_wp2_with fail
    refine (need_no 1 _).mono ?_
    rintro e w3 ⟨rfl, hw3⟩
    replace hw3 := hw3.symm
    subst hw3
    go_wp2_with fail
    exact leave_no rfl rfl HBR1.out rfl 1 (fun w' F => HNO.out V 1 w' (Frm.refl _ _) F)
  | true =>
    go_wp2_with fail
    refine (need_yes 1 _).mono ?_
    rintro e w3 ⟨rfl, hw3⟩
    replace hw3 := hw3.symm
    subst hw3
    rcases Bool.eq_false_or_eq_true c.pnr.toList.isEmpty with hp | hp
    · have d1 : c.pnr.toList.isEmpty = true := hp
      have HAT := zh (at_any V B b HBV.out c.fl HL.out.wf.2.1)
      clear hp
      go_wp2_with fail
      refine HAT.out.mono ?_
      rintro e V0 ⟨f0, ⟨x, hx, rfl⟩ | ⟨hx, rfl⟩⟩
      rotate_left 1
      · have HBR2 := zh (HBR1.out.frm f0 (fun f => f))
        have HF0 := zh f0
        clear f0
        go_wp2_with fail
        exact leave_no rfl rfl HBR2.out rfl 2 (fun w' F => HNO.out V0 2 w' HF0.out F)
      obtain ⟨V1, hV1⟩ : ∃ V1, V0.alloc (.cells #[.pointer (some ⟨x.M.f, 0, none⟩), .pointer (some ⟨x.q, 0, none⟩)] 75) = V1 := ⟨_, rfl⟩
      have f1 : Fresh V V1 := by rw [← hV1]; exact f0.alloc _
      have HF1 := zh f1
      have HBP1 : Hid (Blk V1 V0.heap.size 75 #[.pointer (some ⟨x.M.f, 0, none⟩), .pointer (some ⟨x.q, 0, none⟩)]) := zh (by rw [← hV1]; exact Blk.new _ _ _)
      have HSZ : Hid (w.heap.size + 1 < V0.heap.size) := zh (by have := f0.size; have := HBR1.out.lt; omega)
      have HX := zh hx
      have HBK1 := zh (HBV.out.fresh HF1.out)
      have HS6 : Hid (∀ w', Fresh V1 w' → w'.cell? ⟨w.heap.size, 2, none⟩ = some (.int .i64 c.fl) ∧ w'.cell? ⟨V0.heap.size, 0, none⟩ = some (.pointer (some ⟨x.M.f, 0, none⟩)) ∧ w'.cell? ⟨V0.heap.size, 1, none⟩ = some (.pointer (some ⟨x.q, 0, none⟩))) := zh fun w' F => ⟨(cmC (HBC1.out.frm (HF1.out.trans F) (fun f => f))).2.2.1, (HBP1.out.frm F (fun f => f)).cell 0, (HBP1.out.frm F (fun f => f)).cell 1⟩
      have HLF : Hid (∀ w', Fresh V1 w' → Calls Tryz.prog 24 #[.pointer (some ⟨x.M.f, 0, none⟩)] w' fun e w'' => PLeftPost w' x.M.ls.length e w'') := zh fun w' F => pLeft_any w' B x.M ((HBK1.out.pl _ x HX.out).1.f.fresh F)
      have HAL : Hid (∀ w', Fresh V1 w' → Calls Tryz.prog 34 #[.pointer (some ⟨x.q, 0, none⟩)] w' fun e w'' => AllPost w' x.ws e w'') := zh fun w' F => all_any w' B x.q x.v x.ws ((HBK1.out.pl _ x HX.out).1.q.fresh F) (by have := (HBK1.out.pl _ x HX.out).1.g.few; omega)
      have HS7 : Hid (∀ w6 w', Fresh V1 w6 → Frm (fun k => w.heap.size + 1 = k) w6 w' → w'.cell? ⟨w.heap.size, 2, none⟩ = some (.int .i64 c.fl) ∧ w'.cell? ⟨V0.heap.size, 0, none⟩ = some (.pointer (some ⟨x.M.f, 0, none⟩)) ∧ w'.cell? ⟨V0.heap.size, 1, none⟩ = some (.pointer (some ⟨x.q, 0, none⟩))) := zh fun w6 w' F G => ⟨(cmC ((HBC1.out.frm (HF1.out.trans F) (fun f => f)).frm G (by omega))).2.2.1, ((HBP1.out.frm F (fun f => f)).frm G (by have := HSZ.out; omega)).cell 0, ((HBP1.out.frm F (fun f => f)).frm G (by have := HSZ.out; omega)).cell 1⟩
      clear f0 f1 hx HAT z0 z1 z2
      go_upto_region 6 with fail
      try rw [hV1]
      clear hV1
      go_cut [4] from 5 (fun v4 wx => v4 = .pointer (some ⟨w.heap.size + 1, 0, none⟩) ∧ ∃ zs', RepZ zs' ∧ Blk wx (w.heap.size + 1) 29 zs'.toArray ∧ Fresh w wx)
      case first =>
        refine wp_region_held_drew (S := fun w' => w'.cell? ⟨w.heap.size, 2, none⟩ = some (.int .i64 c.fl) ∧ w'.cell? ⟨V0.heap.size, 0, none⟩ = some (.pointer (some ⟨x.M.f, 0, none⟩)) ∧ w'.cell? ⟨V0.heap.size, 1, none⟩ = some (.pointer (some ⟨x.q, 0, none⟩))) (by kernel_rfl) (HS6.out _ (Frm.refl _ _).drew) (fun hHeld => ?_)
        refine wpAnyH_take (i := 0) (v := ?_) (zo rfl) (by kernel_rfl) (by kernel_rfl) (by kernel_rfl) (fun _ _ _ h => by first | exact h | cases h.1 | exact panic_put rfl (by decide) h) (Or.inl ⟨by rfl, ?_⟩) (by assumption) ?_
        rotate_left 1
        (intro w hSw; (try dsimp only at hSw); go_simp; try with_reducible rfl)
        try simp only [Act.put, zT, zZ, zS]
        refine wpAnyH_take (i := 1) (v := ?_) (zo rfl) (by kernel_rfl) (by kernel_rfl) (by kernel_rfl) (fun _ _ _ h => by first | exact h | cases h.1 | exact panic_put rfl (by decide) h) (Or.inl ⟨by rfl, ?_⟩) (by assumption) ?_
        rotate_left 1
        (intro w hSw; (try dsimp only at hSw); go_simp; try with_reducible rfl)
        try simp only [Act.put, zT, zZ, zS]
        refine wpAnyH_take (i := 2) (v := ?_) (zo rfl) (by kernel_rfl) (by kernel_rfl) (by kernel_rfl) (fun _ _ _ h => by first | exact h | cases h.1 | exact panic_put rfl (by decide) h) (Or.inl ⟨by rfl, ?_⟩) (by assumption) ?_
        rotate_left 1
        (intro w hSw; (try dsimp only at hSw); go_simp; try with_reducible rfl)
        try simp only [Act.put, zT, zZ, zS]
        refine wpAnyH_take (i := 3) (v := ?_) (zo rfl) (by kernel_rfl) (by kernel_rfl) (by kernel_rfl) (fun _ _ _ h => by first | exact h | cases h.1 | exact panic_put rfl (by decide) h) (Or.inl ⟨by rfl, ?_⟩) (by assumption) ?_
        rotate_left 1
        (intro w hSw; (try dsimp only at hSw); go_simp; try with_reducible rfl)
        try simp only [Act.put, zT, zZ, zS]
        refine wpAnyH_take (i := 5) (v := ?_) (zo rfl) (by kernel_rfl) (by kernel_rfl) (by kernel_rfl) (fun _ _ _ h => by first | exact h | cases h.1 | exact panic_put rfl (by decide) h) (Or.inl ⟨by rfl, ?_⟩) (by assumption) ?_
        rotate_left 1
        (intro w hSw; (try dsimp only at hSw); go_simp; try with_reducible rfl)
        try simp only [Act.put, zT, zZ, zS]
        refine wpAnyH_take (i := 6) (v := ?_) (zo rfl) (by kernel_rfl) (by kernel_rfl) (by kernel_rfl) (fun _ _ _ h => by first | exact h | cases h.1 | exact panic_put rfl (by decide) h) (Or.inl ⟨by rfl, ?_⟩) (by assumption) ?_
        rotate_left 1
        (intro w hSw; (try dsimp only at hSw); go_simp; try with_reducible rfl)
        try simp only [Act.put, zT, zZ, zS]
        refine zr1 4 (zo rfl) (fun K hK => ?_)
        go_simp
        refine (HLF.out V1.drew (Frm.refl _ _).drew).mono ?_
        rintro e w5 ⟨v4, zs, rfl, hzl, s4, f4⟩
        clear hzl
        obtain ⟨A4, c4, rfl, _, _, _⟩ := s4.shape
        have HF5 : Hid (Fresh V1 w5) := zh ((Frm.refl (fun _ => False) V1).drew.trans f4)
        clear s4 f4
        refine hK.out _ _ (HS6.out _ HF5.out) (fun hHeld => ?_)
        clear hK K
        try simp only [Act.put, zT, zZ, zS]
        refine zr1 7 (zo rfl) (fun K hK => ?_)
        go_simp
        refine (HAL.out w5 HF5.out).mono ?_
        rintro e w6 ⟨v5, rfl, s5, f5⟩
        obtain ⟨A5, c5, rfl, _, _, _⟩ := s5.shape
        have HF6 : Hid (Fresh V1 w6) := zh (HF5.out.trans f5)
        clear s5 f5
        have HB6 := zh ((HBR1.out.frm HF1.out (fun f => f)).frm HF6.out (fun f => f))
        refine hK.out _ _ (HS6.out _ HF6.out) (fun hHeld => ?_)
        clear hK K
        try simp only [Act.put, zT, zZ, zS]
        refine wpAnyH_take (i := 8) (v := ?_) (zo rfl) (by kernel_rfl) (by kernel_rfl) (by kernel_rfl) (fun _ _ _ h => by first | exact h | cases h.1 | exact panic_put rfl (by decide) h) (Or.inl ⟨by rfl, ?_⟩) (by assumption) ?_
        rotate_left 1
        (intro w hSw; (try dsimp only at hSw); go_simp; try with_reducible rfl)
        try simp only [Act.put, zT, zZ, zS]
        refine wpAnyH_take (i := 9) (v := ?_) (zo rfl) (by kernel_rfl) (by kernel_rfl) (by kernel_rfl) (fun _ _ _ h => by first | exact h | cases h.1 | exact panic_put rfl (by decide) h) (Or.inl ⟨by rfl, ?_⟩) (by assumption) ?_
        rotate_left 1
        (intro w hSw; (try dsimp only at hSw); go_simp; try with_reducible rfl)
        try simp only [Act.put, zT, zZ, zS]
        refine zr1 10 (zo rfl) (fun K hK => ?_)
        rw [if_pos (by rfl)]
        refine wp_store_mid _ _ _ rfl _ 0 #[.int .i64 0, .string ⟨#[]⟩, .int .i64 0, .int .i64 c.fl, .int .i64 0, .int .i64 (x.ws.length : Int), .int .i64 0, .slice A4 zs.length c4, .slice none 0 0] rfl rfl (HB6.out.there rfl) (by kernel_rfl) (by kernel_rfl) ?_
        have HB7 := zh (blk_setAll HB6.out (vs := [.int .i64 0, .string ⟨#[]⟩, .int .i64 0, .int .i64 c.fl, .int .i64 0, .int .i64 (x.ws.length : Int), .int .i64 0, .slice A4 zs.length c4, .slice none 0 0]) rfl)
        have HF7 := zh (frm_setCells (w.heap.size + 1) [.int .i64 0, .string ⟨#[]⟩, .int .i64 0, .int .i64 c.fl, .int .i64 0, .int .i64 (x.ws.length : Int), .int .i64 0, .slice A4 zs.length c4, .slice none 0 0] 0 w6)
        refine hK.out _ _ (HS7.out _ _ HF6.out HF7.out) (fun hHeld => ?_)
        clear hK K
        try simp only [Act.put, zT, zZ, zS]
        refine wpAnyH_done (by kernel_rfl) ?_ _
        obtain ⟨zs', hz'⟩ : ∃ zs' : List Value, zs' = [.int .i64 0, .string ⟨#[]⟩, .int .i64 0, .int .i64 c.fl, .int .i64 0, .int .i64 (x.ws.length : Int), .int .i64 0, .slice A4 zs.length c4, .slice none 0 0] := ⟨_, rfl⟩
        have HRZ : Hid (RepZ zs') := zh (by rw [hz']; exact ⟨rfl, by kernel_rfl⟩)
        have hb6 := HB7.out
        have hf6 : Fresh w (w6.setCells (w.heap.size + 1) 0 [.int .i64 0, .string ⟨#[]⟩, .int .i64 0, .int .i64 c.fl, .int .i64 0, .int .i64 (x.ws.length : Int), .int .i64 0, .slice A4 zs.length c4, .slice none 0 0]) := ((HFV.out.trans HF1.out).trans HF6.out).trans' HF7.out (fun i hi e => by omega)
        rw [← hz'] at hb6 hf6 ⊢
        have HB8 := zh hb6
        have HF8 := zh hf6
        clear hz' hb6 hf6 HB7 HF7
        go_wp2_with fail
        go_meet
        exact ⟨rfl, zs', HRZ.out, HB8.out, HF8.out⟩
      case rest =>
        obtain ⟨rfl, zs', hz, hb, hf⟩ := hcut
        go_wp2_with fail
        exact leave_yes rfl rfl hb hz ⟨zs', hz, rfl, hf⟩
    · have d1 : c.pnr.toList.isEmpty = false := hp
      have HNA := zh (named_any V B b HBV.out c.pnr (by have := HOK.out.pnr; omega))
      clear hp
      go_wp2_with fail
      refine HNA.out.mono ?_
      rintro e V0 ⟨f0, ⟨i, y, hy, rfl⟩ | ⟨k, rfl⟩⟩
      rotate_left 1
      · have HBR2 := zh (HBR1.out.frm f0 (fun f => f))
        have HF0 := zh f0
        clear f0
        go_wp2_with fail
        exact leave_no rfl rfl HBR2.out rfl k (fun w' F => HNO.out V0 k w' HF0.out F)
      have HTO := zh (told_any V0 B b (HBV.out.fresh f0) i y hy)
      have HF0 := zh f0
      have HBR2 := zh (HBR1.out.frm f0 (fun f => f))
      clear f0 hy HNA z0 z1 z2
      go_wp2_with fail
      refine HTO.out.mono ?_
      rintro e V1 ⟨zs, hz, rfl, f1⟩
      have HRZ := zh hz
      have HF1 : Hid (Fresh w V1) := zh ((HFV.out.trans HF0.out).trans f1)
      have HBR3 := zh (HBR2.out.frm f1 (fun f => f))
      have HTHR : Hid (V1.there (w.heap.size + 1) 0 zs.toArray.size) := zh (HBR3.out.there (by have := hz.len; show _ = 9; simpa using this))
      have HINF := zh hz.info
      have HONE := zh hz.one
      clear hz f1 HTO HBR2
      go_wp2_with (refine wpList_store_mid rfl 29 (.tmp 4) (.tmp 22) rfl (w.heap.size + 1) 0 zs.toArray rfl rfl HTHR.out HINF.out HONE.out ?_)
      exact leave_yes rfl rfl (blk_setAll HBR3.out (vs := zs) (by rw [HRZ.out.len]; rfl)) HRZ.out ⟨zs, HRZ.out, rfl, HF1.out.trans' (frm_setCells _ _ 0 _) (fun i hi e => by omega)⟩
end
end Go.Proofs.YtbeaoddjomdlcaaGreatDoor

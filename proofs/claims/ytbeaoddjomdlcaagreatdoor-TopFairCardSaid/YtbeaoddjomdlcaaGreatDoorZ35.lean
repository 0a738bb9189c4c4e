/- Proved here, for the statement TopFairCardSaid: laws that its walk leans on. It holds with no condition. (Put together and shortened by a program out of many texts: To54, Queue21.) -/
import Derived.Test.YtbeaoddjomdlcaaGreatDoorZ32
import Derived.Test.YtbeaoddjomdlcaaGreatDoorZ33
import Derived.Test.YtbeaoddjomdlcaaGreatDoorZ34
set_option linter.unusedVariables false
set_option linter.unusedSimpArgs false
set_option maxRecDepth 100000
set_option maxHeartbeats 64000000
namespace Go.Proofs.YtbeaoddjomdlcaaGreatDoor
section
open Go.RowKit
open QueueM (Wt)
theorem one_any (w : World) (B : Nat) (hB : B ≤ w.heap.size) (b : BoM) (h : BookP w B b) (hw : b.wt) (i : Int) (y : BkM) (hy : b.K i = some y) (c : CmA) (GA : Option Addr) (gc : Nat) (PA : Option Addr) (pc : Nat) (hL : CmAL w c GA gc PA pc) (ok : CmOk c) (hk : c.kind = 3 ∨ c.kind = 4 ∨ c.kind = 5 ∨ c.kind = 6) :
    Calls Tryz.prog 15 #[.pointer (some ⟨b.b, 0, none⟩), .pointer (some ⟨y.p, 0, none⟩), .agg (cmcel c GA gc PA pc).toArray] w fun e w' => ActPost w B b (c.kind ≠ 4) e w' := by
  have hm : ∀ {f g : Prop} {e w'}, (g → f) → ActPost w B b f e w' → ActPost w B b g e w' := fun hgf ⟨⟨b', h1, h2, h3⟩, h4⟩ => ⟨⟨b', h1, h2, fun hg => h3 (hgf hg)⟩, h4⟩
  rcases hk with hk | hk | hk | hk
  · exact (one3_any w B hB b h hw i y hy c GA gc PA pc hL ok hk).mono (fun e w' h => hm (fun _ => trivial) h)
  · by_cases hs : y.st = 3
    · exact (one4w_any w B hB b h hw i y hy c GA gc PA pc hL ok hk hs).mono (fun e w' h => hm (fun hn => hn hk) h)
    · exact (one4g_any w B hB b h hw i y hy c GA gc PA pc hL ok hk hs).mono (fun e w' h => hm (fun hn => hn hk) h)
  · exact (one5_any w B hB b h hw i y hy c GA gc PA pc hL ok hk).mono (fun e w' h => hm (fun _ => trivial) h)
  · exact (one6_any w B hB b h hw i y hy c GA gc PA pc hL ok hk).mono (fun e w' h => hm (fun _ => trivial) h)
def ApplyPost (w : World) (B : Nat) (b : BoM) (c : CmA) (e : Ending) (w' : World) : Prop :=
  ∃ (b' : BoM) (zs : List Value), BStep w B b w' b' ∧ b'.wt ∧ (c.kind ≠ 1 → c.kind ≠ 4 → c.kind ≠ 7 → FairB b b') ∧ RepZ zs ∧ e = .returned (.agg zs.toArray) ∧ (¬ CmOk c → zs[0]? = some (.int .i64 1))
theorem apply_any (w : World) (B : Nat) (hB : B ≤ w.heap.size) (b : BoM) (h : BookP w B b) (hw : b.wt) (c : CmA) (GA : Option Addr) (gc : Nat) (PA : Option Addr) (pc : Nat) (hL : CmAL w c GA gc PA pc) :
    Calls Tryz.prog 5 #[.pointer (some ⟨b.b, 0, none⟩), .agg (cmcel c GA gc PA pc).toArray] w fun e w' => ApplyPost w B b c e w' := by
  obtain ⟨cz, hcz⟩ : ∃ x, x = cmcel c GA gc PA pc := ⟨_, rfl⟩
  have HCZ := zh hcz
  have HR : Hid (∀ w', Fresh w w' → Calls Tryz.prog 10 #[.agg cz.toArray] w' fun e w'' => RightAPost w' (CmOk c) e w'') := zh (fun w' F => by rw [hcz]; exact pRight_all w' c GA gc PA pc (hL.fresh F))
  have HINF : Hid ((Tryz.prog.info? 36).map (·.size) = some cz.length) := zh (by rw [hcz]; exact cmd_info c GA gc PA pc)
  rw [← hcz]
  obtain ⟨W, hW⟩ : ∃ W, (w.alloc (.cells cz.toArray 36)).alloc (.cells (replyC 0) 29) = W := ⟨_, rfl⟩
  have HFW : Hid (Fresh w W) := zh (by rw [← hW]; exact ((Frm.refl _ w).alloc _).alloc _)
  have hbc : Blk W w.heap.size 36 cz.toArray := by rw [← hW]; exact (Blk.new _ _ _).alloc _
  have HRG : Hid (∀ w', Blk w' w.heap.size 36 (cmcel c GA gc PA pc).toArray → w'.rangeAt w.heap.size 0 cz) := zh (fun w' hbc j u hu => by rw [hbc.cell, Nat.zero_add, ← hcz]; simpa using hu)
  have HBC : Hid (Blk W w.heap.size 36 (cmcel c GA gc PA pc).toArray) := zh (by rw [← hcz]; exact hbc)
  have HBR : Hid (Blk W (w.heap.size + 1) 29 (replyC 0)) := zh (by rw [← hW]; have := Blk.new (w.alloc (.cells cz.toArray 36)) 29 (replyC 0); rw [show (w.alloc (.cells cz.toArray 36)).heap.size = w.heap.size + 1 from Array.size_push _] at this; exact this)
  have HWS : Hid (W.heap.size = w.heap.size + 2) := zh (by rw [← hW]; exact (Array.size_push _).trans (congrArg (· + 1) (Array.size_push _)))
  have HRW : Hid (W.rangeAt w.heap.size 0 cz) := zh (HRG.out W HBC.out)
  have HH := zh h
  have HL := zh hL
  have HW := zh hw
  unfold replyC at hW
  clear h hw hL hcz hbc
  go_enter_defers Tryz.func5, Tryz.ntmps5
  go_upto_region 1 with fail
  try rw [hW]
  clear hW
  go_wp2_with (refine wpList_load_mid rfl 36 (.tmp 3) rfl w.heap.size 0 rfl cz _ HRW.out Tryz.underlying36 rfl HINF.out ?_)
  refine (HR.out W HFW.out).mono ?_
  rintro e V ⟨β, rfl, hβ, fV⟩
  have HFV : Hid (Fresh w V) := zh (HFW.out.trans fV)
  have HBC1 := zh (HBC.out.frm fV (fun f => f))
  have HBR1 := zh (HBR.out.frm fV (fun f => f))
  have HBV := zh (HH.out.fresh HFV.out)
  have HLV := zh (HL.out.fresh HFV.out)
  have HRV := zh (HRG.out V HBC1.out)
  have HBT := zh hβ
  have HSV : Hid (BStep w B b V b) := zh (BStep.refl HH.out HFV.out)
  -- the ends
  have HEN : Hid (∀ (fair : Prop) (zs' : Option (List Value)) (V' : World) (e : Ending), True) := zh (fun _ _ _ _ => trivial)
  clear HEN hβ fV HR HRG HRW HBC HBR
  cases β with
  | false =>
    go_wp2_with fail
    refine (need_no 1 _).mono ?_
    rintro e w3 ⟨rfl, hw3⟩
    replace hw3 := hw3.symm
    subst hw3
    go_wp2_with fail
    exact leave_no rfl rfl HBR1.out rfl 1 (fun w' F => ⟨b, (replyC 1).toList, HSV.out.box HBR1.out (by omega) (by decide) (by decide) (F.mono (fun _ _ e => e.symm)), HW.out, fun _ _ _ => FairB.refl b, replyC_z 1, rfl, fun _ => rfl⟩)
  | true =>
    have ok := HBT.out rfl
    have HOK := zh ok
    have hkk := ok.kind
    have hcases : c.kind = 1 ∨ (c.kind = 2 ∨ c.kind = 7) ∨ c.kind = 8 ∨ c.kind = 9 ∨ (c.kind = 3 ∨ c.kind = 4 ∨ c.kind = 5 ∨ c.kind = 6) := by omega
    have z0 : V.cell? ⟨w.heap.size, 0, none⟩ = some (.int .i64 c.kind) := (cmC HBC1.out).1
    have HEND : Hid (∀ (V' : World) (b' : BoM), BStep V B b V' b' → b'.wt → (c.kind ≠ 1 → c.kind ≠ 4 → c.kind ≠ 7 → FairB b b') → Blk V' (w.heap.size + 1) 29 (replyC 0) ∧ ∀ zs w', RepZ zs → Frm (fun j => w.heap.size + 1 = j) V' w' → ApplyPost w B b c (.returned (.agg zs.toArray)) w') := zh fun V' b' s1 s2 s3 => by
      have hb := HBR1.out.frm s1.fr (HBV.out.not_own HBR1.out (by decide) (by decide))
      refine ⟨hb, fun zs w' hz F => ⟨b', zs, (HSV.out.trans s1).box hb (by omega) (by decide) (by decide) F, s2, s3, hz, rfl, fun hn => absurd HOK.out hn⟩⟩
    clear ok hkk HSV HBT
    go_wp2_with fail
    refine (need_yes 1 _).mono ?_
    rintro e w3 ⟨rfl, hw3⟩
    replace hw3 := hw3.symm
    subst hw3
    rcases hcases with hk | hk | hk | hk | hk
    · rw [hk] at z0
      have HKD := zh hk
      clear hk
      have HCA := zh (open_any V B (Nat.le_trans hB HFV.out.size) b HBV.out HW.out c GA gc PA pc HLV.out HOK.out)
      rw [← HCZ.out] at HCA
      go_wp2_with (refine wpList_load_mid rfl 36 (.tmp 3) rfl w.heap.size 0 rfl cz _ HRV.out Tryz.underlying36 rfl HINF.out ?_)
      refine (HCA.out).mono ?_
      rintro e V1 ⟨⟨b1, s1, s2, s3⟩, ⟨zs, hz, rfl⟩ | ⟨k, rfl⟩⟩
      rotate_left 1
      · obtain ⟨E1, E2⟩ := HEND.out V1 b1 s1 s2 (fun hn => absurd HKD.out hn)
        have HE1 := zh E1
        have HE2 := zh E2
        clear E1 E2 s1 s2 s3
        go_wp2_with fail
        exact leave_no rfl rfl HE1.out rfl k (fun w' F => HE2.out (replyC k).toList w' (replyC_z k) (F.mono (fun _ _ e => e.symm)))
      obtain ⟨E1, E2⟩ := HEND.out V1 b1 s1 s2 (fun hn => absurd HKD.out hn)
      have HE1 := zh E1
      have HE2 := zh E2
      have HRZ := zh hz
      have HTHR : Hid (V1.there (w.heap.size + 1) 0 zs.toArray.size) := zh (HE1.out.there (by have := hz.len; show _ = 9; simpa using this))
      have HINF2 := zh hz.info
      have HONE := zh hz.one
      clear E1 E2 s1 s2 s3 hz
      go_wp2_with (refine wpList_store_mid rfl 29 (.tmp 4) (.tmp 14) rfl (w.heap.size + 1) 0 zs.toArray rfl rfl HTHR.out HINF2.out HONE.out ?_)
      exact leave_yes rfl rfl (blk_setAll HE1.out (vs := zs) (by rw [HRZ.out.len]; rfl)) HRZ.out (HE2.out zs _ HRZ.out (frm_setCells _ _ 0 _))
    · have HKD := zh hk
      have HCA : Hid (Calls Tryz.prog 12 #[.pointer (some ⟨b.b, 0, none⟩), .agg cz.toArray] V fun e w' => ActPost V B b (c.kind ≠ 7) e w') := zh (by
        rw [HCZ.out]
        rcases hk with hk | hk
        · exact (ask2_any V B (Nat.le_trans hB HFV.out.size) b HBV.out HW.out c GA gc PA pc HLV.out HOK.out hk).mono (fun e w' h => ⟨⟨h.1.choose, h.1.choose_spec.1, h.1.choose_spec.2.1, fun _ => h.1.choose_spec.2.2 trivial⟩, h.2⟩)
        · exact (ask7_any V B (Nat.le_trans hB HFV.out.size) b HBV.out HW.out c GA gc PA pc HLV.out HOK.out hk).mono (fun e w' h => ⟨⟨h.1.choose, h.1.choose_spec.1, h.1.choose_spec.2.1, fun hn => absurd hk hn⟩, h.2⟩))
      rcases hk with hk | hk
      · rw [hk] at z0
        clear hk
        go_wp2_with (refine wpList_load_mid rfl 36 (.tmp 3) rfl w.heap.size 0 rfl cz _ HRV.out Tryz.underlying36 rfl HINF.out ?_)
        refine (HCA.out).mono ?_
        rintro e V1 ⟨⟨b1, s1, s2, s3⟩, ⟨zs, hz, rfl⟩ | ⟨k, rfl⟩⟩
        rotate_left 1
        · obtain ⟨E1, E2⟩ := HEND.out V1 b1 s1 s2 (fun _ _ hn => s3 hn)
          have HE1 := zh E1
          have HE2 := zh E2
          clear E1 E2 s1 s2 s3
          go_wp2_with fail
          exact leave_no rfl rfl HE1.out rfl k (fun w' F => HE2.out (replyC k).toList w' (replyC_z k) (F.mono (fun _ _ e => e.symm)))
        obtain ⟨E1, E2⟩ := HEND.out V1 b1 s1 s2 (fun _ _ hn => s3 hn)
        have HE1 := zh E1
        have HE2 := zh E2
        have HRZ := zh hz
        have HTHR : Hid (V1.there (w.heap.size + 1) 0 zs.toArray.size) := zh (HE1.out.there (by have := hz.len; show _ = 9; simpa using this))
        have HINF2 := zh hz.info
        have HONE := zh hz.one
        clear E1 E2 s1 s2 s3 hz
        go_wp2_with (refine wpList_store_mid rfl 29 (.tmp 4) (.tmp 20) rfl (w.heap.size + 1) 0 zs.toArray rfl rfl HTHR.out HINF2.out HONE.out ?_)
        exact leave_yes rfl rfl (blk_setAll HE1.out (vs := zs) (by rw [HRZ.out.len]; rfl)) HRZ.out (HE2.out zs _ HRZ.out (frm_setCells _ _ 0 _))
      · rw [hk] at z0
        clear hk
        go_wp2_with (refine wpList_load_mid rfl 36 (.tmp 3) rfl w.heap.size 0 rfl cz _ HRV.out Tryz.underlying36 rfl HINF.out ?_)
        refine (HCA.out).mono ?_
        rintro e V1 ⟨⟨b1, s1, s2, s3⟩, ⟨zs, hz, rfl⟩ | ⟨k, rfl⟩⟩
        rotate_left 1
        · obtain ⟨E1, E2⟩ := HEND.out V1 b1 s1 s2 (fun _ _ hn => s3 hn)
          have HE1 := zh E1
          have HE2 := zh E2
          clear E1 E2 s1 s2 s3
          go_wp2_with fail
          exact leave_no rfl rfl HE1.out rfl k (fun w' F => HE2.out (replyC k).toList w' (replyC_z k) (F.mono (fun _ _ e => e.symm)))
        obtain ⟨E1, E2⟩ := HEND.out V1 b1 s1 s2 (fun _ _ hn => s3 hn)
        have HE1 := zh E1
        have HE2 := zh E2
        have HRZ := zh hz
        have HTHR : Hid (V1.there (w.heap.size + 1) 0 zs.toArray.size) := zh (HE1.out.there (by have := hz.len; show _ = 9; simpa using this))
        have HINF2 := zh hz.info
        have HONE := zh hz.one
        clear E1 E2 s1 s2 s3 hz
        go_wp2_with (refine wpList_store_mid rfl 29 (.tmp 4) (.tmp 20) rfl (w.heap.size + 1) 0 zs.toArray rfl rfl HTHR.out HINF2.out HONE.out ?_)
        exact leave_yes rfl rfl (blk_setAll HE1.out (vs := zs) (by rw [HRZ.out.len]; rfl)) HRZ.out (HE2.out zs _ HRZ.out (frm_setCells _ _ 0 _))
    · rw [hk] at z0
      clear hk
      have HCA := zh (clock_any V B (Nat.le_trans hB HFV.out.size) b HBV.out HW.out c GA gc PA pc HLV.out HOK.out)
      rw [← HCZ.out] at HCA
      go_wp2_with (refine wpList_load_mid rfl 36 (.tmp 3) rfl w.heap.size 0 rfl cz _ HRV.out Tryz.underlying36 rfl HINF.out ?_)
      refine (HCA.out).mono ?_
      rintro e V1 ⟨⟨b1, s1, s2, s3⟩, ⟨zs, hz, rfl⟩ | ⟨k, rfl⟩⟩
      rotate_left 1
      · obtain ⟨E1, E2⟩ := HEND.out V1 b1 s1 s2 (fun _ _ _ => s3 trivial)
        have HE1 := zh E1
        have HE2 := zh E2
        clear E1 E2 s1 s2 s3
        go_wp2_with fail
        exact leave_no rfl rfl HE1.out rfl k (fun w' F => HE2.out (replyC k).toList w' (replyC_z k) (F.mono (fun _ _ e => e.symm)))
      obtain ⟨E1, E2⟩ := HEND.out V1 b1 s1 s2 (fun _ _ _ => s3 trivial)
      have HE1 := zh E1
      have HE2 := zh E2
      have HRZ := zh hz
      have HTHR : Hid (V1.there (w.heap.size + 1) 0 zs.toArray.size) := zh (HE1.out.there (by have := hz.len; show _ = 9; simpa using this))
      have HINF2 := zh hz.info
      have HONE := zh hz.one
      clear E1 E2 s1 s2 s3 hz
      go_wp2_with (refine wpList_store_mid rfl 29 (.tmp 4) (.tmp 25) rfl (w.heap.size + 1) 0 zs.toArray rfl rfl HTHR.out HINF2.out HONE.out ?_)
      exact leave_yes rfl rfl (blk_setAll HE1.out (vs := zs) (by rw [HRZ.out.len]; rfl)) HRZ.out (HE2.out zs _ HRZ.out (frm_setCells _ _ 0 _))
    · have HCA := zh (show_any V B (Nat.le_trans hB HFV.out.size) b HBV.out c GA gc PA pc HLV.out HOK.out hk)
      rw [← HCZ.out] at HCA
      rw [hk] at z0
      clear hk
      go_wp2_with (refine wpList_load_mid rfl 36 (.tmp 3) rfl w.heap.size 0 rfl cz _ HRV.out Tryz.underlying36 rfl HINF.out ?_)
      refine HCA.out.mono ?_
      rintro e V1 ⟨zs, hz, rfl, f1⟩
      obtain ⟨E1, E2⟩ := HEND.out V1 b (BStep.refl HBV.out f1) HW.out (fun _ _ _ => FairB.refl b)
      have HE1 := zh E1
      have HE2 := zh E2
      have HRZ := zh hz
      have HTHR : Hid (V1.there (w.heap.size + 1) 0 zs.toArray.size) := zh (HE1.out.there (by have := hz.len; show _ = 9; simpa using this))
      have HINF2 := zh hz.info
      have HONE := zh hz.one
      clear E1 E2 f1 hz
      go_wp2_with (refine wpList_store_mid rfl 29 (.tmp 4) (.tmp 30) rfl (w.heap.size + 1) 0 zs.toArray rfl rfl HTHR.out HINF2.out HONE.out ?_)
      exact leave_yes rfl rfl (blk_setAll HE1.out (vs := zs) (by rw [HRZ.out.len]; rfl)) HRZ.out (HE2.out zs _ HRZ.out (frm_setCells _ _ 0 _))
    · have HON : Hid (∀ w', Fresh V w' → ∀ i y, b.K i = some y → Calls Tryz.prog 15 #[.pointer (some ⟨b.b, 0, none⟩), .pointer (some ⟨y.p, 0, none⟩), .agg cz.toArray] w' fun e w'' => ActPost w' B b (c.kind ≠ 4) e w'') := zh fun w' F i y hy => by
        rw [HCZ.out]
        exact one_any w' B (Nat.le_trans (Nat.le_trans hB HFV.out.size) F.size) b (HBV.out.fresh F) HW.out i y hy c GA gc PA pc (HLV.out.fresh F) HOK.out hk
      have HS13b : Hid (∀ w', Blk w' w.heap.size 36 (cmcel c GA gc PA pc).toArray → w'.cell? ⟨w.heap.size, 1, none⟩ = some (.string c.pnr) ∧ w'.rangeAt w.heap.size 0 cz) := zh fun w' hb => ⟨(cmC hb).2.1, fun j u hu => by rw [hb.cell, Nat.zero_add, ← HCZ.out]; simpa using hu⟩
      have HS13 : Hid (∀ w', Fresh V w' → w'.cell? ⟨w.heap.size, 1, none⟩ = some (.string c.pnr) ∧ w'.rangeAt w.heap.size 0 cz) := zh fun w' F => HS13b.out w' (HBC1.out.frm F (fun f => f))
      have HNA := zh (named_any V.drew B b (HBV.out.fresh (Frm.refl _ _).drew) c.pnr (by have := HOK.out.pnr; omega))
      rcases hk with hk | hk | hk | hk
      · rw [hk] at z0
        clear hk
        go_upto_region 13 with fail
        refine wp_region_held_drew (S := fun w' => w'.cell? ⟨w.heap.size, 1, none⟩ = some (.string c.pnr) ∧ w'.rangeAt w.heap.size 0 cz) (by kernel_rfl) (HS13.out _ (Frm.refl _ _).drew) (fun hHeld => ?_)
        refine wpAnyH_take (i := 0) (v := ?_) (zo rfl) (by kernel_rfl) (by kernel_rfl) (by kernel_rfl) (fun _ _ _ h => by first | exact h | cases h.1 | exact panic_put rfl (by decide) h) (Or.inl ⟨by rfl, ?_⟩) (by assumption) ?_
        rotate_left 1
        (intro w hSw; (try dsimp only at hSw); go_simp; try with_reducible rfl)
        try simp only [Act.put, zT, zZ, zS]
        refine wpAnyH_take (i := 1) (v := ?_) (zo rfl) (by kernel_rfl) (by kernel_rfl) (by kernel_rfl) (fun _ _ _ h => by first | exact h | cases h.1 | exact panic_put rfl (by decide) h) (Or.inl ⟨by rfl, ?_⟩) (by assumption) ?_
        rotate_left 1
        (intro w hSw; (try dsimp only at hSw); go_simp; try with_reducible rfl)
        try simp only [Act.put, zT, zZ, zS]
        refine wpAnyH_take (i := 2) (v := ?_) (zo rfl) (by kernel_rfl) (by kernel_rfl) (by kernel_rfl) (fun _ _ _ h => by first | exact h | cases h.1 | exact panic_put rfl (by decide) h) (Or.inl ⟨by rfl, ?_⟩) (by assumption) ?_
        rotate_left 1
        (intro w hSw; (try dsimp only at hSw); go_simp; try with_reducible rfl)
        try simp only [Act.put, zT, zZ, zS]
        refine wpAnyH_take (i := 3) (v := ?_) (zo rfl) (by kernel_rfl) (by kernel_rfl) (by kernel_rfl) (fun _ _ _ h => by first | exact h | cases h.1 | exact panic_put rfl (by decide) h) (Or.inl ⟨by rfl, ?_⟩) (by assumption) ?_
        rotate_left 1
        (intro w hSw; (try dsimp only at hSw); go_simp; try with_reducible rfl)
        try simp only [Act.put, zT, zZ, zS]
        refine wpAnyH_take (i := 5) (v := .agg cz.toArray) (zo rfl) (by kernel_rfl) (by kernel_rfl) (by kernel_rfl) (fun _ _ _ h => by first | exact h | cases h.1 | exact panic_put rfl (by decide) h) (yieldsIf_load_mid (by rfl) 36 (.tmp 3) rfl w.heap.size 0 rfl cz _ (fun w' hS => hS.2) Tryz.underlying36 rfl HINF.out) (by assumption) ?_
        try simp only [Act.put, zT, zZ, zS]
        refine zr1 4 (zo rfl) (fun K hK => ?_)
        go_simp
        refine (HNA.out).mono ?_
        rintro e V0 ⟨f0, ⟨i, y, hy, rfl⟩ | ⟨k, rfl⟩⟩
        rotate_left 1
        · obtain ⟨E1, E2⟩ := HEND.out V0 b (BStep.refl HBV.out ((Frm.refl (fun _ => False) V).drew.trans f0)) HW.out (fun _ _ _ => FairB.refl b)
          exact leave_no rfl rfl E1 rfl k (fun w' F => E2 (replyC k).toList w' (replyC_z k) (F.mono (fun _ _ e => e.symm)))
        have HF0 : Hid (Fresh V V0) := zh ((Frm.refl (fun _ => False) V).drew.trans f0)
        have HY := zh hy
        clear f0 hy
        refine hK.out _ _ (HS13.out _ HF0.out) (fun hHeld => ?_)
        clear hK K
        try simp only [Act.put, zT, zZ, zS]
        refine zr1 6 (zo rfl) (fun K hK => ?_)
        go_simp
        refine (HON.out V0 HF0.out i y HY.out).mono ?_
        rintro e V1 ⟨⟨b1, s1', s2, s3⟩, ⟨zs, hz, rfl⟩ | ⟨k, rfl⟩⟩
        rotate_left 1
        · obtain ⟨E1, E2⟩ := HEND.out V1 b1 ((BStep.refl HBV.out HF0.out).trans s1') s2 (fun _ hn _ => s3 hn)
          exact leave_no rfl rfl E1 rfl k (fun w' F => E2 (replyC k).toList w' (replyC_z k) (F.mono (fun _ _ e => e.symm)))
        obtain ⟨E1, E2⟩ := HEND.out V1 b1 ((BStep.refl HBV.out HF0.out).trans s1') s2 (fun _ hn _ => s3 hn)
        have HE1 := zh E1
        have HE2 := zh E2
        have HRZ := zh hz
        have HTHR : Hid (V1.there (w.heap.size + 1) 0 zs.toArray.size) := zh (HE1.out.there (by have := hz.len; show _ = 9; simpa using this))
        have HINF2 := zh hz.info
        have HONE := zh hz.one
        have HC9 := zh (HBC1.out.frm (HF0.out.frm.trans' s1'.fr (fun _ _ h => h)) (HBV.out.not_own HBC1.out (by decide) (by decide)))
        clear E1 E2 s1' s2 s3 hz
        refine hK.out _ _ (HS13b.out _ HC9.out) (fun hHeld => ?_)
        clear hK K
        try simp only [Act.put, zT, zZ, zS]
        refine zr1 7 (zo rfl) (fun K hK => ?_)
        rw [if_pos (by rfl)]
        refine wp_store_mid _ _ _ rfl _ 0 zs.toArray rfl rfl HTHR.out HINF2.out HONE.out ?_
        have HB9 := zh (blk_setAll HE1.out (vs := zs) (by rw [HRZ.out.len]; rfl))
        have HF9 := zh (frm_setCells (w.heap.size + 1) zs 0 V1)
        refine hK.out _ _ (HS13b.out _ (HC9.out.frm HF9.out (by omega))) (fun hHeld => ?_)
        clear hK K
        try simp only [Act.put, zT, zZ, zS]
        refine wpAnyH_done (by kernel_rfl) ?_ _
        go_wp2_with fail
        exact leave_yes rfl rfl HB9.out HRZ.out (HE2.out zs _ HRZ.out HF9.out)
      · rw [hk] at z0
        clear hk
        go_upto_region 13 with fail
        refine wp_region_held_drew (S := fun w' => w'.cell? ⟨w.heap.size, 1, none⟩ = some (.string c.pnr) ∧ w'.rangeAt w.heap.size 0 cz) (by kernel_rfl) (HS13.out _ (Frm.refl _ _).drew) (fun hHeld => ?_)
        refine wpAnyH_take (i := 0) (v := ?_) (zo rfl) (by kernel_rfl) (by kernel_rfl) (by kernel_rfl) (fun _ _ _ h => by first | exact h | cases h.1 | exact panic_put rfl (by decide) h) (Or.inl ⟨by rfl, ?_⟩) (by assumption) ?_
        rotate_left 1
        (intro w hSw; (try dsimp only at hSw); go_simp; try with_reducible rfl)
        try simp only [Act.put, zT, zZ, zS]
        refine wpAnyH_take (i := 1) (v := ?_) (zo rfl) (by kernel_rfl) (by kernel_rfl) (by kernel_rfl) (fun _ _ _ h => by first | exact h | cases h.1 | exact panic_put rfl (by decide) h) (Or.inl ⟨by rfl, ?_⟩) (by assumption) ?_
        rotate_left 1
        (intro w hSw; (try dsimp only at hSw); go_simp; try with_reducible rfl)
        try simp only [Act.put, zT, zZ, zS]
        refine wpAnyH_take (i := 2) (v := ?_) (zo rfl) (by kernel_rfl) (by kernel_rfl) (by kernel_rfl) (fun _ _ _ h => by first | exact h | cases h.1 | exact panic_put rfl (by decide) h) (Or.inl ⟨by rfl, ?_⟩) (by assumption) ?_
        rotate_left 1
        (intro w hSw; (try dsimp only at hSw); go_simp; try with_reducible rfl)
        try simp only [Act.put, zT, zZ, zS]
        refine wpAnyH_take (i := 3) (v := ?_) (zo rfl) (by kernel_rfl) (by kernel_rfl) (by kernel_rfl) (fun _ _ _ h => by first | exact h | cases h.1 | exact panic_put rfl (by decide) h) (Or.inl ⟨by rfl, ?_⟩) (by assumption) ?_
        rotate_left 1
        (intro w hSw; (try dsimp only at hSw); go_simp; try with_reducible rfl)
        try simp only [Act.put, zT, zZ, zS]
        refine wpAnyH_take (i := 5) (v := .agg cz.toArray) (zo rfl) (by kernel_rfl) (by kernel_rfl) (by kernel_rfl) (fun _ _ _ h => by first | exact h | cases h.1 | exact panic_put rfl (by decide) h) (yieldsIf_load_mid (by rfl) 36 (.tmp 3) rfl w.heap.size 0 rfl cz _ (fun w' hS => hS.2) Tryz.underlying36 rfl HINF.out) (by assumption) ?_
        try simp only [Act.put, zT, zZ, zS]
        refine zr1 4 (zo rfl) (fun K hK => ?_)
        go_simp
        refine (HNA.out).mono ?_
        rintro e V0 ⟨f0, ⟨i, y, hy, rfl⟩ | ⟨k, rfl⟩⟩
        rotate_left 1
        · obtain ⟨E1, E2⟩ := HEND.out V0 b (BStep.refl HBV.out ((Frm.refl (fun _ => False) V).drew.trans f0)) HW.out (fun _ _ _ => FairB.refl b)
          exact leave_no rfl rfl E1 rfl k (fun w' F => E2 (replyC k).toList w' (replyC_z k) (F.mono (fun _ _ e => e.symm)))
        have HF0 : Hid (Fresh V V0) := zh ((Frm.refl (fun _ => False) V).drew.trans f0)
        have HY := zh hy
        clear f0 hy
        refine hK.out _ _ (HS13.out _ HF0.out) (fun hHeld => ?_)
        clear hK K
        try simp only [Act.put, zT, zZ, zS]
        refine zr1 6 (zo rfl) (fun K hK => ?_)
        go_simp
        refine (HON.out V0 HF0.out i y HY.out).mono ?_
        rintro e V1 ⟨⟨b1, s1', s2, s3⟩, ⟨zs, hz, rfl⟩ | ⟨k, rfl⟩⟩
        rotate_left 1
        · obtain ⟨E1, E2⟩ := HEND.out V1 b1 ((BStep.refl HBV.out HF0.out).trans s1') s2 (fun _ hn _ => s3 hn)
          exact leave_no rfl rfl E1 rfl k (fun w' F => E2 (replyC k).toList w' (replyC_z k) (F.mono (fun _ _ e => e.symm)))
        obtain ⟨E1, E2⟩ := HEND.out V1 b1 ((BStep.refl HBV.out HF0.out).trans s1') s2 (fun _ hn _ => s3 hn)
        have HE1 := zh E1
        have HE2 := zh E2
        have HRZ := zh hz
        have HTHR : Hid (V1.there (w.heap.size + 1) 0 zs.toArray.size) := zh (HE1.out.there (by have := hz.len; show _ = 9; simpa using this))
        have HINF2 := zh hz.info
        have HONE := zh hz.one
        have HC9 := zh (HBC1.out.frm (HF0.out.frm.trans' s1'.fr (fun _ _ h => h)) (HBV.out.not_own HBC1.out (by decide) (by decide)))
        clear E1 E2 s1' s2 s3 hz
        refine hK.out _ _ (HS13b.out _ HC9.out) (fun hHeld => ?_)
        clear hK K
        try simp only [Act.put, zT, zZ, zS]
        refine zr1 7 (zo rfl) (fun K hK => ?_)
        rw [if_pos (by rfl)]
        refine wp_store_mid _ _ _ rfl _ 0 zs.toArray rfl rfl HTHR.out HINF2.out HONE.out ?_
        have HB9 := zh (blk_setAll HE1.out (vs := zs) (by rw [HRZ.out.len]; rfl))
        have HF9 := zh (frm_setCells (w.heap.size + 1) zs 0 V1)
        refine hK.out _ _ (HS13b.out _ (HC9.out.frm HF9.out (by omega))) (fun hHeld => ?_)
        clear hK K
        try simp only [Act.put, zT, zZ, zS]
        refine wpAnyH_done (by kernel_rfl) ?_ _
        go_wp2_with fail
        exact leave_yes rfl rfl HB9.out HRZ.out (HE2.out zs _ HRZ.out HF9.out)
      · rw [hk] at z0
        clear hk
        go_upto_region 13 with fail
        refine wp_region_held_drew (S := fun w' => w'.cell? ⟨w.heap.size, 1, none⟩ = some (.string c.pnr) ∧ w'.rangeAt w.heap.size 0 cz) (by kernel_rfl) (HS13.out _ (Frm.refl _ _).drew) (fun hHeld => ?_)
        refine wpAnyH_take (i := 0) (v := ?_) (zo rfl) (by kernel_rfl) (by kernel_rfl) (by kernel_rfl) (fun _ _ _ h => by first | exact h | cases h.1 | exact panic_put rfl (by decide) h) (Or.inl ⟨by rfl, ?_⟩) (by assumption) ?_
        rotate_left 1
        (intro w hSw; (try dsimp only at hSw); go_simp; try with_reducible rfl)
        try simp only [Act.put, zT, zZ, zS]
        refine wpAnyH_take (i := 1) (v := ?_) (zo rfl) (by kernel_rfl) (by kernel_rfl) (by kernel_rfl) (fun _ _ _ h => by first | exact h | cases h.1 | exact panic_put rfl (by decide) h) (Or.inl ⟨by rfl, ?_⟩) (by assumption) ?_
        rotate_left 1
        (intro w hSw; (try dsimp only at hSw); go_simp; try with_reducible rfl)
        try simp only [Act.put, zT, zZ, zS]
        refine wpAnyH_take (i := 2) (v := ?_) (zo rfl) (by kernel_rfl) (by kernel_rfl) (by kernel_rfl) (fun _ _ _ h => by first | exact h | cases h.1 | exact panic_put rfl (by decide) h) (Or.inl ⟨by rfl, ?_⟩) (by assumption) ?_
        rotate_left 1
        (intro w hSw; (try dsimp only at hSw); go_simp; try with_reducible rfl)
        try simp only [Act.put, zT, zZ, zS]
        refine wpAnyH_take (i := 3) (v := ?_) (zo rfl) (by kernel_rfl) (by kernel_rfl) (by kernel_rfl) (fun _ _ _ h => by first | exact h | cases h.1 | exact panic_put rfl (by decide) h) (Or.inl ⟨by rfl, ?_⟩) (by assumption) ?_
        rotate_left 1
        (intro w hSw; (try dsimp only at hSw); go_simp; try with_reducible rfl)
        try simp only [Act.put, zT, zZ, zS]
        refine wpAnyH_take (i := 5) (v := .agg cz.toArray) (zo rfl) (by kernel_rfl) (by kernel_rfl) (by kernel_rfl) (fun _ _ _ h => by first | exact h | cases h.1 | exact panic_put rfl (by decide) h) (yieldsIf_load_mid (by rfl) 36 (.tmp 3) rfl w.heap.size 0 rfl cz _ (fun w' hS => hS.2) Tryz.underlying36 rfl HINF.out) (by assumption) ?_
        try simp only [Act.put, zT, zZ, zS]
        refine zr1 4 (zo rfl) (fun K hK => ?_)
        go_simp
        refine (HNA.out).mono ?_
        rintro e V0 ⟨f0, ⟨i, y, hy, rfl⟩ | ⟨k, rfl⟩⟩
        rotate_left 1
        · obtain ⟨E1, E2⟩ := HEND.out V0 b (BStep.refl HBV.out ((Frm.refl (fun _ => False) V).drew.trans f0)) HW.out (fun _ _ _ => FairB.refl b)
          exact leave_no rfl rfl E1 rfl k (fun w' F => E2 (replyC k).toList w' (replyC_z k) (F.mono (fun _ _ e => e.symm)))
        have HF0 : Hid (Fresh V V0) := zh ((Frm.refl (fun _ => False) V).drew.trans f0)
        have HY := zh hy
        clear f0 hy
        refine hK.out _ _ (HS13.out _ HF0.out) (fun hHeld => ?_)
        clear hK K
        try simp only [Act.put, zT, zZ, zS]
        refine zr1 6 (zo rfl) (fun K hK => ?_)
        go_simp
        refine (HON.out V0 HF0.out i y HY.out).mono ?_
        rintro e V1 ⟨⟨b1, s1', s2, s3⟩, ⟨zs, hz, rfl⟩ | ⟨k, rfl⟩⟩
        rotate_left 1
        · obtain ⟨E1, E2⟩ := HEND.out V1 b1 ((BStep.refl HBV.out HF0.out).trans s1') s2 (fun _ hn _ => s3 hn)
          exact leave_no rfl rfl E1 rfl k (fun w' F => E2 (replyC k).toList w' (replyC_z k) (F.mono (fun _ _ e => e.symm)))
        obtain ⟨E1, E2⟩ := HEND.out V1 b1 ((BStep.refl HBV.out HF0.out).trans s1') s2 (fun _ hn _ => s3 hn)
        have HE1 := zh E1
        have HE2 := zh E2
        have HRZ := zh hz
        have HTHR : Hid (V1.there (w.heap.size + 1) 0 zs.toArray.size) := zh (HE1.out.there (by have := hz.len; show _ = 9; simpa using this))
        have HINF2 := zh hz.info
        have HONE := zh hz.one
        have HC9 := zh (HBC1.out.frm (HF0.out.frm.trans' s1'.fr (fun _ _ h => h)) (HBV.out.not_own HBC1.out (by decide) (by decide)))
        clear E1 E2 s1' s2 s3 hz
        refine hK.out _ _ (HS13b.out _ HC9.out) (fun hHeld => ?_)
        clear hK K
        try simp only [Act.put, zT, zZ, zS]
        refine zr1 7 (zo rfl) (fun K hK => ?_)
        rw [if_pos (by rfl)]
        refine wp_store_mid _ _ _ rfl _ 0 zs.toArray rfl rfl HTHR.out HINF2.out HONE.out ?_
        have HB9 := zh (blk_setAll HE1.out (vs := zs) (by rw [HRZ.out.len]; rfl))
        have HF9 := zh (frm_setCells (w.heap.size + 1) zs 0 V1)
        refine hK.out _ _ (HS13b.out _ (HC9.out.frm HF9.out (by omega))) (fun hHeld => ?_)
        clear hK K
        try simp only [Act.put, zT, zZ, zS]
        refine wpAnyH_done (by kernel_rfl) ?_ _
        go_wp2_with fail
        exact leave_yes rfl rfl HB9.out HRZ.out (HE2.out zs _ HRZ.out HF9.out)
      · rw [hk] at z0
        clear hk
        go_upto_region 13 with fail
        refine wp_region_held_drew (S := fun w' => w'.cell? ⟨w.heap.size, 1, none⟩ = some (.string c.pnr) ∧ w'.rangeAt w.heap.size 0 cz) (by kernel_rfl) (HS13.out _ (Frm.refl _ _).drew) (fun hHeld => ?_)
        refine wpAnyH_take (i := 0) (v := ?_) (zo rfl) (by kernel_rfl) (by kernel_rfl) (by kernel_rfl) (fun _ _ _ h => by first | exact h | cases h.1 | exact panic_put rfl (by decide) h) (Or.inl ⟨by rfl, ?_⟩) (by assumption) ?_
        rotate_left 1
        (intro w hSw; (try dsimp only at hSw); go_simp; try with_reducible rfl)
        try simp only [Act.put, zT, zZ, zS]
        refine wpAnyH_take (i := 1) (v := ?_) (zo rfl) (by kernel_rfl) (by kernel_rfl) (by kernel_rfl) (fun _ _ _ h => by first | exact h | cases h.1 | exact panic_put rfl (by decide) h) (Or.inl ⟨by rfl, ?_⟩) (by assumption) ?_
        rotate_left 1
        (intro w hSw; (try dsimp only at hSw); go_simp; try with_reducible rfl)
        try simp only [Act.put, zT, zZ, zS]
        refine wpAnyH_take (i := 2) (v := ?_) (zo rfl) (by kernel_rfl) (by kernel_rfl) (by kernel_rfl) (fun _ _ _ h => by first | exact h | cases h.1 | exact panic_put rfl (by decide) h) (Or.inl ⟨by rfl, ?_⟩) (by assumption) ?_
        rotate_left 1
        (intro w hSw; (try dsimp only at hSw); go_simp; try with_reducible rfl)
        try simp only [Act.put, zT, zZ, zS]
        refine wpAnyH_take (i := 3) (v := ?_) (zo rfl) (by kernel_rfl) (by kernel_rfl) (by kernel_rfl) (fun _ _ _ h => by first | exact h | cases h.1 | exact panic_put rfl (by decide) h) (Or.inl ⟨by rfl, ?_⟩) (by assumption) ?_
        rotate_left 1
        (intro w hSw; (try dsimp only at hSw); go_simp; try with_reducible rfl)
        try simp only [Act.put, zT, zZ, zS]
        refine wpAnyH_take (i := 5) (v := .agg cz.toArray) (zo rfl) (by kernel_rfl) (by kernel_rfl) (by kernel_rfl) (fun _ _ _ h => by first | exact h | cases h.1 | exact panic_put rfl (by decide) h) (yieldsIf_load_mid (by rfl) 36 (.tmp 3) rfl w.heap.size 0 rfl cz _ (fun w' hS => hS.2) Tryz.underlying36 rfl HINF.out) (by assumption) ?_
        try simp only [Act.put, zT, zZ, zS]
        refine zr1 4 (zo rfl) (fun K hK => ?_)
        go_simp
        refine (HNA.out).mono ?_
        rintro e V0 ⟨f0, ⟨i, y, hy, rfl⟩ | ⟨k, rfl⟩⟩
        rotate_left 1
        · obtain ⟨E1, E2⟩ := HEND.out V0 b (BStep.refl HBV.out ((Frm.refl (fun _ => False) V).drew.trans f0)) HW.out (fun _ _ _ => FairB.refl b)
          exact leave_no rfl rfl E1 rfl k (fun w' F => E2 (replyC k).toList w' (replyC_z k) (F.mono (fun _ _ e => e.symm)))
        have HF0 : Hid (Fresh V V0) := zh ((Frm.refl (fun _ => False) V).drew.trans f0)
        have HY := zh hy
        clear f0 hy
        refine hK.out _ _ (HS13.out _ HF0.out) (fun hHeld => ?_)
        clear hK K
        try simp only [Act.put, zT, zZ, zS]
        refine zr1 6 (zo rfl) (fun K hK => ?_)
        go_simp
        refine (HON.out V0 HF0.out i y HY.out).mono ?_
        rintro e V1 ⟨⟨b1, s1', s2, s3⟩, ⟨zs, hz, rfl⟩ | ⟨k, rfl⟩⟩
        rotate_left 1
        · obtain ⟨E1, E2⟩ := HEND.out V1 b1 ((BStep.refl HBV.out HF0.out).trans s1') s2 (fun _ hn _ => s3 hn)
          exact leave_no rfl rfl E1 rfl k (fun w' F => E2 (replyC k).toList w' (replyC_z k) (F.mono (fun _ _ e => e.symm)))
        obtain ⟨E1, E2⟩ := HEND.out V1 b1 ((BStep.refl HBV.out HF0.out).trans s1') s2 (fun _ hn _ => s3 hn)
        have HE1 := zh E1
        have HE2 := zh E2
        have HRZ := zh hz
        have HTHR : Hid (V1.there (w.heap.size + 1) 0 zs.toArray.size) := zh (HE1.out.there (by have := hz.len; show _ = 9; simpa using this))
        have HINF2 := zh hz.info
        have HONE := zh hz.one
        have HC9 := zh (HBC1.out.frm (HF0.out.frm.trans' s1'.fr (fun _ _ h => h)) (HBV.out.not_own HBC1.out (by decide) (by decide)))
        clear E1 E2 s1' s2 s3 hz
        refine hK.out _ _ (HS13b.out _ HC9.out) (fun hHeld => ?_)
        clear hK K
        try simp only [Act.put, zT, zZ, zS]
        refine zr1 7 (zo rfl) (fun K hK => ?_)
        rw [if_pos (by rfl)]
        refine wp_store_mid _ _ _ rfl _ 0 zs.toArray rfl rfl HTHR.out HINF2.out HONE.out ?_
        have HB9 := zh (blk_setAll HE1.out (vs := zs) (by rw [HRZ.out.len]; rfl))
        have HF9 := zh (frm_setCells (w.heap.size + 1) zs 0 V1)
        refine hK.out _ _ (HS13b.out _ (HC9.out.frm HF9.out (by omega))) (fun hHeld => ?_)
        clear hK K
        try simp only [Act.put, zT, zZ, zS]
        refine wpAnyH_done (by kernel_rfl) ?_ _
        go_wp2_with fail
        exact leave_yes rfl rfl HB9.out HRZ.out (HE2.out zs _ HRZ.out HF9.out)
end
section
open Go.RowKit QueueM
attribute [local go_sem] run_store_float
theorem Words.add {l : List Wt} (h : Words l) {x : Wt} (hx : x.score < 18446744073709551616) : Words (add x l).2 := by
  unfold QueueM.add
  split
  · split
    · exact h
    · split
      · exact h
      · intro y hy
        rcases mem_ins.1 hy with rfl | hy
        · exact hx
        · exact h y hy
  · exact h
theorem Words.remove {l : List Wt} (h : Words l) (id : Int) : Words (remove id l).2 := by
  unfold QueueM.remove
  split
  · exact fun y hy => h y ((del_sub id l).subset hy)
  · exact h
end
end Go.Proofs.YtbeaoddjomdlcaaGreatDoor

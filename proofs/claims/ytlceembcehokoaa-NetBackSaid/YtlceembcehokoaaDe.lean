/- Dn6. (Put together by mg.py.) -/
import Derived.Test.YtlceembcehokoaaDd
import Derived.Laws.EntriesVeiled
import Derived.Laws.ResultCell
namespace Go.Proofs.Ytlceembcehokoaa
open Go.RowKit ReadM
set_option linter.unusedVariables false
set_option maxRecDepth 100000

theorem info_en : (Try.prog.info? 70).map (fun i => (i.zero, i.size, i.bytes)) = some (some (.agg #[.int .i64 0, .int .i64 0, .int .i64 0, .slice none 0 0]), 4, 48) := by kernel_rfl

set_option maxHeartbeats 32000000 in
theorem netDecode_one (w : World) (A : Option Addr) (cap : Nat) (b x : List UInt8) (hsc : Rc.scan b = ([x], b.length)) (hA : Rd w w.heap.size A (b.map bv)) (hl : b.length ≤ 1000000) (hc : b.length ≤ cap) (hm : cap ≤ maxLen) (hxl : x.length ≤ 1000000) :
    Calls Try.prog 14 #[.slice A b.length cap] w fun e w' => NDPost w (decX x) e w' := by
  have HA := Lib.hid hA
  have hmf : ∀ (fn : Fn) (first cap : Array Value) (w : World), (Instr.makeFunc fn first cap).run Try.prog w = .ok (.func fn first cap) w := fun _ _ _ _ => rfl
  obtain ⟨W0, hW0⟩ : ∃ W0, w.alloc (.cells msg0 30) = W0 := ⟨_, rfl⟩
  have HF0 : Hid (Fresh w W0) := Lib.hid (by rw [← hW0]; exact ((Frm.refl _ w).alloc _))
  have BX : Hid (Blk W0 w.heap.size 30 msg0) := Lib.hid (by rw [← hW0]; exact (Blk.new w _ msg0))
  unfold msg0 at hW0
  clear hA
  go_enter Try.func14, Try.ntmps14
  go_wp2_with fail
  first | rw [hW0] | skip
  clear hW0
  have HSC := Rc.scan_any W0 A cap b ((HA.out.fresh (Nat.le_refl _) HF0.out).more HF0.out.size) (by omega) (by omega) (by unfold maxLen at hm; omega)
  unfold Rc.ScanPost at HSC
  rw [hsc] at HSC
  refine HSC.mono ?_
  rintro e w1 ⟨v1, rfl, hL, f1⟩
  obtain ⟨bl, ol, capl, A1, c1, rfl, k1, hle1, hm1, hr1⟩ := lists_one hL
  have HR1 := Lib.hid hr1
  have HF1 := Lib.hid (HF0.out.trans f1)
  have BX1 := Lib.hid (BX.out.frm f1 (fun f => f))
  clear hL hr1 f1 HSC BX HF0
  dsimp only
  go_wp2_with fail
  refine (rdr_new w1 w1.heap.size A1 c1 x HR1.out (Nat.le_refl _) (by omega) hle1 hm1).mono ?_
  rintro e w2 ⟨g, rfl, hr2, f2, hg2⟩
  obtain ⟨p6, hp6⟩ : ∃ p6, w2.heap.size = p6 := ⟨_, rfl⟩
  obtain ⟨W4, hW4⟩ : ∃ W4, (w2.alloc (.cells #[.pointer (some ⟨g, 0, none⟩)] 83)).alloc (.cells #[.func (.func 52) #[] #[.pointer (some ⟨p6, 0, none⟩)]] 86) = W4 := ⟨_, rfl⟩
  have b6 : Blk W4 p6 83 #[.pointer (some ⟨g, 0, none⟩)] := by
    rw [← hW4, ← hp6]
    exact (Blk.new w2 _ _).alloc _
  have b7 : Blk W4 (p6 + 1) 86 #[.func (.func 52) #[] #[.pointer (some ⟨p6, 0, none⟩)]] := by
    rw [← hW4, ← hp6]
    have := Blk.new (w2.alloc (.cells #[.pointer (some ⟨g, 0, none⟩)] 83)) 86 #[.func (.func 52) #[] #[.pointer (some ⟨w2.heap.size, 0, none⟩)]]
    rwa [World.size_alloc] at this
  have f4 : Fresh w2 W4 := by
    rw [← hW4]
    exact ((Frm.refl _ w2).alloc _).alloc _
  have hgr : w.heap.size < g := by have := BX1.out.lt; omega
  have HD4 : Hid (ND w p6 (p6 + 1) g (x, false) W4) := Lib.hid ⟨b6, b7, (hr2.frm f4 (fun f => f) (fun _ _ f => f)), hgr, BX1.out.frm (f2.trans f4) (fun f => f), (HF1.out.trans f2).trans f4, hxl⟩
  clear hr2 f2 f4 b6 b7 BX1 HR1 HF1 HA
  go_upto_region 8 with fail
  first | rw [hW4] | skip
  first | rw [hp6] | skip
  clear hW4 hp6
  have HDa : Hid (ND w p6 (p6 + 1) g (x, false) W4.drew) := Lib.hid (HD4.out.fresh ((Frm.refl _ W4).drew))
  have KS : Hid (∀ w' s, ND w p6 (p6 + 1) g s w' → w'.cell? ⟨p6 + 1, 0, none⟩ = some (.func (.func 52) #[] #[.pointer (some ⟨p6, 0, none⟩)])) := Lib.hid fun w' s h => h.c7.cell 0
  obtain ⟨⟨a0, t0⟩, h0⟩ : ∃ y, rdn 10 (x, false) = y := ⟨_, rfl⟩
  obtain ⟨⟨a1, t1⟩, h1⟩ : ∃ y, rdn 15 t0 = y := ⟨_, rfl⟩
  obtain ⟨⟨a2, t2⟩, h2⟩ : ∃ y, rdn 15 t1 = y := ⟨_, rfl⟩
  obtain ⟨⟨a3, t3⟩, h3⟩ : ∃ y, rdn 1099511627776 t2 = y := ⟨_, rfl⟩
  obtain ⟨⟨a4, t4⟩, h4⟩ : ∃ y, rdi t3 = y := ⟨_, rfl⟩
  obtain ⟨⟨a5, t5⟩, h5⟩ : ∃ y, rdn 1099511627776 t4 = y := ⟨_, rfl⟩
  obtain ⟨⟨a6, t6⟩, h6⟩ : ∃ y, rdn 1 t5 = y := ⟨_, rfl⟩
  obtain ⟨⟨a7, t7⟩, h7⟩ : ∃ y, rdn 1099511627776 t6 = y := ⟨_, rfl⟩
  obtain ⟨⟨a8, t8⟩, h8⟩ : ∃ y, rdi t7 = y := ⟨_, rfl⟩
  obtain ⟨⟨a9, t9⟩, h9⟩ : ∃ y, rdn 1099511627776 t8 = y := ⟨_, rfl⟩
  obtain ⟨⟨a10, t10⟩, h10⟩ : ∃ y, rdn 8 t9 = y := ⟨_, rfl⟩
  have HHD : Hid (readH (x, false) = (⟨a0, a1, a2, a3, a4, a5, a6, a7, a8, a9, a10⟩, t10)) := Lib.hid (by
    unfold readH
    dsimp only
    rw [h0]
    dsimp only
    rw [h1]
    dsimp only
    rw [h2]
    dsimp only
    rw [h3]
    dsimp only
    rw [h4]
    dsimp only
    rw [h5]
    dsimp only
    rw [h6]
    dsimp only
    rw [h7]
    dsimp only
    rw [h8]
    dsimp only
    rw [h9]
    dsimp only
    rw [h10])
  have H0 := Lib.hid h0
  have H1 := Lib.hid h1
  have H2 := Lib.hid h2
  have H3 := Lib.hid h3
  have H4 := Lib.hid h4
  have H5 := Lib.hid h5
  have H6 := Lib.hid h6
  have H7 := Lib.hid h7
  have H8 := Lib.hid h8
  have H9 := Lib.hid h9
  have H10 := Lib.hid h10
  have ha10 : a10 ≤ 8 := by have := rdn_le 8 t9; rw [h10] at this; exact this
  have hyq : ((a6 : Int) == 1) = decide (a6 = 1) := by rw [Bool.eq_iff_iff, beq_iff_eq, decide_eq_true_eq]; omega
  clear HD4 h0 h1 h2 h3 h4 h5 h6 h7 h8 h9 h10
  refine Code.wp_mono (Q := fun e a w' => e = .normal ∧ ∃ q, a = ⟨#[.slice A b.length cap, undef, .pointer (some ⟨w.heap.size, 0, none⟩), .int .i64 0, .slice (some ⟨bl, ol, none⟩) 1 capl, .int .i64 (b.length : Int), .pointer (some ⟨p6, 0, none⟩), .pointer (some ⟨p6 + 1, 0, none⟩), .func (.func 54) #[] #[.pointer (some ⟨p6 + 1, 0, none⟩)], .func (.func 55) #[] #[.pointer (some ⟨p6, 0, none⟩)], .pointer (some ⟨q, 0, none⟩), undef, undef, undef, .tuple #[.slice (some ⟨bl, ol, none⟩) 1 capl, .int .i64 (b.length : Int)], .slice A b.length cap, .tuple #[.slice (some ⟨bl, ol, none⟩) 1 capl, .int .i64 (b.length : Int)], .slice (some ⟨bl, ol, none⟩) 1 capl, .int .i64 (b.length : Int), .slice (some ⟨bl, ol, none⟩) 1 capl, .int .i64 1, .bool false, .bool false, .int .i64 (b.length : Int), .slice A b.length cap, .int .i64 (b.length : Int), .bool false, .bool false, undef, .slice (some ⟨bl, ol, none⟩) 1 capl, .pointer (some ⟨bl, ol, none⟩), .slice A1 x.length c1, .pointer (some ⟨g, 0, none⟩), .func (.func 52) #[] #[.pointer (some ⟨p6, 0, none⟩)], .func (.func 54) #[] #[.pointer (some ⟨p6 + 1, 0, none⟩)], .func (.func 55) #[] #[.pointer (some ⟨p6, 0, none⟩)], .func (.func 52) #[] #[.pointer (some ⟨p6, 0, none⟩)], .int .i64 (a0 : Int), .func (.func 52) #[] #[.pointer (some ⟨p6, 0, none⟩)], .int .i64 (a1 : Int), .func (.func 52) #[] #[.pointer (some ⟨p6, 0, none⟩)], .int .i64 (a2 : Int), .func (.func 54) #[] #[.pointer (some ⟨p6 + 1, 0, none⟩)], .int .i64 (a3 : Int), .agg #[.int .i64 (a0 : Int), .int .i64 (a1 : Int), .int .i64 (a2 : Int), .int .i64 (a3 : Int), .int .i64 0, .int .i64 0, .bool false, .int .i64 0, .int .i64 0, .int .i64 0, .slice none 0 0, .int .i64 0, .int .i64 0, .slice none 0 0, .slice none 0 0, .slice none 0 0], undef, undef, undef, undef, undef, undef, undef, undef, undef, undef, undef, undef, undef, undef, undef, undef, undef, undef, undef, undef, undef, undef, undef, undef, undef, undef, undef, undef, undef, undef, undef, undef, undef, undef, undef, undef, undef, undef, undef, undef, undef, undef, undef, undef, undef, undef, undef, undef, undef, undef, undef, undef, undef, undef, undef, undef, undef, undef, undef, undef, undef, undef, undef, undef, undef], []⟩ ∧ ND w p6 (p6 + 1) g t3 w' ∧ BoxT g q 30 #[.int .i64 (a0 : Int), .int .i64 (a1 : Int), .int .i64 (a2 : Int), .int .i64 (a3 : Int), .int .i64 0, .int .i64 0, .bool false, .int .i64 0, .int .i64 0, .int .i64 0, .slice none 0 0, .int .i64 0, .int .i64 0, .slice none 0 0, .slice none 0 0, .slice none 0 0] w') ?_ ?_
  rotate_left 1
  · refine wp_region_held_drew (S := fun w' => w'.cell? ⟨p6 + 1, 0, none⟩ = some (.func (.func 52) #[] #[.pointer (some ⟨p6, 0, none⟩)])) (by kernel_rfl) (KS.out _ _ HDa.out) (fun hHeld => ?_)
    refine wpAnyH_take (i := 0) (v := ?_) (op_here) (by kernel_rfl) (by kernel_rfl) (by kernel_rfl) (fun _ _ _ h => by cases h.1) (Or.inl ⟨by rfl, ?_⟩) (by assumption) ?_
    rotate_left 1
    (intro w hSw; (try dsimp only at hSw); go_simp; try with_reducible rfl)
    try simp only [Act.put, List.setIfInBounds_toArray, List.set_cons_zero, List.set_cons_succ]
    refine wpAnyH_take (i := 2) (v := ?_) (op_later (op_later (op_here))) (by kernel_rfl) (by kernel_rfl) (by kernel_rfl) (fun _ _ _ h => by cases h.1) (Or.inl ⟨by rfl, ?_⟩) (by assumption) ?_
    rotate_left 1
    (intro w hSw; (try dsimp only at hSw); go_simp; try with_reducible rfl)
    try simp only [Act.put, List.setIfInBounds_toArray, List.set_cons_zero, List.set_cons_succ]
    refine wpAnyH_take (i := 4) (v := ?_) (op_later (op_later (op_later (op_later (op_here))))) (by kernel_rfl) (by kernel_rfl) (by kernel_rfl) (fun _ _ _ h => by cases h.1) (Or.inl ⟨by rfl, ?_⟩) (by assumption) ?_
    rotate_left 1
    (intro w hSw; (try dsimp only at hSw); go_simp; try with_reducible rfl)
    try simp only [Act.put, List.setIfInBounds_toArray, List.set_cons_zero, List.set_cons_succ]
    refine wpAnyH_take (i := 6) (v := ?_) (op_later (op_later (op_later (op_later (op_later (op_later (op_here))))))) (by kernel_rfl) (by kernel_rfl) (by kernel_rfl) (fun _ _ _ h => by cases h.1) (Or.inl ⟨by rfl, ?_⟩) (by assumption) ?_
    rotate_left 1
    (intro w hSw; (try dsimp only at hSw); go_simp; try with_reducible rfl)
    try simp only [Act.put, List.setIfInBounds_toArray, List.set_cons_zero, List.set_cons_succ]
    refine wpAnyH_ready (rs := [1, 9]) (by kernel_rfl) (by simp) (AllReadyH.cons (op_later (op_here)) (fun K hK => ?_) (AllReadyH.cons (op_later (op_later (op_later (op_later (op_later (op_later (op_later (op_later (op_later (op_here)))))))))) (fun K hK => ?_) AllReadyH.nil))
    · go_simp
      refine (ND.number HDa.out 10 (by omega) H0.out).mono ?_
      rintro e wb ⟨rfl, hb, fb⟩
      have HDb := Lib.hid hb
      clear hb fb HDa
      refine hK.out _ _ (KS.out _ _ HDb.out) (fun hHeld => ?_)
      clear hK K
      try simp only [Act.put, List.setIfInBounds_toArray, List.set_cons_zero, List.set_cons_succ]
      refine wpAnyH_ready (rs := [3, 9]) (by kernel_rfl) (by simp) (AllReadyH.cons (op_later (op_later (op_later (op_here)))) (fun K hK => ?_) (AllReadyH.cons (op_later (op_later (op_later (op_later (op_later (op_later (op_later (op_later (op_later (op_here)))))))))) (fun K hK => ?_) AllReadyH.nil))
      · go_simp
        refine (ND.number HDb.out 15 (by omega) H1.out).mono ?_
        rintro e wc ⟨rfl, hc, fc⟩
        have HDc := Lib.hid hc
        clear hc fc HDb
        refine hK.out _ _ (KS.out _ _ HDc.out) (fun hHeld => ?_)
        clear hK K
        try simp only [Act.put, List.setIfInBounds_toArray, List.set_cons_zero, List.set_cons_succ]
        refine wpAnyH_ready (rs := [5, 9]) (by kernel_rfl) (by simp) (AllReadyH.cons (op_later (op_later (op_later (op_later (op_later (op_here)))))) (fun K hK => ?_) (AllReadyH.cons (op_later (op_later (op_later (op_later (op_later (op_later (op_later (op_later (op_later (op_here)))))))))) (fun K hK => ?_) AllReadyH.nil))
        · go_simp
          refine (ND.number HDc.out 15 (by omega) H2.out).mono ?_
          rintro e wd ⟨rfl, hd, fd⟩
          have HDd := Lib.hid hd
          clear hd fd HDc
          refine hK.out _ _ (KS.out _ _ HDd.out) (fun hHeld => ?_)
          clear hK K
          try simp only [Act.put, List.setIfInBounds_toArray, List.set_cons_zero, List.set_cons_succ]
          refine wpAnyH_ready (rs := [7, 9]) (by kernel_rfl) (by simp) (AllReadyH.cons (op_later (op_later (op_later (op_later (op_later (op_later (op_later (op_here)))))))) (fun K hK => ?_) (AllReadyH.cons (op_later (op_later (op_later (op_later (op_later (op_later (op_later (op_later (op_later (op_here)))))))))) (fun K hK => ?_) AllReadyH.nil))
          · go_simp
            refine (ND.index HDd.out H3.out).mono ?_
            rintro e we ⟨rfl, he, fe⟩
            have HDe := Lib.hid he
            clear he fe HDd
            refine hK.out _ _ (KS.out _ _ HDe.out) (fun hHeld => ?_)
            clear hK K
            try simp only [Act.put, List.setIfInBounds_toArray, List.set_cons_zero, List.set_cons_succ]
            refine wpAnyH_take (i := 8) (v := ?_) (op_later (op_later (op_later (op_later (op_later (op_later (op_later (op_later (op_here))))))))) (by kernel_rfl) (by kernel_rfl) (by kernel_rfl) (fun _ _ _ h => by cases h.1) (Or.inl ⟨by rfl, ?_⟩) (by assumption) ?_
            rotate_left 1
            (intro w hSw; (try dsimp only at hSw); go_simp; try with_reducible rfl)
            try simp only [Act.put, List.setIfInBounds_toArray, List.set_cons_zero, List.set_cons_succ]
            refine wpAnyH_ready (rs := [9]) (by kernel_rfl) (by simp) (AllReadyH.cons (op_later (op_later (op_later (op_later (op_later (op_later (op_later (op_later (op_later (op_here)))))))))) (fun K hK => ?_) AllReadyH.nil)
            go_simp
            have HDn := Lib.hid (HDe.out.fresh ((Frm.refl _ (we)).alloc (.cells msg0 30)))
            have HQ : Hid (BoxT g (we).heap.size 30 msg0 ((we).alloc (.cells msg0 30))) := Lib.hid ⟨HDe.out.glt, Blk.new _ _ msg0⟩
            clear HDe
            have HDe := HDn
            clear HDn
            refine hK.out _ _ (KS.out _ _ HDe.out) (fun hHeld => ?_)
            clear hK K
            try simp only [Act.put, List.setIfInBounds_toArray, List.set_cons_zero, List.set_cons_succ]
            refine wpAnyH_ready (rs := [10]) (by kernel_rfl) (by simp) (AllReadyH.cons (op_later (op_later (op_later (op_later (op_later (op_later (op_later (op_later (op_later (op_later (op_here))))))))))) (fun K hK => ?_) AllReadyH.nil)
            rw [if_pos (by rfl)]
            refine wp_store_mid _ _ _ rfl _ 0 #[.int .i64 (a0 : Int), .int .i64 (a1 : Int), .int .i64 (a2 : Int), .int .i64 (a3 : Int), .int .i64 0, .int .i64 0, .bool false, .int .i64 0, .int .i64 0, .int .i64 0, .slice none 0 0, .int .i64 0, .int .i64 0, .slice none 0 0, .slice none 0 0, .slice none 0 0] rfl rfl (HQ.out.2.there rfl) (by kernel_rfl) (by kernel_rfl) ?_
            refine hK.out _ _ (KS.out _ _ (HDe.out.stored (by decide) (by decide) HQ.out [.int .i64 (a0 : Int), .int .i64 (a1 : Int), .int .i64 (a2 : Int), .int .i64 (a3 : Int), .int .i64 0, .int .i64 0, .bool false, .int .i64 0, .int .i64 0, .int .i64 0, .slice none 0 0, .int .i64 0, .int .i64 0, .slice none 0 0, .slice none 0 0, .slice none 0 0] rfl).1) (fun hHeld => ?_)
            clear hK K
            try simp only [Act.put]
            refine wpAnyH_done (by kernel_rfl) ?_ _
            exact ⟨rfl, _, rfl, (HDe.out.stored (by decide) (by decide) HQ.out [.int .i64 (a0 : Int), .int .i64 (a1 : Int), .int .i64 (a2 : Int), .int .i64 (a3 : Int), .int .i64 0, .int .i64 0, .bool false, .int .i64 0, .int .i64 0, .int .i64 0, .slice none 0 0, .int .i64 0, .int .i64 0, .slice none 0 0, .slice none 0 0, .slice none 0 0] rfl).1, (HDe.out.stored (by decide) (by decide) HQ.out [.int .i64 (a0 : Int), .int .i64 (a1 : Int), .int .i64 (a2 : Int), .int .i64 (a3 : Int), .int .i64 0, .int .i64 0, .bool false, .int .i64 0, .int .i64 0, .int .i64 0, .slice none 0 0, .int .i64 0, .int .i64 0, .slice none 0 0, .slice none 0 0, .slice none 0 0] rfl).2⟩
          · go_simp
            have HDn := Lib.hid (HDd.out.fresh ((Frm.refl _ (wd)).alloc (.cells msg0 30)))
            have HQ : Hid (BoxT g (wd).heap.size 30 msg0 ((wd).alloc (.cells msg0 30))) := Lib.hid ⟨HDd.out.glt, Blk.new _ _ msg0⟩
            clear HDd
            have HDd := HDn
            clear HDn
            refine hK.out _ _ (KS.out _ _ HDd.out) (fun hHeld => ?_)
            clear hK K
            try simp only [Act.put, List.setIfInBounds_toArray, List.set_cons_zero, List.set_cons_succ]
            refine wpAnyH_ready (rs := [7]) (by kernel_rfl) (by simp) (AllReadyH.cons (op_later (op_later (op_later (op_later (op_later (op_later (op_later (op_here)))))))) (fun K hK => ?_) AllReadyH.nil)
            go_simp
            refine (ND.index HDd.out H3.out).mono ?_
            rintro e we ⟨rfl, he, fe⟩
            have HDe := Lib.hid he
            have HQn := Lib.hid (HDd.out.boxOn (by decide) HQ.out fe)
            clear HQ
            have HQ := HQn
            clear HQn
            clear he fe HDd
            refine hK.out _ _ (KS.out _ _ HDe.out) (fun hHeld => ?_)
            clear hK K
            try simp only [Act.put, List.setIfInBounds_toArray, List.set_cons_zero, List.set_cons_succ]
            refine wpAnyH_take (i := 8) (v := ?_) (op_later (op_later (op_later (op_later (op_later (op_later (op_later (op_later (op_here))))))))) (by kernel_rfl) (by kernel_rfl) (by kernel_rfl) (fun _ _ _ h => by cases h.1) (Or.inl ⟨by rfl, ?_⟩) (by assumption) ?_
            rotate_left 1
            (intro w hSw; (try dsimp only at hSw); go_simp; try with_reducible rfl)
            try simp only [Act.put, List.setIfInBounds_toArray, List.set_cons_zero, List.set_cons_succ]
            refine wpAnyH_ready (rs := [10]) (by kernel_rfl) (by simp) (AllReadyH.cons (op_later (op_later (op_later (op_later (op_later (op_later (op_later (op_later (op_later (op_later (op_here))))))))))) (fun K hK => ?_) AllReadyH.nil)
            rw [if_pos (by rfl)]
            refine wp_store_mid _ _ _ rfl _ 0 #[.int .i64 (a0 : Int), .int .i64 (a1 : Int), .int .i64 (a2 : Int), .int .i64 (a3 : Int), .int .i64 0, .int .i64 0, .bool false, .int .i64 0, .int .i64 0, .int .i64 0, .slice none 0 0, .int .i64 0, .int .i64 0, .slice none 0 0, .slice none 0 0, .slice none 0 0] rfl rfl (HQ.out.2.there rfl) (by kernel_rfl) (by kernel_rfl) ?_
            refine hK.out _ _ (KS.out _ _ (HDe.out.stored (by decide) (by decide) HQ.out [.int .i64 (a0 : Int), .int .i64 (a1 : Int), .int .i64 (a2 : Int), .int .i64 (a3 : Int), .int .i64 0, .int .i64 0, .bool false, .int .i64 0, .int .i64 0, .int .i64 0, .slice none 0 0, .int .i64 0, .int .i64 0, .slice none 0 0, .slice none 0 0, .slice none 0 0] rfl).1) (fun hHeld => ?_)
            clear hK K
            try simp only [Act.put]
            refine wpAnyH_done (by kernel_rfl) ?_ _
            exact ⟨rfl, _, rfl, (HDe.out.stored (by decide) (by decide) HQ.out [.int .i64 (a0 : Int), .int .i64 (a1 : Int), .int .i64 (a2 : Int), .int .i64 (a3 : Int), .int .i64 0, .int .i64 0, .bool false, .int .i64 0, .int .i64 0, .int .i64 0, .slice none 0 0, .int .i64 0, .int .i64 0, .slice none 0 0, .slice none 0 0, .slice none 0 0] rfl).1, (HDe.out.stored (by decide) (by decide) HQ.out [.int .i64 (a0 : Int), .int .i64 (a1 : Int), .int .i64 (a2 : Int), .int .i64 (a3 : Int), .int .i64 0, .int .i64 0, .bool false, .int .i64 0, .int .i64 0, .int .i64 0, .slice none 0 0, .int .i64 0, .int .i64 0, .slice none 0 0, .slice none 0 0, .slice none 0 0] rfl).2⟩
        · go_simp
          have HDn := Lib.hid (HDc.out.fresh ((Frm.refl _ (wc)).alloc (.cells msg0 30)))
          have HQ : Hid (BoxT g (wc).heap.size 30 msg0 ((wc).alloc (.cells msg0 30))) := Lib.hid ⟨HDc.out.glt, Blk.new _ _ msg0⟩
          clear HDc
          have HDc := HDn
          clear HDn
          refine hK.out _ _ (KS.out _ _ HDc.out) (fun hHeld => ?_)
          clear hK K
          try simp only [Act.put, List.setIfInBounds_toArray, List.set_cons_zero, List.set_cons_succ]
          refine wpAnyH_ready (rs := [5]) (by kernel_rfl) (by simp) (AllReadyH.cons (op_later (op_later (op_later (op_later (op_later (op_here)))))) (fun K hK => ?_) AllReadyH.nil)
          go_simp
          refine (ND.number HDc.out 15 (by omega) H2.out).mono ?_
          rintro e wd ⟨rfl, hd, fd⟩
          have HDd := Lib.hid hd
          have HQn := Lib.hid (HDc.out.boxOn (by decide) HQ.out fd)
          clear HQ
          have HQ := HQn
          clear HQn
          clear hd fd HDc
          refine hK.out _ _ (KS.out _ _ HDd.out) (fun hHeld => ?_)
          clear hK K
          try simp only [Act.put, List.setIfInBounds_toArray, List.set_cons_zero, List.set_cons_succ]
          refine wpAnyH_ready (rs := [7]) (by kernel_rfl) (by simp) (AllReadyH.cons (op_later (op_later (op_later (op_later (op_later (op_later (op_later (op_here)))))))) (fun K hK => ?_) AllReadyH.nil)
          go_simp
          refine (ND.index HDd.out H3.out).mono ?_
          rintro e we ⟨rfl, he, fe⟩
          have HDe := Lib.hid he
          have HQn := Lib.hid (HDd.out.boxOn (by decide) HQ.out fe)
          clear HQ
          have HQ := HQn
          clear HQn
          clear he fe HDd
          refine hK.out _ _ (KS.out _ _ HDe.out) (fun hHeld => ?_)
          clear hK K
          try simp only [Act.put, List.setIfInBounds_toArray, List.set_cons_zero, List.set_cons_succ]
          refine wpAnyH_take (i := 8) (v := ?_) (op_later (op_later (op_later (op_later (op_later (op_later (op_later (op_later (op_here))))))))) (by kernel_rfl) (by kernel_rfl) (by kernel_rfl) (fun _ _ _ h => by cases h.1) (Or.inl ⟨by rfl, ?_⟩) (by assumption) ?_
          rotate_left 1
          (intro w hSw; (try dsimp only at hSw); go_simp; try with_reducible rfl)
          try simp only [Act.put, List.setIfInBounds_toArray, List.set_cons_zero, List.set_cons_succ]
          refine wpAnyH_ready (rs := [10]) (by kernel_rfl) (by simp) (AllReadyH.cons (op_later (op_later (op_later (op_later (op_later (op_later (op_later (op_later (op_later (op_later (op_here))))))))))) (fun K hK => ?_) AllReadyH.nil)
          rw [if_pos (by rfl)]
          refine wp_store_mid _ _ _ rfl _ 0 #[.int .i64 (a0 : Int), .int .i64 (a1 : Int), .int .i64 (a2 : Int), .int .i64 (a3 : Int), .int .i64 0, .int .i64 0, .bool false, .int .i64 0, .int .i64 0, .int .i64 0, .slice none 0 0, .int .i64 0, .int .i64 0, .slice none 0 0, .slice none 0 0, .slice none 0 0] rfl rfl (HQ.out.2.there rfl) (by kernel_rfl) (by kernel_rfl) ?_
          refine hK.out _ _ (KS.out _ _ (HDe.out.stored (by decide) (by decide) HQ.out [.int .i64 (a0 : Int), .int .i64 (a1 : Int), .int .i64 (a2 : Int), .int .i64 (a3 : Int), .int .i64 0, .int .i64 0, .bool false, .int .i64 0, .int .i64 0, .int .i64 0, .slice none 0 0, .int .i64 0, .int .i64 0, .slice none 0 0, .slice none 0 0, .slice none 0 0] rfl).1) (fun hHeld => ?_)
          clear hK K
          try simp only [Act.put]
          refine wpAnyH_done (by kernel_rfl) ?_ _
          exact ⟨rfl, _, rfl, (HDe.out.stored (by decide) (by decide) HQ.out [.int .i64 (a0 : Int), .int .i64 (a1 : Int), .int .i64 (a2 : Int), .int .i64 (a3 : Int), .int .i64 0, .int .i64 0, .bool false, .int .i64 0, .int .i64 0, .int .i64 0, .slice none 0 0, .int .i64 0, .int .i64 0, .slice none 0 0, .slice none 0 0, .slice none 0 0] rfl).1, (HDe.out.stored (by decide) (by decide) HQ.out [.int .i64 (a0 : Int), .int .i64 (a1 : Int), .int .i64 (a2 : Int), .int .i64 (a3 : Int), .int .i64 0, .int .i64 0, .bool false, .int .i64 0, .int .i64 0, .int .i64 0, .slice none 0 0, .int .i64 0, .int .i64 0, .slice none 0 0, .slice none 0 0, .slice none 0 0] rfl).2⟩
      · go_simp
        have HDn := Lib.hid (HDb.out.fresh ((Frm.refl _ (wb)).alloc (.cells msg0 30)))
        have HQ : Hid (BoxT g (wb).heap.size 30 msg0 ((wb).alloc (.cells msg0 30))) := Lib.hid ⟨HDb.out.glt, Blk.new _ _ msg0⟩
        clear HDb
        have HDb := HDn
        clear HDn
        refine hK.out _ _ (KS.out _ _ HDb.out) (fun hHeld => ?_)
        clear hK K
        try simp only [Act.put, List.setIfInBounds_toArray, List.set_cons_zero, List.set_cons_succ]
        refine wpAnyH_ready (rs := [3]) (by kernel_rfl) (by simp) (AllReadyH.cons (op_later (op_later (op_later (op_here)))) (fun K hK => ?_) AllReadyH.nil)
        go_simp
        refine (ND.number HDb.out 15 (by omega) H1.out).mono ?_
        rintro e wc ⟨rfl, hc, fc⟩
        have HDc := Lib.hid hc
        have HQn := Lib.hid (HDb.out.boxOn (by decide) HQ.out fc)
        clear HQ
        have HQ := HQn
        clear HQn
        clear hc fc HDb
        refine hK.out _ _ (KS.out _ _ HDc.out) (fun hHeld => ?_)
        clear hK K
        try simp only [Act.put, List.setIfInBounds_toArray, List.set_cons_zero, List.set_cons_succ]
        refine wpAnyH_ready (rs := [5]) (by kernel_rfl) (by simp) (AllReadyH.cons (op_later (op_later (op_later (op_later (op_later (op_here)))))) (fun K hK => ?_) AllReadyH.nil)
        go_simp
        refine (ND.number HDc.out 15 (by omega) H2.out).mono ?_
        rintro e wd ⟨rfl, hd, fd⟩
        have HDd := Lib.hid hd
        have HQn := Lib.hid (HDc.out.boxOn (by decide) HQ.out fd)
        clear HQ
        have HQ := HQn
        clear HQn
        clear hd fd HDc
        refine hK.out _ _ (KS.out _ _ HDd.out) (fun hHeld => ?_)
        clear hK K
        try simp only [Act.put, List.setIfInBounds_toArray, List.set_cons_zero, List.set_cons_succ]
        refine wpAnyH_ready (rs := [7]) (by kernel_rfl) (by simp) (AllReadyH.cons (op_later (op_later (op_later (op_later (op_later (op_later (op_later (op_here)))))))) (fun K hK => ?_) AllReadyH.nil)
        go_simp
        refine (ND.index HDd.out H3.out).mono ?_
        rintro e we ⟨rfl, he, fe⟩
        have HDe := Lib.hid he
        have HQn := Lib.hid (HDd.out.boxOn (by decide) HQ.out fe)
        clear HQ
        have HQ := HQn
        clear HQn
        clear he fe HDd
        refine hK.out _ _ (KS.out _ _ HDe.out) (fun hHeld => ?_)
        clear hK K
        try simp only [Act.put, List.setIfInBounds_toArray, List.set_cons_zero, List.set_cons_succ]
        refine wpAnyH_take (i := 8) (v := ?_) (op_later (op_later (op_later (op_later (op_later (op_later (op_later (op_later (op_here))))))))) (by kernel_rfl) (by kernel_rfl) (by kernel_rfl) (fun _ _ _ h => by cases h.1) (Or.inl ⟨by rfl, ?_⟩) (by assumption) ?_
        rotate_left 1
        (intro w hSw; (try dsimp only at hSw); go_simp; try with_reducible rfl)
        try simp only [Act.put, List.setIfInBounds_toArray, List.set_cons_zero, List.set_cons_succ]
        refine wpAnyH_ready (rs := [10]) (by kernel_rfl) (by simp) (AllReadyH.cons (op_later (op_later (op_later (op_later (op_later (op_later (op_later (op_later (op_later (op_later (op_here))))))))))) (fun K hK => ?_) AllReadyH.nil)
        rw [if_pos (by rfl)]
        refine wp_store_mid _ _ _ rfl _ 0 #[.int .i64 (a0 : Int), .int .i64 (a1 : Int), .int .i64 (a2 : Int), .int .i64 (a3 : Int), .int .i64 0, .int .i64 0, .bool false, .int .i64 0, .int .i64 0, .int .i64 0, .slice none 0 0, .int .i64 0, .int .i64 0, .slice none 0 0, .slice none 0 0, .slice none 0 0] rfl rfl (HQ.out.2.there rfl) (by kernel_rfl) (by kernel_rfl) ?_
        refine hK.out _ _ (KS.out _ _ (HDe.out.stored (by decide) (by decide) HQ.out [.int .i64 (a0 : Int), .int .i64 (a1 : Int), .int .i64 (a2 : Int), .int .i64 (a3 : Int), .int .i64 0, .int .i64 0, .bool false, .int .i64 0, .int .i64 0, .int .i64 0, .slice none 0 0, .int .i64 0, .int .i64 0, .slice none 0 0, .slice none 0 0, .slice none 0 0] rfl).1) (fun hHeld => ?_)
        clear hK K
        try simp only [Act.put]
        refine wpAnyH_done (by kernel_rfl) ?_ _
        exact ⟨rfl, _, rfl, (HDe.out.stored (by decide) (by decide) HQ.out [.int .i64 (a0 : Int), .int .i64 (a1 : Int), .int .i64 (a2 : Int), .int .i64 (a3 : Int), .int .i64 0, .int .i64 0, .bool false, .int .i64 0, .int .i64 0, .int .i64 0, .slice none 0 0, .int .i64 0, .int .i64 0, .slice none 0 0, .slice none 0 0, .slice none 0 0] rfl).1, (HDe.out.stored (by decide) (by decide) HQ.out [.int .i64 (a0 : Int), .int .i64 (a1 : Int), .int .i64 (a2 : Int), .int .i64 (a3 : Int), .int .i64 0, .int .i64 0, .bool false, .int .i64 0, .int .i64 0, .int .i64 0, .slice none 0 0, .int .i64 0, .int .i64 0, .slice none 0 0, .slice none 0 0, .slice none 0 0] rfl).2⟩
    · go_simp
      have HDn := Lib.hid (HDa.out.fresh ((Frm.refl _ (W4.drew)).alloc (.cells msg0 30)))
      have HQ : Hid (BoxT g (W4.drew).heap.size 30 msg0 ((W4.drew).alloc (.cells msg0 30))) := Lib.hid ⟨HDa.out.glt, Blk.new _ _ msg0⟩
      clear HDa
      have HDa := HDn
      clear HDn
      refine hK.out _ _ (KS.out _ _ HDa.out) (fun hHeld => ?_)
      clear hK K
      try simp only [Act.put, List.setIfInBounds_toArray, List.set_cons_zero, List.set_cons_succ]
      refine wpAnyH_ready (rs := [1]) (by kernel_rfl) (by simp) (AllReadyH.cons (op_later (op_here)) (fun K hK => ?_) AllReadyH.nil)
      go_simp
      refine (ND.number HDa.out 10 (by omega) H0.out).mono ?_
      rintro e wb ⟨rfl, hb, fb⟩
      have HDb := Lib.hid hb
      have HQn := Lib.hid (HDa.out.boxOn (by decide) HQ.out fb)
      clear HQ
      have HQ := HQn
      clear HQn
      clear hb fb HDa
      refine hK.out _ _ (KS.out _ _ HDb.out) (fun hHeld => ?_)
      clear hK K
      try simp only [Act.put, List.setIfInBounds_toArray, List.set_cons_zero, List.set_cons_succ]
      refine wpAnyH_ready (rs := [3]) (by kernel_rfl) (by simp) (AllReadyH.cons (op_later (op_later (op_later (op_here)))) (fun K hK => ?_) AllReadyH.nil)
      go_simp
      refine (ND.number HDb.out 15 (by omega) H1.out).mono ?_
      rintro e wc ⟨rfl, hc, fc⟩
      have HDc := Lib.hid hc
      have HQn := Lib.hid (HDb.out.boxOn (by decide) HQ.out fc)
      clear HQ
      have HQ := HQn
      clear HQn
      clear hc fc HDb
      refine hK.out _ _ (KS.out _ _ HDc.out) (fun hHeld => ?_)
      clear hK K
      try simp only [Act.put, List.setIfInBounds_toArray, List.set_cons_zero, List.set_cons_succ]
      refine wpAnyH_ready (rs := [5]) (by kernel_rfl) (by simp) (AllReadyH.cons (op_later (op_later (op_later (op_later (op_later (op_here)))))) (fun K hK => ?_) AllReadyH.nil)
      go_simp
      refine (ND.number HDc.out 15 (by omega) H2.out).mono ?_
      rintro e wd ⟨rfl, hd, fd⟩
      have HDd := Lib.hid hd
      have HQn := Lib.hid (HDc.out.boxOn (by decide) HQ.out fd)
      clear HQ
      have HQ := HQn
      clear HQn
      clear hd fd HDc
      refine hK.out _ _ (KS.out _ _ HDd.out) (fun hHeld => ?_)
      clear hK K
      try simp only [Act.put, List.setIfInBounds_toArray, List.set_cons_zero, List.set_cons_succ]
      refine wpAnyH_ready (rs := [7]) (by kernel_rfl) (by simp) (AllReadyH.cons (op_later (op_later (op_later (op_later (op_later (op_later (op_later (op_here)))))))) (fun K hK => ?_) AllReadyH.nil)
      go_simp
      refine (ND.index HDd.out H3.out).mono ?_
      rintro e we ⟨rfl, he, fe⟩
      have HDe := Lib.hid he
      have HQn := Lib.hid (HDd.out.boxOn (by decide) HQ.out fe)
      clear HQ
      have HQ := HQn
      clear HQn
      clear he fe HDd
      refine hK.out _ _ (KS.out _ _ HDe.out) (fun hHeld => ?_)
      clear hK K
      try simp only [Act.put, List.setIfInBounds_toArray, List.set_cons_zero, List.set_cons_succ]
      refine wpAnyH_take (i := 8) (v := ?_) (op_later (op_later (op_later (op_later (op_later (op_later (op_later (op_later (op_here))))))))) (by kernel_rfl) (by kernel_rfl) (by kernel_rfl) (fun _ _ _ h => by cases h.1) (Or.inl ⟨by rfl, ?_⟩) (by assumption) ?_
      rotate_left 1
      (intro w hSw; (try dsimp only at hSw); go_simp; try with_reducible rfl)
      try simp only [Act.put, List.setIfInBounds_toArray, List.set_cons_zero, List.set_cons_succ]
      refine wpAnyH_ready (rs := [10]) (by kernel_rfl) (by simp) (AllReadyH.cons (op_later (op_later (op_later (op_later (op_later (op_later (op_later (op_later (op_later (op_later (op_here))))))))))) (fun K hK => ?_) AllReadyH.nil)
      rw [if_pos (by rfl)]
      refine wp_store_mid _ _ _ rfl _ 0 #[.int .i64 (a0 : Int), .int .i64 (a1 : Int), .int .i64 (a2 : Int), .int .i64 (a3 : Int), .int .i64 0, .int .i64 0, .bool false, .int .i64 0, .int .i64 0, .int .i64 0, .slice none 0 0, .int .i64 0, .int .i64 0, .slice none 0 0, .slice none 0 0, .slice none 0 0] rfl rfl (HQ.out.2.there rfl) (by kernel_rfl) (by kernel_rfl) ?_
      refine hK.out _ _ (KS.out _ _ (HDe.out.stored (by decide) (by decide) HQ.out [.int .i64 (a0 : Int), .int .i64 (a1 : Int), .int .i64 (a2 : Int), .int .i64 (a3 : Int), .int .i64 0, .int .i64 0, .bool false, .int .i64 0, .int .i64 0, .int .i64 0, .slice none 0 0, .int .i64 0, .int .i64 0, .slice none 0 0, .slice none 0 0, .slice none 0 0] rfl).1) (fun hHeld => ?_)
      clear hK K
      try simp only [Act.put]
      refine wpAnyH_done (by kernel_rfl) ?_ _
      exact ⟨rfl, _, rfl, (HDe.out.stored (by decide) (by decide) HQ.out [.int .i64 (a0 : Int), .int .i64 (a1 : Int), .int .i64 (a2 : Int), .int .i64 (a3 : Int), .int .i64 0, .int .i64 0, .bool false, .int .i64 0, .int .i64 0, .int .i64 0, .slice none 0 0, .int .i64 0, .int .i64 0, .slice none 0 0, .slice none 0 0, .slice none 0 0] rfl).1, (HDe.out.stored (by decide) (by decide) HQ.out [.int .i64 (a0 : Int), .int .i64 (a1 : Int), .int .i64 (a2 : Int), .int .i64 (a3 : Int), .int .i64 0, .int .i64 0, .bool false, .int .i64 0, .int .i64 0, .int .i64 0, .slice none 0 0, .int .i64 0, .int .i64 0, .slice none 0 0, .slice none 0 0, .slice none 0 0] rfl).2⟩
  rintro e a W ⟨rfl, q, rfl, hk, hb⟩
  have HD3 := Lib.hid hk
  have HB3 := Lib.hid hb
  have hcl : W.cell? ⟨p6 + 1, 0, none⟩ = some (.func (.func 52) #[] #[.pointer (some ⟨p6, 0, none⟩)]) := KS.out _ _ HD3.out
  clear hk hb HDa
  go_wp2_with fail
  refine (HD3.out.signed H4.out).mono ?_
  rintro e w4 ⟨rfl, h4, f4⟩
  have HR4 := Lib.hid (HD3.out.boxOn (by decide) HB3.out f4)
  have y4 : w4.cell? ⟨q, 4, none⟩ = some (.int .i64 0) := HR4.out.2.cell 4
  have z4 : w4.frozen? ⟨q, 4, none⟩ = false := HR4.out.2.frozen 4
  obtain ⟨V4, hV4⟩ : ∃ V, w4.setCell ⟨q, 4, none⟩ (.int .i64 a4) = V := ⟨_, rfl⟩
  have FS4 : Frm (fun j => j = q) w4 V4 := by rw [← hV4]; exact (Frm.refl (fun j => j = q) w4).setCell (p := ⟨q, 4, none⟩) (fun _ => rfl) _
  have HD4 : Hid (ND w p6 (p6 + 1) g t4 V4) := Lib.hid (h4.write HR4.out.2 (by decide) (by decide) HR4.out.1 FS4)
  have HB4 : Hid (BoxT g q 30 #[.int .i64 (a0 : Int), .int .i64 (a1 : Int), .int .i64 (a2 : Int), .int .i64 (a3 : Int), .int .i64 a4, .int .i64 0, .bool false, .int .i64 0, .int .i64 0, .int .i64 0, .slice none 0 0, .int .i64 0, .int .i64 0, .slice none 0 0, .slice none 0 0, .slice none 0 0] V4) := Lib.hid (by
    refine ⟨HR4.out.1, ?_⟩
    rw [← hV4]
    exact HR4.out.2.set 4 _)
  have x4 : V4.cell? ⟨p6 + 1, 0, none⟩ = some (.func (.func 52) #[] #[.pointer (some ⟨p6, 0, none⟩)]) := KS.out _ _ HD4.out
  clear h4 f4 FS4 HR4 HD3 HB3 hcl
  go_wp2_with fail
  clear hV4 y4 z4 x4
  refine (HD4.out.index H5.out).mono ?_
  rintro e w5 ⟨rfl, h5, f5⟩
  have HR5 := Lib.hid (HD4.out.boxOn (by decide) HB4.out f5)
  have y5 : w5.cell? ⟨q, 5, none⟩ = some (.int .i64 0) := HR5.out.2.cell 5
  have z5 : w5.frozen? ⟨q, 5, none⟩ = false := HR5.out.2.frozen 5
  obtain ⟨V5, hV5⟩ : ∃ V, w5.setCell ⟨q, 5, none⟩ (.int .i64 (a5 : Int)) = V := ⟨_, rfl⟩
  have FS5 : Frm (fun j => j = q) w5 V5 := by rw [← hV5]; exact (Frm.refl (fun j => j = q) w5).setCell (p := ⟨q, 5, none⟩) (fun _ => rfl) _
  have HD5 : Hid (ND w p6 (p6 + 1) g t5 V5) := Lib.hid (h5.write HR5.out.2 (by decide) (by decide) HR5.out.1 FS5)
  have HB5 : Hid (BoxT g q 30 #[.int .i64 (a0 : Int), .int .i64 (a1 : Int), .int .i64 (a2 : Int), .int .i64 (a3 : Int), .int .i64 a4, .int .i64 (a5 : Int), .bool false, .int .i64 0, .int .i64 0, .int .i64 0, .slice none 0 0, .int .i64 0, .int .i64 0, .slice none 0 0, .slice none 0 0, .slice none 0 0] V5) := Lib.hid (by
    refine ⟨HR5.out.1, ?_⟩
    rw [← hV5]
    exact HR5.out.2.set 5 _)
  have x5 : V5.cell? ⟨p6 + 1, 0, none⟩ = some (.func (.func 52) #[] #[.pointer (some ⟨p6, 0, none⟩)]) := KS.out _ _ HD5.out
  clear h5 f5 FS5 HR5 HD4 HB4 
  go_wp2_with fail
  clear hV5 y5 z5 x5
  refine (HD5.out.number 1 (by omega) H6.out).mono ?_
  rintro e w6 ⟨rfl, h6, f6⟩
  have HR6 := Lib.hid (HD5.out.boxOn (by decide) HB5.out f6)
  have y6 : w6.cell? ⟨q, 6, none⟩ = some (.bool false) := HR6.out.2.cell 6
  have z6 : w6.frozen? ⟨q, 6, none⟩ = false := HR6.out.2.frozen 6
  obtain ⟨V6, hV6⟩ : ∃ V, w6.setCell ⟨q, 6, none⟩ (.bool (decide (a6 = 1))) = V := ⟨_, rfl⟩
  have FS6 : Frm (fun j => j = q) w6 V6 := by rw [← hV6]; exact (Frm.refl (fun j => j = q) w6).setCell (p := ⟨q, 6, none⟩) (fun _ => rfl) _
  have HD6 : Hid (ND w p6 (p6 + 1) g t6 V6) := Lib.hid (h6.write HR6.out.2 (by decide) (by decide) HR6.out.1 FS6)
  have HB6 : Hid (BoxT g q 30 #[.int .i64 (a0 : Int), .int .i64 (a1 : Int), .int .i64 (a2 : Int), .int .i64 (a3 : Int), .int .i64 a4, .int .i64 (a5 : Int), .bool (decide (a6 = 1)), .int .i64 0, .int .i64 0, .int .i64 0, .slice none 0 0, .int .i64 0, .int .i64 0, .slice none 0 0, .slice none 0 0, .slice none 0 0] V6) := Lib.hid (by
    refine ⟨HR6.out.1, ?_⟩
    rw [← hV6]
    exact HR6.out.2.set 6 _)
  have x6 : V6.cell? ⟨p6 + 1, 0, none⟩ = some (.func (.func 52) #[] #[.pointer (some ⟨p6, 0, none⟩)]) := KS.out _ _ HD6.out
  clear h6 f6 FS6 HR6 HD5 HB5 
  go_wp2_with fail
  clear hV6 y6 z6 x6
  refine (HD6.out.index H7.out).mono ?_
  rintro e w7 ⟨rfl, h7, f7⟩
  have HR7 := Lib.hid (HD6.out.boxOn (by decide) HB6.out f7)
  have y7 : w7.cell? ⟨q, 7, none⟩ = some (.int .i64 0) := HR7.out.2.cell 7
  have z7 : w7.frozen? ⟨q, 7, none⟩ = false := HR7.out.2.frozen 7
  obtain ⟨V7, hV7⟩ : ∃ V, w7.setCell ⟨q, 7, none⟩ (.int .i64 (a7 : Int)) = V := ⟨_, rfl⟩
  have FS7 : Frm (fun j => j = q) w7 V7 := by rw [← hV7]; exact (Frm.refl (fun j => j = q) w7).setCell (p := ⟨q, 7, none⟩) (fun _ => rfl) _
  have HD7 : Hid (ND w p6 (p6 + 1) g t7 V7) := Lib.hid (h7.write HR7.out.2 (by decide) (by decide) HR7.out.1 FS7)
  have HB7 : Hid (BoxT g q 30 #[.int .i64 (a0 : Int), .int .i64 (a1 : Int), .int .i64 (a2 : Int), .int .i64 (a3 : Int), .int .i64 a4, .int .i64 (a5 : Int), .bool (decide (a6 = 1)), .int .i64 (a7 : Int), .int .i64 0, .int .i64 0, .slice none 0 0, .int .i64 0, .int .i64 0, .slice none 0 0, .slice none 0 0, .slice none 0 0] V7) := Lib.hid (by
    refine ⟨HR7.out.1, ?_⟩
    rw [← hV7]
    exact HR7.out.2.set 7 _)
  have x7 : V7.cell? ⟨p6 + 1, 0, none⟩ = some (.func (.func 52) #[] #[.pointer (some ⟨p6, 0, none⟩)]) := KS.out _ _ HD7.out
  clear h7 f7 FS7 HR7 HD6 HB6 
  go_wp2_with fail
  clear hV7 y7 z7 x7
  refine (HD7.out.signed H8.out).mono ?_
  rintro e w8 ⟨rfl, h8, f8⟩
  have HR8 := Lib.hid (HD7.out.boxOn (by decide) HB7.out f8)
  have y8 : w8.cell? ⟨q, 8, none⟩ = some (.int .i64 0) := HR8.out.2.cell 8
  have z8 : w8.frozen? ⟨q, 8, none⟩ = false := HR8.out.2.frozen 8
  obtain ⟨V8, hV8⟩ : ∃ V, w8.setCell ⟨q, 8, none⟩ (.int .i64 a8) = V := ⟨_, rfl⟩
  have FS8 : Frm (fun j => j = q) w8 V8 := by rw [← hV8]; exact (Frm.refl (fun j => j = q) w8).setCell (p := ⟨q, 8, none⟩) (fun _ => rfl) _
  have HD8 : Hid (ND w p6 (p6 + 1) g t8 V8) := Lib.hid (h8.write HR8.out.2 (by decide) (by decide) HR8.out.1 FS8)
  have HB8 : Hid (BoxT g q 30 #[.int .i64 (a0 : Int), .int .i64 (a1 : Int), .int .i64 (a2 : Int), .int .i64 (a3 : Int), .int .i64 a4, .int .i64 (a5 : Int), .bool (decide (a6 = 1)), .int .i64 (a7 : Int), .int .i64 a8, .int .i64 0, .slice none 0 0, .int .i64 0, .int .i64 0, .slice none 0 0, .slice none 0 0, .slice none 0 0] V8) := Lib.hid (by
    refine ⟨HR8.out.1, ?_⟩
    rw [← hV8]
    exact HR8.out.2.set 8 _)
  have x8 : V8.cell? ⟨p6 + 1, 0, none⟩ = some (.func (.func 52) #[] #[.pointer (some ⟨p6, 0, none⟩)]) := KS.out _ _ HD8.out
  clear h8 f8 FS8 HR8 HD7 HB7 
  go_wp2_with fail
  clear hV8 y8 z8 x8
  refine (HD8.out.index H9.out).mono ?_
  rintro e w9 ⟨rfl, h9, f9⟩
  have HR9 := Lib.hid (HD8.out.boxOn (by decide) HB8.out f9)
  have y9 : w9.cell? ⟨q, 9, none⟩ = some (.int .i64 0) := HR9.out.2.cell 9
  have z9 : w9.frozen? ⟨q, 9, none⟩ = false := HR9.out.2.frozen 9
  obtain ⟨V9, hV9⟩ : ∃ V, w9.setCell ⟨q, 9, none⟩ (.int .i64 (a9 : Int)) = V := ⟨_, rfl⟩
  have FS9 : Frm (fun j => j = q) w9 V9 := by rw [← hV9]; exact (Frm.refl (fun j => j = q) w9).setCell (p := ⟨q, 9, none⟩) (fun _ => rfl) _
  have HD9 : Hid (ND w p6 (p6 + 1) g t9 V9) := Lib.hid (h9.write HR9.out.2 (by decide) (by decide) HR9.out.1 FS9)
  have HB9 : Hid (BoxT g q 30 #[.int .i64 (a0 : Int), .int .i64 (a1 : Int), .int .i64 (a2 : Int), .int .i64 (a3 : Int), .int .i64 a4, .int .i64 (a5 : Int), .bool (decide (a6 = 1)), .int .i64 (a7 : Int), .int .i64 a8, .int .i64 (a9 : Int), .slice none 0 0, .int .i64 0, .int .i64 0, .slice none 0 0, .slice none 0 0, .slice none 0 0] V9) := Lib.hid (by
    refine ⟨HR9.out.1, ?_⟩
    rw [← hV9]
    exact HR9.out.2.set 9 _)
  have x9 : V9.cell? ⟨p6 + 1, 0, none⟩ = some (.func (.func 52) #[] #[.pointer (some ⟨p6, 0, none⟩)]) := KS.out _ _ HD9.out
  clear h9 f9 FS9 HR9 HD8 HB8 
  go_wp2_with fail
  clear hV9 y9 z9 x9
  refine (HD9.out.number 8 (by omega) H10.out).mono ?_
  rintro e w10 ⟨rfl, h10, f10⟩
  have HD10 := Lib.hid h10
  have HB10 := Lib.hid (HD9.out.boxOn (by decide) HB9.out f10)
  clear h10 f10 HD9 HB9 hyq
  go_wp2_with fail
  obtain ⟨hd, hhd⟩ : ∃ hd : HdM, hd = ⟨a0, a1, a2, a3, a4, a5, a6, a7, a8, a9, a10⟩ := ⟨_, rfl⟩
  obtain ⟨B, hB⟩ : ∃ B, B = w10.heap.size := ⟨_, rfl⟩
  have HLI : Hid (LI w B p6 (p6 + 1) g q hd [] (.slice none 0 0) t10 w10) := Lib.hid (by
    rw [hB, hhd]
    exact ⟨HD10.out, HB10.out, Sl.nil _ _ _ _, (fun e he => by cases he), Nat.le_refl _, HB10.out.2.lt, HD10.out.c6.lt, HD10.out.c7.lt⟩)
  have HHE := Lib.hid hhd
  clear HD10 HB10 hB hhd
  have KS2 : Hid (∀ w' l v z, LI w B p6 (p6 + 1) g q hd l v z w' → w'.cell? ⟨p6 + 1, 0, none⟩ = some (.func (.func 52) #[] #[.pointer (some ⟨p6, 0, none⟩)])) := Lib.hid fun w' l v z h => h.nd.c7.cell 0
  obtain ⟨ie, hie, hze0, hze1, hze2⟩ := info_parts info_en
  go_loopw [66] (fun v66 wr => ∃ (i : Nat) (l : List En) (v : Value) (z : RS), i ≤ a10 ∧ v66 = .int .i64 (i : Int) ∧ l.length = i ∧ readEs a10 [] t10 = readEs (a10 - i) (l.map eraseE) z ∧ LI w B p6 (p6 + 1) g q hd l v z wr) (fun v66 _ => a10 - (intOf v66).toNat)
  case atStart => exact ⟨0, [], _, t10, by omega, rfl, rfl, rfl, HLI.out⟩
  case round =>
    clear HLI
    obtain ⟨i, l, v, z, hin, rfl, hli, hre, hI⟩ := hrel
    have hi0 : (0 : Int) ≤ (i : Int) := by omega
    have HLN := Lib.hid hli
    have hll : l.length ≤ 8 := by omega
    have HRD := Lib.hid hre
    have HI := Lib.hid hI
    clear hli hre hI
    by_cases hlt : i < a10
    · have hlti : (i : Int) < (a10 : Int) := by omega
      obtain ⟨⟨b0, u0⟩, k0⟩ : ∃ y, rdn 1099511627776 z = y := ⟨_, rfl⟩
      obtain ⟨⟨b1, u1⟩, k1'⟩ : ∃ y, rdn 1099511627776 u0 = y := ⟨_, rfl⟩
      obtain ⟨⟨b2, u2⟩, k2⟩ : ∃ y, rdn 7 u1 = y := ⟨_, rfl⟩
      obtain ⟨⟨dd, u3⟩, k3⟩ : ∃ y, rdt 4096 u2 = y := ⟨_, rfl⟩
      have HRE : Hid (readE z = (⟨(b0 : Int), (b1 : Int), (b2 : Int), none, 0, dd⟩, u3)) := Lib.hid (by
        unfold readE
        dsimp only
        rw [k0]
        dsimp only
        rw [k1']
        dsimp only
        rw [k2]
        dsimp only
        rw [k3])
      have hdd : dd.length ≤ 4096 := by have := rdt_le (most := 4096) (by omega) u2; rw [k3] at this; dsimp only at this; omega
      have K0 := Lib.hid k0
      have K1 := Lib.hid k1'
      have K2 := Lib.hid k2
      have K3 := Lib.hid k3
      clear k0 k1' k2 k3
      go_wp2_with fail
      refine Code.wp_mono (Q := fun e a w' => e = .normal ∧ ∃ qe, a = ⟨#[.slice A b.length cap, undef, .pointer (some ⟨w.heap.size, 0, none⟩), .int .i64 0, .slice (some ⟨bl, ol, none⟩) 1 capl, .int .i64 (b.length : Int), .pointer (some ⟨p6, 0, none⟩), .pointer (some ⟨p6 + 1, 0, none⟩), .func (.func 54) #[] #[.pointer (some ⟨p6 + 1, 0, none⟩)], .func (.func 55) #[] #[.pointer (some ⟨p6, 0, none⟩)], .pointer (some ⟨q, 0, none⟩), .pointer (some ⟨qe, 0, none⟩), undef, undef, .tuple #[.slice (some ⟨bl, ol, none⟩) 1 capl, .int .i64 (b.length : Int)], .slice A b.length cap, .tuple #[.slice (some ⟨bl, ol, none⟩) 1 capl, .int .i64 (b.length : Int)], .slice (some ⟨bl, ol, none⟩) 1 capl, .int .i64 (b.length : Int), .slice (some ⟨bl, ol, none⟩) 1 capl, .int .i64 1, .bool false, .bool false, .int .i64 (b.length : Int), .slice A b.length cap, .int .i64 (b.length : Int), .bool false, .bool false, undef, .slice (some ⟨bl, ol, none⟩) 1 capl, .pointer (some ⟨bl, ol, none⟩), .slice A1 x.length c1, .pointer (some ⟨g, 0, none⟩), .func (.func 52) #[] #[.pointer (some ⟨p6, 0, none⟩)], .func (.func 54) #[] #[.pointer (some ⟨p6 + 1, 0, none⟩)], .func (.func 55) #[] #[.pointer (some ⟨p6, 0, none⟩)], .func (.func 52) #[] #[.pointer (some ⟨p6, 0, none⟩)], .int .i64 (a0 : Int), .func (.func 52) #[] #[.pointer (some ⟨p6, 0, none⟩)], .int .i64 (a1 : Int), .func (.func 52) #[] #[.pointer (some ⟨p6, 0, none⟩)], .int .i64 (a2 : Int), .func (.func 54) #[] #[.pointer (some ⟨p6 + 1, 0, none⟩)], .int .i64 (a3 : Int), .agg #[.int .i64 (a0 : Int), .int .i64 (a1 : Int), .int .i64 (a2 : Int), .int .i64 (a3 : Int), .int .i64 0, .int .i64 0, .bool false, .int .i64 0, .int .i64 0, .int .i64 0, .slice none 0 0, .int .i64 0, .int .i64 0, .slice none 0 0, .slice none 0 0, .slice none 0 0], .func (.func 55) #[] #[.pointer (some ⟨p6, 0, none⟩)], .int .i64 a4, .pointer (some ⟨q, 4, none⟩), .func (.func 54) #[] #[.pointer (some ⟨p6 + 1, 0, none⟩)], .int .i64 (a5 : Int), .pointer (some ⟨q, 5, none⟩), .func (.func 52) #[] #[.pointer (some ⟨p6, 0, none⟩)], .int .i64 (a6 : Int), .bool (decide (a6 = 1)), .pointer (some ⟨q, 6, none⟩), .func (.func 54) #[] #[.pointer (some ⟨p6 + 1, 0, none⟩)], .int .i64 (a7 : Int), .pointer (some ⟨q, 7, none⟩), .func (.func 55) #[] #[.pointer (some ⟨p6, 0, none⟩)], .int .i64 a8, .pointer (some ⟨q, 8, none⟩), .func (.func 54) #[] #[.pointer (some ⟨p6 + 1, 0, none⟩)], .int .i64 (a9 : Int), .pointer (some ⟨q, 9, none⟩), .func (.func 52) #[] #[.pointer (some ⟨p6, 0, none⟩)], .int .i64 (a10 : Int), .int .i64 (i : Int), .bool true, .func (.func 54) #[] #[.pointer (some ⟨p6 + 1, 0, none⟩)], .int .i64 (b0 : Int), .func (.func 54) #[] #[.pointer (some ⟨p6 + 1, 0, none⟩)], .int .i64 (b1 : Int), .func (.func 52) #[] #[.pointer (some ⟨p6, 0, none⟩)], .int .i64 (b2 : Int), .agg #[.int .i64 (b0 : Int), .int .i64 (b1 : Int), .int .i64 (b2 : Int), .slice none 0 0], u75, u76, u77, u78, u79, u80, u81, u82, u83, u84, undef, undef, undef, undef, undef, undef, undef, undef, undef, undef, undef, undef, undef, undef, undef, undef, undef, undef, undef, undef, undef, undef, undef, undef, undef], []⟩ ∧ LI w B p6 (p6 + 1) g q hd l v u2 w' ∧ EBox B g qe v #[.int .i64 (b0 : Int), .int .i64 (b1 : Int), .int .i64 (b2 : Int), .slice none 0 0] w') ?_ ?_
      rotate_left 1
      · have HDa := Lib.hid (HI.out.fresh ((Frm.refl _ wr).drew))
        refine wp_region_held_drew (S := fun w' => w'.cell? ⟨p6 + 1, 0, none⟩ = some (.func (.func 52) #[] #[.pointer (some ⟨p6, 0, none⟩)])) (by kernel_rfl) (KS2.out _ _ _ _ HDa.out) (fun hHeld => ?_)
        refine wpAnyH_take (i := 0) (v := ?_) (op_here) (by kernel_rfl) (by kernel_rfl) (by kernel_rfl) (fun _ _ _ h => by cases h.1) (Or.inl ⟨by rfl, ?_⟩) (by assumption) ?_
        rotate_left 1
        (intro w hSw; (try dsimp only at hSw); go_simp; try with_reducible rfl)
        try simp only [Act.put, List.setIfInBounds_toArray, List.set_cons_zero, List.set_cons_succ]
        refine wpAnyH_take (i := 2) (v := ?_) (op_later (op_later (op_here))) (by kernel_rfl) (by kernel_rfl) (by kernel_rfl) (fun _ _ _ h => by cases h.1) (Or.inl ⟨by rfl, ?_⟩) (by assumption) ?_
        rotate_left 1
        (intro w hSw; (try dsimp only at hSw); go_simp; try with_reducible rfl)
        try simp only [Act.put, List.setIfInBounds_toArray, List.set_cons_zero, List.set_cons_succ]
        refine wpAnyH_take (i := 4) (v := ?_) (op_later (op_later (op_later (op_later (op_here))))) (by kernel_rfl) (by kernel_rfl) (by kernel_rfl) (fun _ _ _ h => by cases h.1) (Or.inl ⟨by rfl, ?_⟩) (by assumption) ?_
        rotate_left 1
        (intro w hSw; (try dsimp only at hSw); go_simp; try with_reducible rfl)
        try simp only [Act.put, List.setIfInBounds_toArray, List.set_cons_zero, List.set_cons_succ]
        refine wpAnyH_ready (rs := [1, 7]) (by kernel_rfl) (by simp) (AllReadyH.cons (op_later (op_here)) (fun K hK => ?_) (AllReadyH.cons (op_later (op_later (op_later (op_later (op_later (op_later (op_later (op_here)))))))) (fun K hK => ?_) AllReadyH.nil))
        · go_simp
          refine (HDa.out.nd.index K0.out).mono ?_
          rintro e wb ⟨rfl, hb, fb⟩
          have HDb := Lib.hid (HDa.out.read hb fb)
          clear hb fb HDa
          refine hK.out _ _ (KS2.out _ _ _ _ HDb.out) (fun hHeld => ?_)
          clear hK K
          try simp only [Act.put, List.setIfInBounds_toArray, List.set_cons_zero, List.set_cons_succ]
          refine wpAnyH_ready (rs := [3, 7]) (by kernel_rfl) (by simp) (AllReadyH.cons (op_later (op_later (op_later (op_here)))) (fun K hK => ?_) (AllReadyH.cons (op_later (op_later (op_later (op_later (op_later (op_later (op_later (op_here)))))))) (fun K hK => ?_) AllReadyH.nil))
          · go_simp
            refine (HDb.out.nd.index K1.out).mono ?_
            rintro e wc ⟨rfl, hc, fc⟩
            have HDc := Lib.hid (HDb.out.read hc fc)
            clear hc fc HDb
            refine hK.out _ _ (KS2.out _ _ _ _ HDc.out) (fun hHeld => ?_)
            clear hK K
            try simp only [Act.put, List.setIfInBounds_toArray, List.set_cons_zero, List.set_cons_succ]
            refine wpAnyH_ready (rs := [5, 7]) (by kernel_rfl) (by simp) (AllReadyH.cons (op_later (op_later (op_later (op_later (op_later (op_here)))))) (fun K hK => ?_) (AllReadyH.cons (op_later (op_later (op_later (op_later (op_later (op_later (op_later (op_here)))))))) (fun K hK => ?_) AllReadyH.nil))
            · go_simp
              refine (HDc.out.nd.number 7 (by omega) K2.out).mono ?_
              rintro e wd ⟨rfl, hd, fd⟩
              have HDd := Lib.hid (HDc.out.read hd fd)
              clear hd fd HDc
              refine hK.out _ _ (KS2.out _ _ _ _ HDd.out) (fun hHeld => ?_)
              clear hK K
              try simp only [Act.put, List.setIfInBounds_toArray, List.set_cons_zero, List.set_cons_succ]
              refine wpAnyH_take (i := 6) (v := ?_) (op_later (op_later (op_later (op_later (op_later (op_later (op_here))))))) (by kernel_rfl) (by kernel_rfl) (by kernel_rfl) (fun _ _ _ h => by cases h.1) (Or.inl ⟨by rfl, ?_⟩) (by assumption) ?_
              rotate_left 1
              (intro w hSw; (try dsimp only at hSw); go_simp; try with_reducible rfl)
              try simp only [Act.put, List.setIfInBounds_toArray, List.set_cons_zero, List.set_cons_succ]
              refine wpAnyH_ready (rs := [7]) (by kernel_rfl) (by simp) (AllReadyH.cons (op_later (op_later (op_later (op_later (op_later (op_later (op_later (op_here)))))))) (fun K hK => ?_) AllReadyH.nil)
              go_simp
              have HQ : Hid (EBox B g wd.heap.size v #[.int .i64 0, .int .i64 0, .int .i64 0, .slice none 0 0] ((wd).alloc (.cells #[.int .i64 0, .int .i64 0, .int .i64 0, .slice none 0 0] 70))) := Lib.hid ⟨⟨HDd.out.nd.glt, Blk.new _ _ _⟩, HDd.out.sz, fun k hk => by have := (HDd.out.sl.lt k hk).2; have e : (wd).heap.size = wd.heap.size := rfl; omega⟩
              have HDn := Lib.hid (HDd.out.fresh ((Frm.refl _ (wd)).alloc (.cells #[.int .i64 0, .int .i64 0, .int .i64 0, .slice none 0 0] 70)))
              clear HDd
              have HDd := HDn
              clear HDn
              refine hK.out _ _ (KS2.out _ _ _ _ HDd.out) (fun hHeld => ?_)
              clear hK K
              try simp only [Act.put, List.setIfInBounds_toArray, List.set_cons_zero, List.set_cons_succ]
              refine wpAnyH_ready (rs := [8]) (by kernel_rfl) (by simp) (AllReadyH.cons (op_later (op_later (op_later (op_later (op_later (op_later (op_later (op_later (op_here))))))))) (fun K hK => ?_) AllReadyH.nil)
              rw [if_pos (by rfl)]
              refine wp_store_mid _ _ _ rfl _ 0 #[.int .i64 (b0 : Int), .int .i64 (b1 : Int), .int .i64 (b2 : Int), .slice none 0 0] rfl rfl (HQ.out.1.2.there rfl) (by kernel_rfl) (by kernel_rfl) ?_
              have HIN := Lib.hid (HDd.out.stored HQ.out [.int .i64 (b0 : Int), .int .i64 (b1 : Int), .int .i64 (b2 : Int), .slice none 0 0] rfl).1
              have HQN := Lib.hid (HDd.out.stored HQ.out [.int .i64 (b0 : Int), .int .i64 (b1 : Int), .int .i64 (b2 : Int), .slice none 0 0] rfl).2
              refine hK.out _ _ (KS2.out _ _ _ _ HIN.out) (fun hHeld => ?_)
              clear hK K
              try simp only [Act.put]
              refine wpAnyH_done (by kernel_rfl) ?_ _
              exact ⟨rfl, _, rfl, HIN.out, HQN.out⟩
            · go_simp
              have HQ : Hid (EBox B g wc.heap.size v #[.int .i64 0, .int .i64 0, .int .i64 0, .slice none 0 0] ((wc).alloc (.cells #[.int .i64 0, .int .i64 0, .int .i64 0, .slice none 0 0] 70))) := Lib.hid ⟨⟨HDc.out.nd.glt, Blk.new _ _ _⟩, HDc.out.sz, fun k hk => by have := (HDc.out.sl.lt k hk).2; have e : (wc).heap.size = wc.heap.size := rfl; omega⟩
              have HDn := Lib.hid (HDc.out.fresh ((Frm.refl _ (wc)).alloc (.cells #[.int .i64 0, .int .i64 0, .int .i64 0, .slice none 0 0] 70)))
              clear HDc
              have HDc := HDn
              clear HDn
              refine hK.out _ _ (KS2.out _ _ _ _ HDc.out) (fun hHeld => ?_)
              clear hK K
              try simp only [Act.put, List.setIfInBounds_toArray, List.set_cons_zero, List.set_cons_succ]
              refine wpAnyH_ready (rs := [5]) (by kernel_rfl) (by simp) (AllReadyH.cons (op_later (op_later (op_later (op_later (op_later (op_here)))))) (fun K hK => ?_) AllReadyH.nil)
              go_simp
              refine (HDc.out.nd.number 7 (by omega) K2.out).mono ?_
              rintro e wd ⟨rfl, hd, fd⟩
              have HDd := Lib.hid (HDc.out.read hd fd)
              have HQn := Lib.hid (HDc.out.boxOn HQ.out fd)
              clear HQ
              have HQ := HQn
              clear HQn
              clear hd fd HDc
              refine hK.out _ _ (KS2.out _ _ _ _ HDd.out) (fun hHeld => ?_)
              clear hK K
              try simp only [Act.put, List.setIfInBounds_toArray, List.set_cons_zero, List.set_cons_succ]
              refine wpAnyH_take (i := 6) (v := ?_) (op_later (op_later (op_later (op_later (op_later (op_later (op_here))))))) (by kernel_rfl) (by kernel_rfl) (by kernel_rfl) (fun _ _ _ h => by cases h.1) (Or.inl ⟨by rfl, ?_⟩) (by assumption) ?_
              rotate_left 1
              (intro w hSw; (try dsimp only at hSw); go_simp; try with_reducible rfl)
              try simp only [Act.put, List.setIfInBounds_toArray, List.set_cons_zero, List.set_cons_succ]
              refine wpAnyH_ready (rs := [8]) (by kernel_rfl) (by simp) (AllReadyH.cons (op_later (op_later (op_later (op_later (op_later (op_later (op_later (op_later (op_here))))))))) (fun K hK => ?_) AllReadyH.nil)
              rw [if_pos (by rfl)]
              refine wp_store_mid _ _ _ rfl _ 0 #[.int .i64 (b0 : Int), .int .i64 (b1 : Int), .int .i64 (b2 : Int), .slice none 0 0] rfl rfl (HQ.out.1.2.there rfl) (by kernel_rfl) (by kernel_rfl) ?_
              have HIN := Lib.hid (HDd.out.stored HQ.out [.int .i64 (b0 : Int), .int .i64 (b1 : Int), .int .i64 (b2 : Int), .slice none 0 0] rfl).1
              have HQN := Lib.hid (HDd.out.stored HQ.out [.int .i64 (b0 : Int), .int .i64 (b1 : Int), .int .i64 (b2 : Int), .slice none 0 0] rfl).2
              refine hK.out _ _ (KS2.out _ _ _ _ HIN.out) (fun hHeld => ?_)
              clear hK K
              try simp only [Act.put]
              refine wpAnyH_done (by kernel_rfl) ?_ _
              exact ⟨rfl, _, rfl, HIN.out, HQN.out⟩
          · go_simp
            have HQ : Hid (EBox B g wb.heap.size v #[.int .i64 0, .int .i64 0, .int .i64 0, .slice none 0 0] ((wb).alloc (.cells #[.int .i64 0, .int .i64 0, .int .i64 0, .slice none 0 0] 70))) := Lib.hid ⟨⟨HDb.out.nd.glt, Blk.new _ _ _⟩, HDb.out.sz, fun k hk => by have := (HDb.out.sl.lt k hk).2; have e : (wb).heap.size = wb.heap.size := rfl; omega⟩
            have HDn := Lib.hid (HDb.out.fresh ((Frm.refl _ (wb)).alloc (.cells #[.int .i64 0, .int .i64 0, .int .i64 0, .slice none 0 0] 70)))
            clear HDb
            have HDb := HDn
            clear HDn
            refine hK.out _ _ (KS2.out _ _ _ _ HDb.out) (fun hHeld => ?_)
            clear hK K
            try simp only [Act.put, List.setIfInBounds_toArray, List.set_cons_zero, List.set_cons_succ]
            refine wpAnyH_ready (rs := [3]) (by kernel_rfl) (by simp) (AllReadyH.cons (op_later (op_later (op_later (op_here)))) (fun K hK => ?_) AllReadyH.nil)
            go_simp
            refine (HDb.out.nd.index K1.out).mono ?_
            rintro e wc ⟨rfl, hc, fc⟩
            have HDc := Lib.hid (HDb.out.read hc fc)
            have HQn := Lib.hid (HDb.out.boxOn HQ.out fc)
            clear HQ
            have HQ := HQn
            clear HQn
            clear hc fc HDb
            refine hK.out _ _ (KS2.out _ _ _ _ HDc.out) (fun hHeld => ?_)
            clear hK K
            try simp only [Act.put, List.setIfInBounds_toArray, List.set_cons_zero, List.set_cons_succ]
            refine wpAnyH_ready (rs := [5]) (by kernel_rfl) (by simp) (AllReadyH.cons (op_later (op_later (op_later (op_later (op_later (op_here)))))) (fun K hK => ?_) AllReadyH.nil)
            go_simp
            refine (HDc.out.nd.number 7 (by omega) K2.out).mono ?_
            rintro e wd ⟨rfl, hd, fd⟩
            have HDd := Lib.hid (HDc.out.read hd fd)
            have HQn := Lib.hid (HDc.out.boxOn HQ.out fd)
            clear HQ
            have HQ := HQn
            clear HQn
            clear hd fd HDc
            refine hK.out _ _ (KS2.out _ _ _ _ HDd.out) (fun hHeld => ?_)
            clear hK K
            try simp only [Act.put, List.setIfInBounds_toArray, List.set_cons_zero, List.set_cons_succ]
            refine wpAnyH_take (i := 6) (v := ?_) (op_later (op_later (op_later (op_later (op_later (op_later (op_here))))))) (by kernel_rfl) (by kernel_rfl) (by kernel_rfl) (fun _ _ _ h => by cases h.1) (Or.inl ⟨by rfl, ?_⟩) (by assumption) ?_
            rotate_left 1
            (intro w hSw; (try dsimp only at hSw); go_simp; try with_reducible rfl)
            try simp only [Act.put, List.setIfInBounds_toArray, List.set_cons_zero, List.set_cons_succ]
            refine wpAnyH_ready (rs := [8]) (by kernel_rfl) (by simp) (AllReadyH.cons (op_later (op_later (op_later (op_later (op_later (op_later (op_later (op_later (op_here))))))))) (fun K hK => ?_) AllReadyH.nil)
            rw [if_pos (by rfl)]
            refine wp_store_mid _ _ _ rfl _ 0 #[.int .i64 (b0 : Int), .int .i64 (b1 : Int), .int .i64 (b2 : Int), .slice none 0 0] rfl rfl (HQ.out.1.2.there rfl) (by kernel_rfl) (by kernel_rfl) ?_
            have HIN := Lib.hid (HDd.out.stored HQ.out [.int .i64 (b0 : Int), .int .i64 (b1 : Int), .int .i64 (b2 : Int), .slice none 0 0] rfl).1
            have HQN := Lib.hid (HDd.out.stored HQ.out [.int .i64 (b0 : Int), .int .i64 (b1 : Int), .int .i64 (b2 : Int), .slice none 0 0] rfl).2
            refine hK.out _ _ (KS2.out _ _ _ _ HIN.out) (fun hHeld => ?_)
            clear hK K
            try simp only [Act.put]
            refine wpAnyH_done (by kernel_rfl) ?_ _
            exact ⟨rfl, _, rfl, HIN.out, HQN.out⟩
        · go_simp
          have HQ : Hid (EBox B g wr.heap.size v #[.int .i64 0, .int .i64 0, .int .i64 0, .slice none 0 0] ((wr.drew).alloc (.cells #[.int .i64 0, .int .i64 0, .int .i64 0, .slice none 0 0] 70))) := Lib.hid ⟨⟨HDa.out.nd.glt, Blk.new _ _ _⟩, HDa.out.sz, fun k hk => by have := (HDa.out.sl.lt k hk).2; have e : (wr.drew).heap.size = wr.heap.size := rfl; omega⟩
          have HDn := Lib.hid (HDa.out.fresh ((Frm.refl _ (wr.drew)).alloc (.cells #[.int .i64 0, .int .i64 0, .int .i64 0, .slice none 0 0] 70)))
          clear HDa
          have HDa := HDn
          clear HDn
          refine hK.out _ _ (KS2.out _ _ _ _ HDa.out) (fun hHeld => ?_)
          clear hK K
          try simp only [Act.put, List.setIfInBounds_toArray, List.set_cons_zero, List.set_cons_succ]
          refine wpAnyH_ready (rs := [1]) (by kernel_rfl) (by simp) (AllReadyH.cons (op_later (op_here)) (fun K hK => ?_) AllReadyH.nil)
          go_simp
          refine (HDa.out.nd.index K0.out).mono ?_
          rintro e wb ⟨rfl, hb, fb⟩
          have HDb := Lib.hid (HDa.out.read hb fb)
          have HQn := Lib.hid (HDa.out.boxOn HQ.out fb)
          clear HQ
          have HQ := HQn
          clear HQn
          clear hb fb HDa
          refine hK.out _ _ (KS2.out _ _ _ _ HDb.out) (fun hHeld => ?_)
          clear hK K
          try simp only [Act.put, List.setIfInBounds_toArray, List.set_cons_zero, List.set_cons_succ]
          refine wpAnyH_ready (rs := [3]) (by kernel_rfl) (by simp) (AllReadyH.cons (op_later (op_later (op_later (op_here)))) (fun K hK => ?_) AllReadyH.nil)
          go_simp
          refine (HDb.out.nd.index K1.out).mono ?_
          rintro e wc ⟨rfl, hc, fc⟩
          have HDc := Lib.hid (HDb.out.read hc fc)
          have HQn := Lib.hid (HDb.out.boxOn HQ.out fc)
          clear HQ
          have HQ := HQn
          clear HQn
          clear hc fc HDb
          refine hK.out _ _ (KS2.out _ _ _ _ HDc.out) (fun hHeld => ?_)
          clear hK K
          try simp only [Act.put, List.setIfInBounds_toArray, List.set_cons_zero, List.set_cons_succ]
          refine wpAnyH_ready (rs := [5]) (by kernel_rfl) (by simp) (AllReadyH.cons (op_later (op_later (op_later (op_later (op_later (op_here)))))) (fun K hK => ?_) AllReadyH.nil)
          go_simp
          refine (HDc.out.nd.number 7 (by omega) K2.out).mono ?_
          rintro e wd ⟨rfl, hd, fd⟩
          have HDd := Lib.hid (HDc.out.read hd fd)
          have HQn := Lib.hid (HDc.out.boxOn HQ.out fd)
          clear HQ
          have HQ := HQn
          clear HQn
          clear hd fd HDc
          refine hK.out _ _ (KS2.out _ _ _ _ HDd.out) (fun hHeld => ?_)
          clear hK K
          try simp only [Act.put, List.setIfInBounds_toArray, List.set_cons_zero, List.set_cons_succ]
          refine wpAnyH_take (i := 6) (v := ?_) (op_later (op_later (op_later (op_later (op_later (op_later (op_here))))))) (by kernel_rfl) (by kernel_rfl) (by kernel_rfl) (fun _ _ _ h => by cases h.1) (Or.inl ⟨by rfl, ?_⟩) (by assumption) ?_
          rotate_left 1
          (intro w hSw; (try dsimp only at hSw); go_simp; try with_reducible rfl)
          try simp only [Act.put, List.setIfInBounds_toArray, List.set_cons_zero, List.set_cons_succ]
          refine wpAnyH_ready (rs := [8]) (by kernel_rfl) (by simp) (AllReadyH.cons (op_later (op_later (op_later (op_later (op_later (op_later (op_later (op_later (op_here))))))))) (fun K hK => ?_) AllReadyH.nil)
          rw [if_pos (by rfl)]
          refine wp_store_mid _ _ _ rfl _ 0 #[.int .i64 (b0 : Int), .int .i64 (b1 : Int), .int .i64 (b2 : Int), .slice none 0 0] rfl rfl (HQ.out.1.2.there rfl) (by kernel_rfl) (by kernel_rfl) ?_
          have HIN := Lib.hid (HDd.out.stored HQ.out [.int .i64 (b0 : Int), .int .i64 (b1 : Int), .int .i64 (b2 : Int), .slice none 0 0] rfl).1
          have HQN := Lib.hid (HDd.out.stored HQ.out [.int .i64 (b0 : Int), .int .i64 (b1 : Int), .int .i64 (b2 : Int), .slice none 0 0] rfl).2
          refine hK.out _ _ (KS2.out _ _ _ _ HIN.out) (fun hHeld => ?_)
          clear hK K
          try simp only [Act.put]
          refine wpAnyH_done (by kernel_rfl) ?_ _
          exact ⟨rfl, _, rfl, HIN.out, HQN.out⟩
      rintro e a X ⟨rfl, qe, rfl, hin, hqn⟩
      have HIN := Lib.hid hin
      have HQN := Lib.hid hqn
      clear hin hqn HI
      have HX : Hid (EBox B g qe v #[.int .i64 (b0 : Int), .int .i64 (b1 : Int), .int .i64 (b2 : Int), .slice none 0 0] X) := Lib.hid HQN.out
      have x6 : X.cell? ⟨p6, 0, none⟩ = some (.pointer (some ⟨g, 0, none⟩)) := HIN.out.nd.c6.cell 0
      have HTX := Lib.hid (pText X g u2 4096 (by omega) (by have := HIN.out.nd.len; omega) HIN.out.nd.rdr)
      unfold PText at HTX
      rw [K3.out] at HTX
      clear HQN
      go_wp2_with fail
      refine HTX.out.mono ?_
      rintro e wt ⟨vt, rfl, hst, hrt, ft⟩
      obtain ⟨AD, cd, rfl, _⟩ := hst.shape
      have HIt := Lib.hid (HIN.out.read (HIN.out.nd.read hrt ft (by have := rdt_len 4096 u2; rw [K3.out] at this; exact this)) ft)
      have HXt := Lib.hid (HIN.out.boxOn HX.out ft)
      have yt : wt.cell? ⟨qe, 3, none⟩ = some (.slice none 0 0) := HXt.out.1.2.cell 3
      have zt : wt.frozen? ⟨qe, 3, none⟩ = false := HXt.out.1.2.frozen 3
      obtain ⟨Vt, hVt⟩ : ∃ V, wt.setCell ⟨qe, 3, none⟩ (.slice AD dd.length cd) = V := ⟨_, rfl⟩
      have HIv : Hid (LI w B p6 (p6 + 1) g q hd l v u3 Vt) := Lib.hid (by rw [← hVt]; exact (HIt.out.poked HXt.out 3 _).1)
      have HXv : Hid (EBox B g qe v #[.int .i64 (b0 : Int), .int .i64 (b1 : Int), .int .i64 (b2 : Int), .slice AD dd.length cd] Vt) := Lib.hid (by rw [← hVt]; exact (HIt.out.poked HXt.out 3 _).2)
      have HDt : Hid (Sl Vt X.heap.size 5 1 (.slice AD dd.length cd) dd.length (dd.map bv)) := Lib.hid (by
        rw [← hVt]
        exact hst.frm ((Frm.refl (fun k => k = qe) wt).setCell (p := ⟨qe, 3, none⟩) (fun _ => rfl) _) (fun k hk e => by subst e; exact hst.apart HXt.out.1.2 (by decide) hk))
      have HXZ := Lib.hid HIN.out.sz
      obtain ⟨AE, cE, hvE, _⟩ := HIv.out.sl.shape
      have y10 : Vt.cell? ⟨q, 10, none⟩ = some (.slice AE l.length cE) := by rw [← hvE]; exact HIv.out.box.2.cell 10
      have q0 : Vt.cell? ⟨qe, 0, none⟩ = some (.int .i64 (b0 : Int)) := HXv.out.1.2.cell 0
      have q1 : Vt.cell? ⟨qe, 1, none⟩ = some (.int .i64 (b1 : Int)) := HXv.out.1.2.cell 1
      have q2 : Vt.cell? ⟨qe, 2, none⟩ = some (.int .i64 (b2 : Int)) := HXv.out.1.2.cell 2
      have q3 : Vt.cell? ⟨qe, 3, none⟩ = some (.slice AD dd.length cd) := HXv.out.1.2.cell 3
      have HVE := Lib.hid hvE
      clear hvE
      clear hst hrt ft HIN HX HIt HXt HTX
      have HIa : Hid (LI w B p6 (p6 + 1) g q hd l v u3 (Vt.alloc (.cells #[.int .i64 (b0 : Int), .int .i64 (b1 : Int), .int .i64 (b2 : Int), .slice AD dd.length cd] 70))) := Lib.hid (HIv.out.fresh ((Frm.refl _ Vt).alloc _))
      have HSA : Hid (Sl (Vt.alloc (.cells #[.int .i64 (b0 : Int), .int .i64 (b1 : Int), .int .i64 (b2 : Int), .slice AD dd.length cd] 70)) B 70 4 (.slice AE l.length cE) l.length (l.flatMap ecells)) := Lib.hid (by rw [← HVE.out]; exact HIa.out.sl)
      have HRA := Lib.hid (rd_new Vt [.int .i64 (b0 : Int), .int .i64 (b1 : Int), .int .i64 (b2 : Int), .slice AD dd.length cd] 70)
      have HEA : Hid (EDat (Vt.alloc (.cells #[.int .i64 (b0 : Int), .int .i64 (b1 : Int), .int .i64 (b2 : Int), .slice AD dd.length cd] 70)) B ⟨(b0 : Int), (b1 : Int), (b2 : Int), AD, cd, dd⟩) := Lib.hid ⟨(HDt.out.less HXZ.out).alloc _, hdd⟩
      have HBA : Hid (Blk (Vt.alloc (.cells #[.int .i64 (b0 : Int), .int .i64 (b1 : Int), .int .i64 (b2 : Int), .slice AD dd.length cd] 70)) q 30 (hcells hd (.slice AE l.length cE))) := Lib.hid (by rw [← HVE.out]; exact HIa.out.box.2)
      have HQB := Lib.hid HIa.out.qB
      clear HDt HXZ HIv HXv
      go_wp2_with (at_builtin; refine wpList_append_sl _ rfl (.tmp 79) (.tmp 81) _ rfl B 70 ie _ 4 48 Try.underlying22 hie hze0 hze1 hze2 rfl (by omega) _ l.length _ rfl HSA.out _ _ 1 _ [.int .i64 (b0 : Int), .int .i64 (b1 : Int), .int .i64 (b2 : Int), .slice AD dd.length cd] rfl (by rfl) HRA.out (fun u hu => by simp at hu; rcases hu with rfl | rfl | rfl | rfl <;> rfl) (by unfold maxLen; omega) (by omega) HIa.out.sz ?_; intro v5 w5 hs5 hf5 ha5; have HS5 := Lib.hid hs5; have HF5 := Lib.hid hf5; have b5 := HBA.out.frm hf5 (fun e => by have := (HSA.out.lt _ e).1; have := HQB.out; omega); have y5 : w5.cell? ⟨q, 10, none⟩ = some (.slice AE l.length cE) := b5.cell 10; have z5 : w5.frozen? ⟨q, 10, none⟩ = false := b5.frozen 10; obtain ⟨A5, c5, rfl, _⟩ := hs5.shape; clear hs5 hf5 ha5 b5)
      have HGR := Lib.hid (HIa.out.grow HEA.out HS5.out (by rw [HVE.out]; exact HF5.out))
      have HNX : Hid (readEs (a10 - i) (l.map eraseE) z = readEs (a10 - (i + 1)) ((l ++ [(⟨(b0 : Int), (b1 : Int), (b2 : Int), AD, cd, dd⟩ : En)]).map eraseE) u3) := Lib.hid (by
        rw [show a10 - i = (a10 - (i + 1)) + 1 by omega, readEs, HRE.out, List.map_append]
        rfl)
      go_roundw
      case rel => exact ⟨i + 1, l ++ [⟨(b0 : Int), (b1 : Int), (b2 : Int), AD, cd, dd⟩], _, u3, by omega, by go_num, by rw [List.length_append, HLN.out]; rfl, by rw [HRD.out, HNX.out], HGR.out⟩
      case measure => simp [intOf]; omega
    · obtain rfl : i = a10 := by omega
      obtain ⟨AE, cE, rfl, _⟩ := HI.out.sl.shape
      have HREZ : Hid (readEs hd.n [] t10 = (l.map eraseE, z)) := Lib.hid (by rw [HHE.out]; show readEs i [] t10 = _; rw [HRD.out, Nat.sub_self]; rfl)
      rw [← HHE.out] at HHD
      obtain ⟨⟨ts, t11⟩, kt⟩ : ∃ y, rdt 65536 z = y := ⟨_, rfl⟩
      have hts : ts.length ≤ 65536 := by have := rdt_le (most := 65536) (by omega) z; rw [kt] at this; dsimp only at this; omega
      have HTX := Lib.hid (pText wr g z 65536 (by omega) (by have := HI.out.nd.len; omega) HI.out.nd.rdr)
      unfold PText at HTX
      rw [kt] at HTX
      have KT := Lib.hid kt
      obtain ⟨tn, htn⟩ : ∃ n, n = ts.length := ⟨_, rfl⟩
      have HTN := Lib.hid htn
      have x6 : wr.cell? ⟨p6, 0, none⟩ = some (.pointer (some ⟨g, 0, none⟩)) := HI.out.nd.c6.cell 0
      clear kt htn HRD
      go_wp2_with fail
      refine HTX.out.mono ?_
      rintro e wt ⟨vt, rfl, hst, hrt, ft⟩
      obtain ⟨AS, cS, hvt, hcS, hmS, _⟩ := hst.shape
      rw [← HTN.out] at hvt
      subst hvt
      have HIt := Lib.hid (HI.out.read (HI.out.nd.read hrt ft (by have := rdt_len 65536 z; rw [KT.out] at this; exact this)) ft)
      have HRS : Hid (Rd wt wt.heap.size AS (ts.map bv)) := Lib.hid hst.rd
      have HKD := Lib.hid (keepDecode_any wt AS cS ts HRS.out (by omega) hcS hmS)
      rw [← HTN.out] at HKD
      have HSB := Lib.hid HIt.out.sz
      clear hst hrt ft HI HTX x6 hcS hmS
      by_cases hz : tn = 0
      · have hz1 : ¬ (0 : Int) < (tn : Int) := by omega
        have HSO : Hid (snapOf ts = some sc0) := Lib.hid (by unfold snapOf; rw [if_pos (by rw [← HTN.out]; exact hz)])
        obtain ⟨m, hm⟩ : ∃ m, m = msgAt hd l AE cE sc0 none 0 none 0 none 0 := ⟨_, rfl⟩
        have HLK : Hid (LK w B g q m wt) := Lib.hid (by rw [hm]; exact HIt.out.lk hll)
        have HM : Hid (erase m = msgOf hd (l.map eraseE) sc0) := Lib.hid (by rw [hm]; rfl)
        have HND := Lib.hid HIt.out.nd
        clear hm hz HKD HIt
        have x6e : wt.cell? ⟨p6, 0, none⟩ = some (.pointer (some ⟨g, 0, none⟩)) := HND.out.c6.cell 0
        have HWH := Lib.hid (pWhole wt g t11 HND.out.rdr)
        obtain ⟨wh, hwh⟩ : ∃ b, b = wholeS t11 := ⟨_, rfl⟩
        rw [← hwh] at HWH
        have HWW := Lib.hid hwh
        obtain ⟨cs, hcs⟩ : ∃ cs : List Value, cs = (mcells m).toList := ⟨_, rfl⟩
        have HCL : Hid (wt.rangeAt q 0 cs) := Lib.hid (by rw [hcs]; intro j v hv; rw [Nat.zero_add, HLK.out.box.2.cell j]; simpa using hv)
        have HCI : Hid ((Try.prog.info? 30).map (·.size) = some cs.length) := Lib.hid (by rw [hcs]; kernel_rfl)
        have HRT : Hid (Calls Try.prog 33 #[.agg cs.toArray] wt fun e w' => e = .returned (.bool (rightP m)) ∧ Fresh wt w') := Lib.hid (by rw [hcs]; exact right_any wt m HLK.out.rdm)
        have HCS := Lib.hid hcs
        obtain ⟨rp, hrp⟩ : ∃ b, b = rightP m := ⟨_, rfl⟩
        rw [← hrp] at HRT
        have HRP := Lib.hid hrp
        clear hwh hcs hrp
        go_wp2_with fail
        refine HWH.out.mono ?_
        rintro e w8 ⟨rfl, hw8⟩
        rw [← hw8]
        clear hw8 x6e HWH
        cases wh with
        | false =>
          clear HCL
          obtain ⟨zs, hzs⟩ : ∃ zs : List Value, zs = [Value.int .i64 0, .int .i64 0, .int .i64 0, .int .i64 0, .int .i64 0, .int .i64 0, .bool false, .int .i64 0, .int .i64 0, .int .i64 0, .slice none 0 0, .int .i64 0, .int .i64 0, .slice none 0 0, .slice none 0 0, .slice none 0 0] := ⟨_, rfl⟩
          have HCI : Hid ((Try.prog.info? 30).map (·.size) = some zs.length) := Lib.hid (by rw [hzs]; kernel_rfl)
          have HCJ : Hid ((Try.prog.info? 30).map (·.size) = some zs.toArray.size) := Lib.hid (by rw [hzs]; kernel_rfl)
          have HTH : Hid (wt.there w.heap.size 0 zs.toArray.size) := Lib.hid (by rw [hzs]; exact HLK.out.res.there rfl)
          have HON : Hid (zs.toArray.all (·.oneCell') = true) := Lib.hid (by rw [hzs]; kernel_rfl)
          have HZS := Lib.hid hzs
          clear hzs
          go_wp2_with (refine wpList_store_mid rfl 30 (.tmp 2) (.tmp 108) rfl w.heap.size 0 zs.toArray rfl (by rw [HZS.out]; rfl) HTH.out HCJ.out HON.out ?_)
          have hra : (wt.setCells w.heap.size 0 zs).rangeAt w.heap.size 0 zs := World.rangeAt_setCells_same wt w.heap.size 0 zs (by have := HTH.out; simpa using this)
          have hld := run_loadVar_mid (P := Try.prog) (wt.setCells w.heap.size 0 zs) w.heap.size 0 30 zs _ hra Try.underlying30 rfl HCI.out
          have HFZ : Fresh w (wt.setCells w.heap.size 0 zs) := HLK.out.frm.trans' (frm_setCells w.heap.size zs 0 wt) (fun k hk e => by omega)
          refine bodyPost_ret (v := .tuple #[.agg zs.toArray, .int .i64 6]) ?_ rfl (nd_no (decX_half HHD.out HREZ.out KT.out HWW.out.symm) (by have e := HZS.out; subst e; rfl) HFZ)
          rw [results_cell_tmp Try.results14]
          show (((asAddr (.pointer (some ⟨w.heap.size, 0, none⟩))).run Try.prog (wt.setCells w.heap.size 0 zs)).andThen fun a w₁ => ((loadVar 30 a).run Try.prog w₁).andThen fun v w₂ => Result.ok (Value.tuple #[v, Value.int .i64 6]) w₂) = _
          simp only [asAddr, Sem.run_pure, Result.andThen_ok, hld]
        | true =>
          go_wp2_with (with_reducible refine wpList_load_want (by kernel_rfl) 30 (.tmp 10) rfl q 0 rfl cs _ HCL.out Try.underlying30 rfl HCI.out ?_)
  
          refine HRT.out.mono ?_
          rintro e w9 ⟨rfl, f9⟩
          have HLK9 := Lib.hid (HLK.out.fresh f9)
          clear HLK HRT
          have HLK := HLK9
          have HCL9 : Hid (w9.rangeAt q 0 cs) := Lib.hid (by rw [HCS.out]; intro j v hv; rw [Nat.zero_add, HLK.out.box.2.cell j]; simpa using hv)
          clear HLK9 f9 HCL
          have HCL := HCL9
          clear HCL9
          cases rp with
          | false =>
            clear HCL
            obtain ⟨zs, hzs⟩ : ∃ zs : List Value, zs = [Value.int .i64 0, .int .i64 0, .int .i64 0, .int .i64 0, .int .i64 0, .int .i64 0, .bool false, .int .i64 0, .int .i64 0, .int .i64 0, .slice none 0 0, .int .i64 0, .int .i64 0, .slice none 0 0, .slice none 0 0, .slice none 0 0] := ⟨_, rfl⟩
            have HCI : Hid ((Try.prog.info? 30).map (·.size) = some zs.length) := Lib.hid (by rw [hzs]; kernel_rfl)
            have HCJ : Hid ((Try.prog.info? 30).map (·.size) = some zs.toArray.size) := Lib.hid (by rw [hzs]; kernel_rfl)
            have HTH : Hid (w9.there w.heap.size 0 zs.toArray.size) := Lib.hid (by rw [hzs]; exact HLK.out.res.there rfl)
            have HON : Hid (zs.toArray.all (·.oneCell') = true) := Lib.hid (by rw [hzs]; kernel_rfl)
            have HZS := Lib.hid hzs
            clear hzs
            go_wp2_with (refine wpList_store_mid rfl 30 (.tmp 2) (.tmp 108) rfl w.heap.size 0 zs.toArray rfl (by rw [HZS.out]; rfl) HTH.out HCJ.out HON.out ?_)
            have hra : (w9.setCells w.heap.size 0 zs).rangeAt w.heap.size 0 zs := World.rangeAt_setCells_same w9 w.heap.size 0 zs (by have := HTH.out; simpa using this)
            have hld := run_loadVar_mid (P := Try.prog) (w9.setCells w.heap.size 0 zs) w.heap.size 0 30 zs _ hra Try.underlying30 rfl HCI.out
            have HFZ : Fresh w (w9.setCells w.heap.size 0 zs) := HLK.out.frm.trans' (frm_setCells w.heap.size zs 0 w9) (fun k hk e => by omega)
            refine bodyPost_ret (v := .tuple #[.agg zs.toArray, .int .i64 6]) ?_ rfl (nd_no (decX_wrong HHD.out HREZ.out KT.out HSO.out HM.out HRP.out.symm) (by have e := HZS.out; subst e; rfl) HFZ)
            rw [results_cell_tmp Try.results14]
            show (((asAddr (.pointer (some ⟨w.heap.size, 0, none⟩))).run Try.prog (w9.setCells w.heap.size 0 zs)).andThen fun a w₁ => ((loadVar 30 a).run Try.prog w₁).andThen fun v w₂ => Result.ok (Value.tuple #[v, Value.int .i64 6]) w₂) = _
            simp only [asAddr, Sem.run_pure, Result.andThen_ok, hld]
          | true =>
            have HCJ : Hid ((Try.prog.info? 30).map (·.size) = some cs.toArray.size) := Lib.hid (by rw [HCS.out]; kernel_rfl)
            have HTH : Hid (w9.there w.heap.size 0 cs.toArray.size) := Lib.hid (by rw [HCS.out]; exact HLK.out.res.there rfl)
            have HON : Hid (cs.toArray.all (·.oneCell') = true) := Lib.hid (by rw [HCS.out]; kernel_rfl)
            go_wp2_with (first | (with_reducible refine wpList_load_mid rfl 30 (.tmp 10) rfl q 0 rfl cs _ HCL.out Try.underlying30 rfl HCI.out ?_) | (with_reducible refine wpList_store_mid rfl 30 (.tmp 2) (.tmp 109) rfl w.heap.size 0 cs.toArray rfl rfl HTH.out HCJ.out HON.out ?_))
            have hra : (w9.setCells w.heap.size 0 cs).rangeAt w.heap.size 0 cs := World.rangeAt_setCells_same w9 w.heap.size 0 cs (by have := HTH.out; simpa using this)
            have hld := run_loadVar_mid (P := Try.prog) (w9.setCells w.heap.size 0 cs) w.heap.size 0 30 cs _ hra Try.underlying30 rfl HCI.out
            have HFZ : Fresh w (w9.setCells w.heap.size 0 cs) := HLK.out.frm.trans' (frm_setCells w.heap.size cs 0 w9) (fun k hk e => by omega)
            refine bodyPost_ret (v := .tuple #[.agg cs.toArray, .int .i64 0]) ?_ rfl (nd_yes (decX_right HHD.out HREZ.out KT.out HSO.out HWW.out.symm HM.out HRP.out.symm) (by have e := HCS.out; subst e; rfl) (HLK.out.out cs) HFZ)
            rw [results_cell_tmp Try.results14]
            show (((asAddr (.pointer (some ⟨w.heap.size, 0, none⟩))).run Try.prog (w9.setCells w.heap.size 0 cs)).andThen fun a w₁ => ((loadVar 30 a).run Try.prog w₁).andThen fun v w₂ => Result.ok (Value.tuple #[v, Value.int .i64 0]) w₂) = _
            simp only [asAddr, Sem.run_pure, Result.andThen_ok, hld]
      · have hz1 : (0 : Int) < (tn : Int) := by omega
        have HLK5 := Lib.hid (HIt.out.lk hll)
        have HND5 := Lib.hid HIt.out.nd
        rcases hdec : decS ts with _ | c
        · have HSO : Hid (snapOf ts = none) := Lib.hid (by unfold snapOf; rw [if_neg (by rw [← HTN.out]; exact hz), hdec])
          rw [hdec] at HKD
          unfold KDPost at HKD
          obtain ⟨m, hm⟩ : ∃ m, m = msgAt hd l AE cE sc0 none 0 none 0 none 0 := ⟨_, rfl⟩
          have HMM := Lib.hid hm
          clear hz hdec hm HIt
          go_wp2_with fail
          refine HKD.out.mono ?_
          rintro e w5 ⟨rfl, f5⟩
          have HLKn := Lib.hid (HLK5.out.fresh f5)
          have HNDn := Lib.hid (HND5.out.fresh f5)
          clear HLK5 HND5 f5 HKD
          have HLK5 := HLKn
          have HND5 := HNDn
          clear HLKn HNDn
          unfold snap0
          have HT5 : Hid (w5.there q 11 ([Value.int .i64 0, .int .i64 0, .slice none 0 0, .slice none 0 0, .slice none 0 0]).toArray.size) := Lib.hid (by exact (there_part HLK5.out.box.2 11 5 (Nat.le_refl 16)))
          have HI5 : Hid ((Try.prog.info? 28).map (·.size) = some ([Value.int .i64 0, .int .i64 0, .slice none 0 0, .slice none 0 0, .slice none 0 0]).toArray.size) := Lib.hid (by kernel_rfl)
          have HO5 : Hid (([Value.int .i64 0, .int .i64 0, .slice none 0 0, .slice none 0 0, .slice none 0 0]).toArray.all (·.oneCell') = true) := Lib.hid (by kernel_rfl)
          obtain ⟨X6, hX6⟩ : ∃ X, w5.setCells q 11 ([Value.int .i64 0, .int .i64 0, .slice none 0 0, .slice none 0 0, .slice none 0 0]) = X := ⟨_, rfl⟩
          have HLK : Hid (LK w B g q m X6) := Lib.hid (by rw [← hX6]; exact (by rw [HMM.out]; exact HLK5.out.snap (c := sc0) (SlS.zero _ _)))
          have HND : Hid (ND w p6 (p6 + 1) g t11 X6) := Lib.hid (HND5.out.write HLK5.out.box.2 (by decide) (by decide) HLK5.out.box.1 (by
            have := frm_setCells q ([Value.int .i64 0, .int .i64 0, .slice none 0 0, .slice none 0 0, .slice none 0 0]) 11 w5
            have e : (fun k => q = k) = (fun k => k = q) := by funext k; exact propext eq_comm
            rw [e, hX6] at this
            exact this))
          clear HLK5 HND5
          have x6e : X6.cell? ⟨p6, 0, none⟩ = some (.pointer (some ⟨g, 0, none⟩)) := HND.out.c6.cell 0
          have HWH := Lib.hid (pWhole X6 g t11 HND.out.rdr)
          obtain ⟨wh, hwh⟩ : ∃ b, b = wholeS t11 := ⟨_, rfl⟩
          rw [← hwh] at HWH
          have HWW := Lib.hid hwh
          obtain ⟨cs, hcs⟩ : ∃ cs : List Value, cs = (mcells m).toList := ⟨_, rfl⟩
          have HCL : Hid (X6.rangeAt q 0 cs) := Lib.hid (by rw [hcs]; intro j v hv; rw [Nat.zero_add, HLK.out.box.2.cell j]; simpa using hv)
          have HCI : Hid ((Try.prog.info? 30).map (·.size) = some cs.length) := Lib.hid (by rw [hcs]; kernel_rfl)
          have HRT : Hid (Calls Try.prog 33 #[.agg cs.toArray] X6 fun e w' => e = .returned (.bool (rightP m)) ∧ Fresh X6 w') := Lib.hid (by rw [hcs]; exact right_any X6 m HLK.out.rdm)
          have HCS := Lib.hid hcs
          obtain ⟨rp, hrp⟩ : ∃ b, b = rightP m := ⟨_, rfl⟩
          rw [← hrp] at HRT
          have HRP := Lib.hid hrp
          clear hwh hcs hrp
          go_wp2_with (refine wpList_store_mid rfl 28 (.tmp 95) (.tmp 93) rfl q 11 ([Value.int .i64 0, .int .i64 0, .slice none 0 0, .slice none 0 0, .slice none 0 0]).toArray rfl rfl HT5.out HI5.out HO5.out ?_)
          clear hX6
          refine HWH.out.mono ?_
          rintro e w8 ⟨rfl, hw8⟩
          rw [← hw8]
          clear hw8 x6e HWH
          cases wh with
          | false =>
            clear HCL
            obtain ⟨zs, hzs⟩ : ∃ zs : List Value, zs = [Value.int .i64 0, .int .i64 0, .int .i64 0, .int .i64 0, .int .i64 0, .int .i64 0, .bool false, .int .i64 0, .int .i64 0, .int .i64 0, .slice none 0 0, .int .i64 0, .int .i64 0, .slice none 0 0, .slice none 0 0, .slice none 0 0] := ⟨_, rfl⟩
            have HCI : Hid ((Try.prog.info? 30).map (·.size) = some zs.length) := Lib.hid (by rw [hzs]; kernel_rfl)
            have HCJ : Hid ((Try.prog.info? 30).map (·.size) = some zs.toArray.size) := Lib.hid (by rw [hzs]; kernel_rfl)
            have HTH : Hid (X6.there w.heap.size 0 zs.toArray.size) := Lib.hid (by rw [hzs]; exact HLK.out.res.there rfl)
            have HON : Hid (zs.toArray.all (·.oneCell') = true) := Lib.hid (by rw [hzs]; kernel_rfl)
            have HZS := Lib.hid hzs
            clear hzs
            go_wp2_with (refine wpList_store_mid rfl 30 (.tmp 2) (.tmp 108) rfl w.heap.size 0 zs.toArray rfl (by rw [HZS.out]; rfl) HTH.out HCJ.out HON.out ?_)
            have hra : (X6.setCells w.heap.size 0 zs).rangeAt w.heap.size 0 zs := World.rangeAt_setCells_same X6 w.heap.size 0 zs (by have := HTH.out; simpa using this)
            have hld := run_loadVar_mid (P := Try.prog) (X6.setCells w.heap.size 0 zs) w.heap.size 0 30 zs _ hra Try.underlying30 rfl HCI.out
            have HFZ : Fresh w (X6.setCells w.heap.size 0 zs) := HLK.out.frm.trans' (frm_setCells w.heap.size zs 0 X6) (fun k hk e => by omega)
            refine bodyPost_ret (v := .tuple #[.agg zs.toArray, .int .i64 6]) ?_ rfl (nd_no (decX_half HHD.out HREZ.out KT.out HWW.out.symm) (by have e := HZS.out; subst e; rfl) HFZ)
            rw [results_cell_tmp Try.results14]
            show (((asAddr (.pointer (some ⟨w.heap.size, 0, none⟩))).run Try.prog (X6.setCells w.heap.size 0 zs)).andThen fun a w₁ => ((loadVar 30 a).run Try.prog w₁).andThen fun v w₂ => Result.ok (Value.tuple #[v, Value.int .i64 6]) w₂) = _
            simp only [asAddr, Sem.run_pure, Result.andThen_ok, hld]
          | true =>
            clear HCL
            obtain ⟨zs, hzs⟩ : ∃ zs : List Value, zs = [Value.int .i64 0, .int .i64 0, .int .i64 0, .int .i64 0, .int .i64 0, .int .i64 0, .bool false, .int .i64 0, .int .i64 0, .int .i64 0, .slice none 0 0, .int .i64 0, .int .i64 0, .slice none 0 0, .slice none 0 0, .slice none 0 0] := ⟨_, rfl⟩
            have HCI : Hid ((Try.prog.info? 30).map (·.size) = some zs.length) := Lib.hid (by rw [hzs]; kernel_rfl)
            have HCJ : Hid ((Try.prog.info? 30).map (·.size) = some zs.toArray.size) := Lib.hid (by rw [hzs]; kernel_rfl)
            have HTH : Hid (X6.there w.heap.size 0 zs.toArray.size) := Lib.hid (by rw [hzs]; exact HLK.out.res.there rfl)
            have HON : Hid (zs.toArray.all (·.oneCell') = true) := Lib.hid (by rw [hzs]; kernel_rfl)
            have HZS := Lib.hid hzs
            clear hzs
            go_wp2_with (refine wpList_store_mid rfl 30 (.tmp 2) (.tmp 108) rfl w.heap.size 0 zs.toArray rfl (by rw [HZS.out]; rfl) HTH.out HCJ.out HON.out ?_)
            have hra : (X6.setCells w.heap.size 0 zs).rangeAt w.heap.size 0 zs := World.rangeAt_setCells_same X6 w.heap.size 0 zs (by have := HTH.out; simpa using this)
            have hld := run_loadVar_mid (P := Try.prog) (X6.setCells w.heap.size 0 zs) w.heap.size 0 30 zs _ hra Try.underlying30 rfl HCI.out
            have HFZ : Fresh w (X6.setCells w.heap.size 0 zs) := HLK.out.frm.trans' (frm_setCells w.heap.size zs 0 X6) (fun k hk e => by omega)
            refine bodyPost_ret (v := .tuple #[.agg zs.toArray, .int .i64 6]) ?_ rfl (nd_no (decX_bad HHD.out HREZ.out KT.out HSO.out) (by have e := HZS.out; subst e; rfl) HFZ)
            rw [results_cell_tmp Try.results14]
            show (((asAddr (.pointer (some ⟨w.heap.size, 0, none⟩))).run Try.prog (X6.setCells w.heap.size 0 zs)).andThen fun a w₁ => ((loadVar 30 a).run Try.prog w₁).andThen fun v w₂ => Result.ok (Value.tuple #[v, Value.int .i64 6]) w₂) = _
            simp only [asAddr, Sem.run_pure, Result.andThen_ok, hld]
        · have HSO : Hid (snapOf ts = some c) := Lib.hid (by unfold snapOf; rw [if_neg (by rw [← HTN.out]; exact hz), hdec])
          rw [hdec] at HKD
          unfold KDPost at HKD
          clear hz hdec HIt
          go_wp2_with fail
          refine HKD.out.mono ?_
          rintro e w5 ⟨AV, cv, AL, cl, AD, cd, rfl, hsl, f5⟩
          have HSL := Lib.hid (show SlS w5 B AV cv AL cl AD cd c.vs c.ls c.ds from ⟨hsl.v.less HSB.out, hsl.l.less HSB.out, hsl.d.less HSB.out, hsl.q1, hsl.q2, hsl.q3⟩)
          have HLKn := Lib.hid (HLK5.out.fresh f5)
          have HNDn := Lib.hid (HND5.out.fresh f5)
          clear HLK5 HND5 f5 HKD hsl
          have HLK5 := HLKn
          have HND5 := HNDn
          clear HLKn HNDn
          obtain ⟨m, hm⟩ : ∃ m, m = msgAt hd l AE cE c AV cv AL cl AD cd := ⟨_, rfl⟩
          have HMM := Lib.hid hm
          have HM : Hid (erase m = msgOf hd (l.map eraseE) c) := Lib.hid (by rw [hm]; rfl)
          clear hm
          have HT5 : Hid (w5.there q 11 ([Value.int .i64 (c.i : Int), .int .i64 (c.t : Int), .slice AV c.vs.length cv, .slice AL c.ls.length cl, .slice AD c.ds.length cd]).toArray.size) := Lib.hid (by exact (there_part HLK5.out.box.2 11 5 (Nat.le_refl 16)))
          have HI5 : Hid ((Try.prog.info? 28).map (·.size) = some ([Value.int .i64 (c.i : Int), .int .i64 (c.t : Int), .slice AV c.vs.length cv, .slice AL c.ls.length cl, .slice AD c.ds.length cd]).toArray.size) := Lib.hid (by kernel_rfl)
          have HO5 : Hid (([Value.int .i64 (c.i : Int), .int .i64 (c.t : Int), .slice AV c.vs.length cv, .slice AL c.ls.length cl, .slice AD c.ds.length cd]).toArray.all (·.oneCell') = true) := Lib.hid (by kernel_rfl)
          obtain ⟨X6, hX6⟩ : ∃ X, w5.setCells q 11 ([Value.int .i64 (c.i : Int), .int .i64 (c.t : Int), .slice AV c.vs.length cv, .slice AL c.ls.length cl, .slice AD c.ds.length cd]) = X := ⟨_, rfl⟩
          have HLK : Hid (LK w B g q m X6) := Lib.hid (by rw [← hX6]; exact (by rw [HMM.out]; exact HLK5.out.snap HSL.out))
          have HND : Hid (ND w p6 (p6 + 1) g t11 X6) := Lib.hid (HND5.out.write HLK5.out.box.2 (by decide) (by decide) HLK5.out.box.1 (by
            have := frm_setCells q ([Value.int .i64 (c.i : Int), .int .i64 (c.t : Int), .slice AV c.vs.length cv, .slice AL c.ls.length cl, .slice AD c.ds.length cd]) 11 w5
            have e : (fun k => q = k) = (fun k => k = q) := by funext k; exact propext eq_comm
            rw [e, hX6] at this
            exact this))
          clear HLK5 HND5
          have x6e : X6.cell? ⟨p6, 0, none⟩ = some (.pointer (some ⟨g, 0, none⟩)) := HND.out.c6.cell 0
          have HWH := Lib.hid (pWhole X6 g t11 HND.out.rdr)
          obtain ⟨wh, hwh⟩ : ∃ b, b = wholeS t11 := ⟨_, rfl⟩
          rw [← hwh] at HWH
          have HWW := Lib.hid hwh
          obtain ⟨cs, hcs⟩ : ∃ cs : List Value, cs = (mcells m).toList := ⟨_, rfl⟩
          have HCL : Hid (X6.rangeAt q 0 cs) := Lib.hid (by rw [hcs]; intro j v hv; rw [Nat.zero_add, HLK.out.box.2.cell j]; simpa using hv)
          have HCI : Hid ((Try.prog.info? 30).map (·.size) = some cs.length) := Lib.hid (by rw [hcs]; kernel_rfl)
          have HRT : Hid (Calls Try.prog 33 #[.agg cs.toArray] X6 fun e w' => e = .returned (.bool (rightP m)) ∧ Fresh X6 w') := Lib.hid (by rw [hcs]; exact right_any X6 m HLK.out.rdm)
          have HCS := Lib.hid hcs
          obtain ⟨rp, hrp⟩ : ∃ b, b = rightP m := ⟨_, rfl⟩
          rw [← hrp] at HRT
          have HRP := Lib.hid hrp
          clear hwh hcs hrp
          go_wp2_with (refine wpList_store_mid rfl 28 (.tmp 95) (.tmp 93) rfl q 11 ([Value.int .i64 (c.i : Int), .int .i64 (c.t : Int), .slice AV c.vs.length cv, .slice AL c.ls.length cl, .slice AD c.ds.length cd]).toArray rfl rfl HT5.out HI5.out HO5.out ?_)
          clear hX6
          refine HWH.out.mono ?_
          rintro e w8 ⟨rfl, hw8⟩
          rw [← hw8]
          clear hw8 x6e HWH
          cases wh with
          | false =>
            clear HCL
            obtain ⟨zs, hzs⟩ : ∃ zs : List Value, zs = [Value.int .i64 0, .int .i64 0, .int .i64 0, .int .i64 0, .int .i64 0, .int .i64 0, .bool false, .int .i64 0, .int .i64 0, .int .i64 0, .slice none 0 0, .int .i64 0, .int .i64 0, .slice none 0 0, .slice none 0 0, .slice none 0 0] := ⟨_, rfl⟩
            have HCI : Hid ((Try.prog.info? 30).map (·.size) = some zs.length) := Lib.hid (by rw [hzs]; kernel_rfl)
            have HCJ : Hid ((Try.prog.info? 30).map (·.size) = some zs.toArray.size) := Lib.hid (by rw [hzs]; kernel_rfl)
            have HTH : Hid (X6.there w.heap.size 0 zs.toArray.size) := Lib.hid (by rw [hzs]; exact HLK.out.res.there rfl)
            have HON : Hid (zs.toArray.all (·.oneCell') = true) := Lib.hid (by rw [hzs]; kernel_rfl)
            have HZS := Lib.hid hzs
            clear hzs
            go_wp2_with (refine wpList_store_mid rfl 30 (.tmp 2) (.tmp 108) rfl w.heap.size 0 zs.toArray rfl (by rw [HZS.out]; rfl) HTH.out HCJ.out HON.out ?_)
            have hra : (X6.setCells w.heap.size 0 zs).rangeAt w.heap.size 0 zs := World.rangeAt_setCells_same X6 w.heap.size 0 zs (by have := HTH.out; simpa using this)
            have hld := run_loadVar_mid (P := Try.prog) (X6.setCells w.heap.size 0 zs) w.heap.size 0 30 zs _ hra Try.underlying30 rfl HCI.out
            have HFZ : Fresh w (X6.setCells w.heap.size 0 zs) := HLK.out.frm.trans' (frm_setCells w.heap.size zs 0 X6) (fun k hk e => by omega)
            refine bodyPost_ret (v := .tuple #[.agg zs.toArray, .int .i64 6]) ?_ rfl (nd_no (decX_half HHD.out HREZ.out KT.out HWW.out.symm) (by have e := HZS.out; subst e; rfl) HFZ)
            rw [results_cell_tmp Try.results14]
            show (((asAddr (.pointer (some ⟨w.heap.size, 0, none⟩))).run Try.prog (X6.setCells w.heap.size 0 zs)).andThen fun a w₁ => ((loadVar 30 a).run Try.prog w₁).andThen fun v w₂ => Result.ok (Value.tuple #[v, Value.int .i64 6]) w₂) = _
            simp only [asAddr, Sem.run_pure, Result.andThen_ok, hld]
          | true =>
            go_wp2_with (with_reducible refine wpList_load_want (by kernel_rfl) 30 (.tmp 10) rfl q 0 rfl cs _ HCL.out Try.underlying30 rfl HCI.out ?_)
  
            refine HRT.out.mono ?_
            rintro e w9 ⟨rfl, f9⟩
            have HLK9 := Lib.hid (HLK.out.fresh f9)
            clear HLK HRT
            have HLK := HLK9
            have HCL9 : Hid (w9.rangeAt q 0 cs) := Lib.hid (by rw [HCS.out]; intro j v hv; rw [Nat.zero_add, HLK.out.box.2.cell j]; simpa using hv)
            clear HLK9 f9 HCL
            have HCL := HCL9
            clear HCL9
            cases rp with
            | false =>
              clear HCL
              obtain ⟨zs, hzs⟩ : ∃ zs : List Value, zs = [Value.int .i64 0, .int .i64 0, .int .i64 0, .int .i64 0, .int .i64 0, .int .i64 0, .bool false, .int .i64 0, .int .i64 0, .int .i64 0, .slice none 0 0, .int .i64 0, .int .i64 0, .slice none 0 0, .slice none 0 0, .slice none 0 0] := ⟨_, rfl⟩
              have HCI : Hid ((Try.prog.info? 30).map (·.size) = some zs.length) := Lib.hid (by rw [hzs]; kernel_rfl)
              have HCJ : Hid ((Try.prog.info? 30).map (·.size) = some zs.toArray.size) := Lib.hid (by rw [hzs]; kernel_rfl)
              have HTH : Hid (w9.there w.heap.size 0 zs.toArray.size) := Lib.hid (by rw [hzs]; exact HLK.out.res.there rfl)
              have HON : Hid (zs.toArray.all (·.oneCell') = true) := Lib.hid (by rw [hzs]; kernel_rfl)
              have HZS := Lib.hid hzs
              clear hzs
              go_wp2_with (refine wpList_store_mid rfl 30 (.tmp 2) (.tmp 108) rfl w.heap.size 0 zs.toArray rfl (by rw [HZS.out]; rfl) HTH.out HCJ.out HON.out ?_)
              have hra : (w9.setCells w.heap.size 0 zs).rangeAt w.heap.size 0 zs := World.rangeAt_setCells_same w9 w.heap.size 0 zs (by have := HTH.out; simpa using this)
              have hld := run_loadVar_mid (P := Try.prog) (w9.setCells w.heap.size 0 zs) w.heap.size 0 30 zs _ hra Try.underlying30 rfl HCI.out
              have HFZ : Fresh w (w9.setCells w.heap.size 0 zs) := HLK.out.frm.trans' (frm_setCells w.heap.size zs 0 w9) (fun k hk e => by omega)
              refine bodyPost_ret (v := .tuple #[.agg zs.toArray, .int .i64 6]) ?_ rfl (nd_no (decX_wrong HHD.out HREZ.out KT.out HSO.out HM.out HRP.out.symm) (by have e := HZS.out; subst e; rfl) HFZ)
              rw [results_cell_tmp Try.results14]
              show (((asAddr (.pointer (some ⟨w.heap.size, 0, none⟩))).run Try.prog (w9.setCells w.heap.size 0 zs)).andThen fun a w₁ => ((loadVar 30 a).run Try.prog w₁).andThen fun v w₂ => Result.ok (Value.tuple #[v, Value.int .i64 6]) w₂) = _
              simp only [asAddr, Sem.run_pure, Result.andThen_ok, hld]
            | true =>
              have HCJ : Hid ((Try.prog.info? 30).map (·.size) = some cs.toArray.size) := Lib.hid (by rw [HCS.out]; kernel_rfl)
              have HTH : Hid (w9.there w.heap.size 0 cs.toArray.size) := Lib.hid (by rw [HCS.out]; exact HLK.out.res.there rfl)
              have HON : Hid (cs.toArray.all (·.oneCell') = true) := Lib.hid (by rw [HCS.out]; kernel_rfl)
              go_wp2_with (first | (with_reducible refine wpList_load_mid rfl 30 (.tmp 10) rfl q 0 rfl cs _ HCL.out Try.underlying30 rfl HCI.out ?_) | (with_reducible refine wpList_store_mid rfl 30 (.tmp 2) (.tmp 109) rfl w.heap.size 0 cs.toArray rfl rfl HTH.out HCJ.out HON.out ?_))
              have hra : (w9.setCells w.heap.size 0 cs).rangeAt w.heap.size 0 cs := World.rangeAt_setCells_same w9 w.heap.size 0 cs (by have := HTH.out; simpa using this)
              have hld := run_loadVar_mid (P := Try.prog) (w9.setCells w.heap.size 0 cs) w.heap.size 0 30 cs _ hra Try.underlying30 rfl HCI.out
              have HFZ : Fresh w (w9.setCells w.heap.size 0 cs) := HLK.out.frm.trans' (frm_setCells w.heap.size cs 0 w9) (fun k hk e => by omega)
              refine bodyPost_ret (v := .tuple #[.agg cs.toArray, .int .i64 0]) ?_ rfl (nd_yes (decX_right HHD.out HREZ.out KT.out HSO.out HWW.out.symm HM.out HRP.out.symm) (by have e := HCS.out; subst e; rfl) (HLK.out.out cs) HFZ)
              rw [results_cell_tmp Try.results14]
              show (((asAddr (.pointer (some ⟨w.heap.size, 0, none⟩))).run Try.prog (w9.setCells w.heap.size 0 cs)).andThen fun a w₁ => ((loadVar 30 a).run Try.prog w₁).andThen fun v w₂ => Result.ok (Value.tuple #[v, Value.int .i64 0]) w₂) = _
              simp only [asAddr, Sem.run_pure, Result.andThen_ok, hld]


end Go.Proofs.Ytlceembcehokoaa

/- Proved here, for the statement ClientOnceSaid: laws that its walk leans on. It holds with no condition. (Put together and shortened by a program out of many texts: On57, On59.) -/
import Derived.Test.YtnmokpbomeamfaaGreatZ13
set_option linter.unusedVariables false
set_option maxRecDepth 100000
set_option maxHeartbeats 64000000
namespace Go.Proofs.YtnmokpbomeamfaaGreat
section
open Go.RowKit ReadM
attribute [local go_sem] run_store_float in
theorem pDecode_any (w : World) (A : Option Addr) (cap : Nat) (bs : List UInt8) (hA : Rd w w.heap.size A (bs.map bv)) (hl : bs.length ≤ 1000000) (hc : bs.length ≤ cap) (hm : cap ≤ maxLen) :
 Calls Tryz.prog 38 #[.slice A bs.length cap] w fun e w' => CmdPost w bs e w' := by
 have hmf : ∀ (fn : Fn) (first cap : Array Value) (w : World), (Instr.makeFunc fn first cap).run Tryz.prog w = .ok (.func fn first cap) w := fun _ _ _ _ => rfl
 obtain ⟨W0, hW0⟩ : ∃ W0, w.alloc (.cells #[.int .i64 0, .string ⟨#[]⟩, .int .i64 0, .int .i64 0, .int .i64 0, .int .i64 0, .float .f64 0, .string ⟨#[]⟩, .int .i64 0, .slice none 0 0, .slice none 0 0] 95) = W0 := ⟨_, rfl⟩
 have HF0 : Hid (Fresh w W0) := zh (by rw [← hW0]; exact ((za _ w).alloc _))
 have HB0 : Hid (Blk W0 w.heap.size 95 cz0.toArray) := zh (by rw [← hW0]; exact (Blk.new w _ _))
 have HN := zh (rdr_new W0 W0.heap.size A cap bs ((hA.fresh (zf _) HF0.out).more HF0.out.size) (zf _) (by omega) hc hm)
 obtain ⟨⟨x1, s1⟩, h1⟩ : ∃ y, rdn 9 (bs, false) = y := ⟨_, rfl⟩
 obtain ⟨⟨x2, s2⟩, h2⟩ : ∃ y, rdt 16 s1 = y := ⟨_, rfl⟩
 obtain ⟨⟨x3, s3⟩, h3⟩ : ∃ y, rdn 9999 s2 = y := ⟨_, rfl⟩
 obtain ⟨⟨x4, s4⟩, h4⟩ : ∃ y, rdn 9999 s3 = y := ⟨_, rfl⟩
 obtain ⟨⟨x5, s5⟩, h5⟩ : ∃ y, rdn 9999 s4 = y := ⟨_, rfl⟩
 obtain ⟨⟨x6, s6⟩, h6⟩ : ∃ y, rdn 1099511627776 s5 = y := ⟨_, rfl⟩
 obtain ⟨⟨x7, s7⟩, h7⟩ : ∃ y, rdn 18446744073709551615 s6 = y := ⟨_, rfl⟩
 obtain ⟨⟨x8, s8⟩, h8⟩ : ∃ y, rdt 16 s7 = y := ⟨_, rfl⟩
 obtain ⟨⟨x9, s9⟩, h9⟩ : ∃ y, rdn 9999 s8 = y := ⟨_, rfl⟩
 obtain ⟨⟨x10, s10⟩, h10⟩ : ∃ y, rdn 16 s9 = y := ⟨_, rfl⟩
 obtain ⟨⟨gs, s11⟩, h11⟩ : ∃ y, rmany (rdni 9999) x10 s10 = y := ⟨_, rfl⟩
 obtain ⟨⟨x12, s12⟩, h12⟩ : ∃ y, rdn 16 s11 = y := ⟨_, rfl⟩
 obtain ⟨⟨ps, s13⟩, h13⟩ : ∃ y, rmany rdf x12 s12 = y := ⟨_, rfl⟩
 have HDS : Hid (cmdS (bs, false) = (⟨(x1 : Int), x2, (x3 : Int), (x4 : Int), (x5 : Int), (x6 : Int), FareM.of x7, x8, (x9 : Int), gs, ps⟩, s13)) := zh (by
  unfold cmdS
  simp only [h1, h2, h3, h4, h5, h6, h7, h8, h9, h10, h11, h12, h13])
 have HBS : Hid (CmB ⟨(x1 : Int), x2, (x3 : Int), (x4 : Int), (x5 : Int), (x6 : Int), FareM.of x7, x8, (x9 : Int), gs, ps⟩) := zh (by have := cmdS_ok (bs, false); rw [HDS.out] at this; exact this)
 have hx10 : x10 ≤ 16 := by have := rdn_le 16 s9; rw [h10] at this; exact this
 have hx12 : x12 ≤ 16 := by have := rdn_le 16 s11; rw [h12] at this; exact this
 have HGL : Hid (x10 = gs.length) := zh (by have := rmany_len (rdni 9999) x10 s10; rw [h11] at this; exact this.symm)
 have HPL : Hid (x12 = ps.length) := zh (by have := rmany_len rdf x12 s12; rw [h13] at this; exact this.symm)
 have H1 := zh h1
 have H2 := zh h2
 have H3 := zh h3
 have H4 := zh h4
 have H5 := zh h5
 have H6 := zh h6
 have H7 := zh h7
 have H8 := zh h8
 have H9 := zh h9
 have H10 := zh h10
 have H11 := zh h11
 have H12 := zh h12
 have H13 := zh h13
 clear hA h1 h2 h3 h4 h5 h6 h7 h8 h9 h10 h11 h12 h13
 go_in
 go_upto_region 1 with fail
 try rw [hW0]
 clear hW0
 go_wp2_with fail
 refine HN.out.mono ?_
 rintro e w1 ⟨g, rfl, hr1, f1, hg1⟩
 obtain ⟨rb, hrb⟩ : ∃ rb, w1.heap.size = rb := ⟨_, rfl⟩
 obtain ⟨W3, hW3⟩ : ∃ W, w1.alloc (.cells #[.pointer (some ⟨g, 0, none⟩)] 118) = W := ⟨_, rfl⟩
 have HP : Hid (P0 w g rb (bs, false) W3) := zh (by
  have hb2 : Blk W3 w1.heap.size 118 #[.pointer (some ⟨g, 0, none⟩)] := by rw [← hW3]; exact Blk.new _ _ _
  have FS : Fresh w1 W3 := by rw [← hW3]; exact jC _ _
  obtain ⟨_, hgb⟩ := hr1.blk
  refine ⟨hr1.frm FS (fun f => f) (fun _ _ f => f), hl, ?_, by have := hgb.lt; omega, by rw [← hrb]; exact hb2, (HB0.out.frm f1 (fun f => f)).frm FS (fun f => f), (HF0.out.trans f1).trans FS⟩
  have := HB0.out.lt
  omega)
 clear hr1 f1 HN
 go_upto_region 3 with fail
 try rw [hW3]
 try rw [hrb]
 clear hW3 hrb
 refine Code.wp_mono (Q := fun e a w' => e = .normal ∧ ∃ q, a = ⟨#[.slice A bs.length cap, undef, .pointer (some ⟨w.heap.size, 0, none⟩), .int .i64 0, .pointer (some ⟨rb, 0, none⟩), .func (.func 56) #[] #[.pointer (some ⟨rb, 0, none⟩)], .pointer (some ⟨q, 0, none⟩), .slice A bs.length cap, .pointer (some ⟨g, 0, none⟩), .agg #[.pointer (some ⟨g, 0, none⟩)], .func (.func 56) #[] #[.pointer (some ⟨rb, 0, none⟩)], .agg #[.pointer (some ⟨g, 0, none⟩)], .int .i64 (x1 : Int), .agg #[.pointer (some ⟨g, 0, none⟩)], .string (str x2), .func (.func 56) #[] #[.pointer (some ⟨rb, 0, none⟩)], .int .i64 (x3 : Int), .func (.func 56) #[] #[.pointer (some ⟨rb, 0, none⟩)], .int .i64 (x4 : Int), .func (.func 56) #[] #[.pointer (some ⟨rb, 0, none⟩)], .int .i64 (x5 : Int), .agg #[.pointer (some ⟨g, 0, none⟩)], .int .i64 (x6 : Int), .agg #[.int .i64 (x1 : Int), .string (str x2), .int .i64 (x3 : Int), .int .i64 (x4 : Int), .int .i64 (x5 : Int), .int .i64 (x6 : Int), .float .f64 0, .string ⟨#[]⟩, .int .i64 0, .slice none 0 0, .slice none 0 0], undef, undef, undef, undef, undef, undef, undef, undef, undef, undef, undef, undef, undef, undef, undef, undef, undef, undef, undef, undef, undef, undef, undef, undef, undef, undef, undef, undef, undef, undef, undef, undef, undef], []⟩ ∧ P1 w g rb q s6 [.int .i64 (x1 : Int), .string (str x2), .int .i64 (x3 : Int), .int .i64 (x4 : Int), .int .i64 (x5 : Int), .int .i64 (x6 : Int), .float .f64 0, .string ⟨#[]⟩, .int .i64 0, .slice none 0 0, .slice none 0 0] w') ?_ ?_
 rotate_left 1
 ·have HPd := zh (HP.out.fresh (za _ W3).drew)
  refine zj (S := (fun w' => w'.cell? ⟨rb, 0, none⟩ = some (.pointer (some ⟨g, 0, none⟩)))) (by kernel_rfl) (HPd.out.rbx.cell 0) (fun hHeld => ?_)
  (refine ztz (v := ?_) (zo rfl) ?_; try simp only [Act.put, zT, zZ, zS])
  (refine zt 2 (v := ?_) (zo rfl) ?_; try simp only [Act.put, zT, zZ, zS])
  (refine zt 4 (v := ?_) (zo rfl) ?_; try simp only [Act.put, zT, zZ, zS])
  (refine zt 6 (v := ?_) (zo rfl) ?_; try simp only [Act.put, zT, zZ, zS])
  (refine zt 8 (v := ?_) (zo rfl) ?_; try simp only [Act.put, zT, zZ, zS])
  (refine zt 10 (v := ?_) (zo rfl) ?_; try simp only [Act.put, zT, zZ, zS])
  refine zr2 1 13 (zo rfl) (zo rfl) (fun K hK => ?_) (fun K hK => ?_)
  ·go_simp
   refine (HPd.out.num  9 (by omega) H1.out).mono ?_
   rintro e r1 ⟨rfl, hh0⟩
   have HP1 := zh hh0
   clear hh0
   refine hK.out _ _ (HP1.out.rbx.cell 0) (fun hHeld => ?_)
   clear hK K
   try simp only [Act.put, zT, zZ, zS]
   refine zr2 3 13 (zo rfl) (zo rfl) (fun K hK => ?_) (fun K hK => ?_)
   ·go_simp
    refine (HP1.out.text  H2.out).mono ?_
    rintro e r2 ⟨rfl, hh1⟩
    have HP2 := zh hh1
    clear hh1
    refine hK.out _ _ (HP2.out.rbx.cell 0) (fun hHeld => ?_)
    clear hK K
    try simp only [Act.put, zT, zZ, zS]
    refine zr2 5 13 (zo rfl) (zo rfl) (fun K hK => ?_) (fun K hK => ?_)
    ·go_simp
     refine (HP2.out.one  H3.out).mono ?_
     rintro e r3 ⟨rfl, hh2⟩
     have HP3 := zh hh2
     clear hh2
     refine hK.out _ _ (HP3.out.rbx.cell 0) (fun hHeld => ?_)
     clear hK K
     try simp only [Act.put, zT, zZ, zS]
     refine zr2 7 13 (zo rfl) (zo rfl) (fun K hK => ?_) (fun K hK => ?_)
     ·go_simp
      refine (HP3.out.one  H4.out).mono ?_
      rintro e r4 ⟨rfl, hh3⟩
      have HP4 := zh hh3
      clear hh3
      refine hK.out _ _ (HP4.out.rbx.cell 0) (fun hHeld => ?_)
      clear hK K
      try simp only [Act.put, zT, zZ, zS]
      refine zr2 9 13 (zo rfl) (zo rfl) (fun K hK => ?_) (fun K hK => ?_)
      ·go_simp
       refine (HP4.out.one  H5.out).mono ?_
       rintro e r5 ⟨rfl, hh4⟩
       have HP5 := zh hh4
       clear hh4
       refine hK.out _ _ (HP5.out.rbx.cell 0) (fun hHeld => ?_)
       clear hK K
       try simp only [Act.put, zT, zZ, zS]
       refine zr2 11 13 (zo rfl) (zo rfl) (fun K hK => ?_) (fun K hK => ?_)
       ·go_simp
        refine (HP5.out.num  1099511627776 (by omega) H6.out).mono ?_
        rintro e r6 ⟨rfl, hh5⟩
        have HP6 := zh hh5
        clear hh5
        refine hK.out _ _ (HP6.out.rbx.cell 0) (fun hHeld => ?_)
        clear hK K
        try simp only [Act.put, zT, zZ, zS]
        (refine zt 12 (v := ?_) (zo rfl) ?_; try simp only [Act.put, zT, zZ, zS])
        refine zr1 13 (zo rfl) (fun K hK => ?_)
        go_simp
        have HQ6a : Hid (P1 w g rb (r6).heap.size s6 [.int .i64 0, .string ⟨#[]⟩, .int .i64 0, .int .i64 0, .int .i64 0, .int .i64 0, .float .f64 0, .string ⟨#[]⟩, .int .i64 0, .slice none 0 0, .slice none 0 0] ((r6).alloc (.cells #[.int .i64 0, .string ⟨#[]⟩, .int .i64 0, .int .i64 0, .int .i64 0, .int .i64 0, .float .f64 0, .string ⟨#[]⟩, .int .i64 0, .slice none 0 0, .slice none 0 0] 95))) := zh (HP6.out.box [.int .i64 0, .string ⟨#[]⟩, .int .i64 0, .int .i64 0, .int .i64 0, .int .i64 0, .float .f64 0, .string ⟨#[]⟩, .int .i64 0, .slice none 0 0, .slice none 0 0])
        refine hK.out _ _ (HQ6a.out.d.rbx.cell 0) (fun hHeld => ?_)
        clear hK K
        try simp only [Act.put, zT, zZ, zS]
        refine zr1 14 (zo rfl) (fun K hK => ?_)
        rw [zl (by rfl)]
        obtain ⟨zs, hzs⟩ : ∃ zs : List Value, zs = [.int .i64 (x1 : Int), .string (str x2), .int .i64 (x3 : Int), .int .i64 (x4 : Int), .int .i64 (x5 : Int), .int .i64 (x6 : Int), .float .f64 0, .string ⟨#[]⟩, .int .i64 0, .slice none 0 0, .slice none 0 0] := ⟨_, rfl⟩
        have HZS := zh hzs
        have HTH : Hid (((r6).alloc (.cells #[.int .i64 0, .string ⟨#[]⟩, .int .i64 0, .int .i64 0, .int .i64 0, .int .i64 0, .float .f64 0, .string ⟨#[]⟩, .int .i64 0, .slice none 0 0, .slice none 0 0] 95)).there ((r6).heap.size) 0 zs.toArray.size) := zh (by rw [hzs]; exact HQ6a.out.box.there rfl)
        have HZJ : Hid ((Tryz.prog.info? 95).map (·.size) = some zs.toArray.size) := zh (by rw [hzs]; kernel_rfl)
        have HZO : Hid (zs.toArray.all (·.oneCell') = true) := zh (by rw [hzs]; kernel_rfl)
        have HAL := zh (HQ6a.out.all zs (by rw [hzs]; rfl))
        clear hzs
        refine wp_store_mid 95 (.tmp 6) (.tmp 23) rfl ((r6).heap.size) 0 zs.toArray (by simp [Act.eval, Act.put]) (by rw [HZS.out]; simp [Act.eval, Act.put]) HTH.out HZJ.out HZO.out ?_
        refine hK.out _ _ (HAL.out.d.rbx.cell 0) (fun hHeld => ?_)
        clear hK K
        try simp only [Act.put, zT, zZ, zS]
        refine wpAnyH_done (by kernel_rfl) ?_ _
        exact ⟨rfl, _, rfl, by have h := HAL.out; rw [HZS.out] at h ⊢; exact h⟩
       ·go_simp
        have HQ5a : Hid (P1 w g rb (r5).heap.size s5 [.int .i64 0, .string ⟨#[]⟩, .int .i64 0, .int .i64 0, .int .i64 0, .int .i64 0, .float .f64 0, .string ⟨#[]⟩, .int .i64 0, .slice none 0 0, .slice none 0 0] ((r5).alloc (.cells #[.int .i64 0, .string ⟨#[]⟩, .int .i64 0, .int .i64 0, .int .i64 0, .int .i64 0, .float .f64 0, .string ⟨#[]⟩, .int .i64 0, .slice none 0 0, .slice none 0 0] 95))) := zh (HP5.out.box [.int .i64 0, .string ⟨#[]⟩, .int .i64 0, .int .i64 0, .int .i64 0, .int .i64 0, .float .f64 0, .string ⟨#[]⟩, .int .i64 0, .slice none 0 0, .slice none 0 0])
        refine hK.out _ _ (HQ5a.out.d.rbx.cell 0) (fun hHeld => ?_)
        clear hK K
        try simp only [Act.put, zT, zZ, zS]
        refine zr1 11 (zo rfl) (fun K hK => ?_)
        go_simp
        refine (HQ5a.out.num  1099511627776 (by omega) H6.out).mono ?_
        rintro e r6 ⟨rfl, hh5, _⟩
        have HQ6 := zh hh5
        clear hh5
        refine hK.out _ _ (HQ6.out.d.rbx.cell 0) (fun hHeld => ?_)
        clear hK K
        try simp only [Act.put, zT, zZ, zS]
        (refine ztn (v := ?_) (zo rfl) ?_; try simp only [Act.put, zT, zZ, zS])
        refine zr1 14 (zo rfl) (fun K hK => ?_)
        rw [zl (by rfl)]
        obtain ⟨zs, hzs⟩ : ∃ zs : List Value, zs = [.int .i64 (x1 : Int), .string (str x2), .int .i64 (x3 : Int), .int .i64 (x4 : Int), .int .i64 (x5 : Int), .int .i64 (x6 : Int), .float .f64 0, .string ⟨#[]⟩, .int .i64 0, .slice none 0 0, .slice none 0 0] := ⟨_, rfl⟩
        have HZS := zh hzs
        have HTH : Hid ((r6).there ((r5).heap.size) 0 zs.toArray.size) := zh (by rw [hzs]; exact HQ6.out.box.there rfl)
        have HZJ : Hid ((Tryz.prog.info? 95).map (·.size) = some zs.toArray.size) := zh (by rw [hzs]; kernel_rfl)
        have HZO : Hid (zs.toArray.all (·.oneCell') = true) := zh (by rw [hzs]; kernel_rfl)
        have HAL := zh (HQ6.out.all zs (by rw [hzs]; rfl))
        clear hzs
        refine wp_store_mid 95 (.tmp 6) (.tmp 23) rfl ((r5).heap.size) 0 zs.toArray (by simp [Act.eval, Act.put]) (by rw [HZS.out]; simp [Act.eval, Act.put]) HTH.out HZJ.out HZO.out ?_
        refine hK.out _ _ (HAL.out.d.rbx.cell 0) (fun hHeld => ?_)
        clear hK K
        try simp only [Act.put, zT, zZ, zS]
        refine wpAnyH_done (by kernel_rfl) ?_ _
        exact ⟨rfl, _, rfl, by have h := HAL.out; rw [HZS.out] at h ⊢; exact h⟩
      ·go_simp
       have HQ4a : Hid (P1 w g rb (r4).heap.size s4 [.int .i64 0, .string ⟨#[]⟩, .int .i64 0, .int .i64 0, .int .i64 0, .int .i64 0, .float .f64 0, .string ⟨#[]⟩, .int .i64 0, .slice none 0 0, .slice none 0 0] ((r4).alloc (.cells #[.int .i64 0, .string ⟨#[]⟩, .int .i64 0, .int .i64 0, .int .i64 0, .int .i64 0, .float .f64 0, .string ⟨#[]⟩, .int .i64 0, .slice none 0 0, .slice none 0 0] 95))) := zh (HP4.out.box [.int .i64 0, .string ⟨#[]⟩, .int .i64 0, .int .i64 0, .int .i64 0, .int .i64 0, .float .f64 0, .string ⟨#[]⟩, .int .i64 0, .slice none 0 0, .slice none 0 0])
       refine hK.out _ _ (HQ4a.out.d.rbx.cell 0) (fun hHeld => ?_)
       clear hK K
       try simp only [Act.put, zT, zZ, zS]
       refine zr1 9 (zo rfl) (fun K hK => ?_)
       go_simp
       refine (HQ4a.out.one  H5.out).mono ?_
       rintro e r5 ⟨rfl, hh4, _⟩
       have HQ5 := zh hh4
       clear hh4
       refine hK.out _ _ (HQ5.out.d.rbx.cell 0) (fun hHeld => ?_)
       clear hK K
       try simp only [Act.put, zT, zZ, zS]
       refine zr1 11 (zo rfl) (fun K hK => ?_)
       go_simp
       refine (HQ5.out.num  1099511627776 (by omega) H6.out).mono ?_
       rintro e r6 ⟨rfl, hh5, _⟩
       have HQ6 := zh hh5
       clear hh5
       refine hK.out _ _ (HQ6.out.d.rbx.cell 0) (fun hHeld => ?_)
       clear hK K
       try simp only [Act.put, zT, zZ, zS]
       (refine ztn (v := ?_) (zo rfl) ?_; try simp only [Act.put, zT, zZ, zS])
       refine zr1 14 (zo rfl) (fun K hK => ?_)
       rw [zl (by rfl)]
       obtain ⟨zs, hzs⟩ : ∃ zs : List Value, zs = [.int .i64 (x1 : Int), .string (str x2), .int .i64 (x3 : Int), .int .i64 (x4 : Int), .int .i64 (x5 : Int), .int .i64 (x6 : Int), .float .f64 0, .string ⟨#[]⟩, .int .i64 0, .slice none 0 0, .slice none 0 0] := ⟨_, rfl⟩
       have HZS := zh hzs
       have HTH : Hid ((r6).there ((r4).heap.size) 0 zs.toArray.size) := zh (by rw [hzs]; exact HQ6.out.box.there rfl)
       have HZJ : Hid ((Tryz.prog.info? 95).map (·.size) = some zs.toArray.size) := zh (by rw [hzs]; kernel_rfl)
       have HZO : Hid (zs.toArray.all (·.oneCell') = true) := zh (by rw [hzs]; kernel_rfl)
       have HAL := zh (HQ6.out.all zs (by rw [hzs]; rfl))
       clear hzs
       refine wp_store_mid 95 (.tmp 6) (.tmp 23) rfl ((r4).heap.size) 0 zs.toArray (by simp [Act.eval, Act.put]) (by rw [HZS.out]; simp [Act.eval, Act.put]) HTH.out HZJ.out HZO.out ?_
       refine hK.out _ _ (HAL.out.d.rbx.cell 0) (fun hHeld => ?_)
       clear hK K
       try simp only [Act.put, zT, zZ, zS]
       refine wpAnyH_done (by kernel_rfl) ?_ _
       exact ⟨rfl, _, rfl, by have h := HAL.out; rw [HZS.out] at h ⊢; exact h⟩
     ·go_simp
      have HQ3a : Hid (P1 w g rb (r3).heap.size s3 [.int .i64 0, .string ⟨#[]⟩, .int .i64 0, .int .i64 0, .int .i64 0, .int .i64 0, .float .f64 0, .string ⟨#[]⟩, .int .i64 0, .slice none 0 0, .slice none 0 0] ((r3).alloc (.cells #[.int .i64 0, .string ⟨#[]⟩, .int .i64 0, .int .i64 0, .int .i64 0, .int .i64 0, .float .f64 0, .string ⟨#[]⟩, .int .i64 0, .slice none 0 0, .slice none 0 0] 95))) := zh (HP3.out.box [.int .i64 0, .string ⟨#[]⟩, .int .i64 0, .int .i64 0, .int .i64 0, .int .i64 0, .float .f64 0, .string ⟨#[]⟩, .int .i64 0, .slice none 0 0, .slice none 0 0])
      refine hK.out _ _ (HQ3a.out.d.rbx.cell 0) (fun hHeld => ?_)
      clear hK K
      try simp only [Act.put, zT, zZ, zS]
      refine zr1 7 (zo rfl) (fun K hK => ?_)
      go_simp
      refine (HQ3a.out.one  H4.out).mono ?_
      rintro e r4 ⟨rfl, hh3, _⟩
      have HQ4 := zh hh3
      clear hh3
      refine hK.out _ _ (HQ4.out.d.rbx.cell 0) (fun hHeld => ?_)
      clear hK K
      try simp only [Act.put, zT, zZ, zS]
      refine zr1 9 (zo rfl) (fun K hK => ?_)
      go_simp
      refine (HQ4.out.one  H5.out).mono ?_
      rintro e r5 ⟨rfl, hh4, _⟩
      have HQ5 := zh hh4
      clear hh4
      refine hK.out _ _ (HQ5.out.d.rbx.cell 0) (fun hHeld => ?_)
      clear hK K
      try simp only [Act.put, zT, zZ, zS]
      refine zr1 11 (zo rfl) (fun K hK => ?_)
      go_simp
      refine (HQ5.out.num  1099511627776 (by omega) H6.out).mono ?_
      rintro e r6 ⟨rfl, hh5, _⟩
      have HQ6 := zh hh5
      clear hh5
      refine hK.out _ _ (HQ6.out.d.rbx.cell 0) (fun hHeld => ?_)
      clear hK K
      try simp only [Act.put, zT, zZ, zS]
      (refine ztn (v := ?_) (zo rfl) ?_; try simp only [Act.put, zT, zZ, zS])
      refine zr1 14 (zo rfl) (fun K hK => ?_)
      rw [zl (by rfl)]
      obtain ⟨zs, hzs⟩ : ∃ zs : List Value, zs = [.int .i64 (x1 : Int), .string (str x2), .int .i64 (x3 : Int), .int .i64 (x4 : Int), .int .i64 (x5 : Int), .int .i64 (x6 : Int), .float .f64 0, .string ⟨#[]⟩, .int .i64 0, .slice none 0 0, .slice none 0 0] := ⟨_, rfl⟩
      have HZS := zh hzs
      have HTH : Hid ((r6).there ((r3).heap.size) 0 zs.toArray.size) := zh (by rw [hzs]; exact HQ6.out.box.there rfl)
      have HZJ : Hid ((Tryz.prog.info? 95).map (·.size) = some zs.toArray.size) := zh (by rw [hzs]; kernel_rfl)
      have HZO : Hid (zs.toArray.all (·.oneCell') = true) := zh (by rw [hzs]; kernel_rfl)
      have HAL := zh (HQ6.out.all zs (by rw [hzs]; rfl))
      clear hzs
      refine wp_store_mid 95 (.tmp 6) (.tmp 23) rfl ((r3).heap.size) 0 zs.toArray (by simp [Act.eval, Act.put]) (by rw [HZS.out]; simp [Act.eval, Act.put]) HTH.out HZJ.out HZO.out ?_
      refine hK.out _ _ (HAL.out.d.rbx.cell 0) (fun hHeld => ?_)
      clear hK K
      try simp only [Act.put, zT, zZ, zS]
      refine wpAnyH_done (by kernel_rfl) ?_ _
      exact ⟨rfl, _, rfl, by have h := HAL.out; rw [HZS.out] at h ⊢; exact h⟩
    ·go_simp
     have HQ2a : Hid (P1 w g rb (r2).heap.size s2 [.int .i64 0, .string ⟨#[]⟩, .int .i64 0, .int .i64 0, .int .i64 0, .int .i64 0, .float .f64 0, .string ⟨#[]⟩, .int .i64 0, .slice none 0 0, .slice none 0 0] ((r2).alloc (.cells #[.int .i64 0, .string ⟨#[]⟩, .int .i64 0, .int .i64 0, .int .i64 0, .int .i64 0, .float .f64 0, .string ⟨#[]⟩, .int .i64 0, .slice none 0 0, .slice none 0 0] 95))) := zh (HP2.out.box [.int .i64 0, .string ⟨#[]⟩, .int .i64 0, .int .i64 0, .int .i64 0, .int .i64 0, .float .f64 0, .string ⟨#[]⟩, .int .i64 0, .slice none 0 0, .slice none 0 0])
     refine hK.out _ _ (HQ2a.out.d.rbx.cell 0) (fun hHeld => ?_)
     clear hK K
     try simp only [Act.put, zT, zZ, zS]
     refine zr1 5 (zo rfl) (fun K hK => ?_)
     go_simp
     refine (HQ2a.out.one  H3.out).mono ?_
     rintro e r3 ⟨rfl, hh2, _⟩
     have HQ3 := zh hh2
     clear hh2
     refine hK.out _ _ (HQ3.out.d.rbx.cell 0) (fun hHeld => ?_)
     clear hK K
     try simp only [Act.put, zT, zZ, zS]
     refine zr1 7 (zo rfl) (fun K hK => ?_)
     go_simp
     refine (HQ3.out.one  H4.out).mono ?_
     rintro e r4 ⟨rfl, hh3, _⟩
     have HQ4 := zh hh3
     clear hh3
     refine hK.out _ _ (HQ4.out.d.rbx.cell 0) (fun hHeld => ?_)
     clear hK K
     try simp only [Act.put, zT, zZ, zS]
     refine zr1 9 (zo rfl) (fun K hK => ?_)
     go_simp
     refine (HQ4.out.one  H5.out).mono ?_
     rintro e r5 ⟨rfl, hh4, _⟩
     have HQ5 := zh hh4
     clear hh4
     refine hK.out _ _ (HQ5.out.d.rbx.cell 0) (fun hHeld => ?_)
     clear hK K
     try simp only [Act.put, zT, zZ, zS]
     refine zr1 11 (zo rfl) (fun K hK => ?_)
     go_simp
     refine (HQ5.out.num  1099511627776 (by omega) H6.out).mono ?_
     rintro e r6 ⟨rfl, hh5, _⟩
     have HQ6 := zh hh5
     clear hh5
     refine hK.out _ _ (HQ6.out.d.rbx.cell 0) (fun hHeld => ?_)
     clear hK K
     try simp only [Act.put, zT, zZ, zS]
     (refine ztn (v := ?_) (zo rfl) ?_; try simp only [Act.put, zT, zZ, zS])
     refine zr1 14 (zo rfl) (fun K hK => ?_)
     rw [zl (by rfl)]
     obtain ⟨zs, hzs⟩ : ∃ zs : List Value, zs = [.int .i64 (x1 : Int), .string (str x2), .int .i64 (x3 : Int), .int .i64 (x4 : Int), .int .i64 (x5 : Int), .int .i64 (x6 : Int), .float .f64 0, .string ⟨#[]⟩, .int .i64 0, .slice none 0 0, .slice none 0 0] := ⟨_, rfl⟩
     have HZS := zh hzs
     have HTH : Hid ((r6).there ((r2).heap.size) 0 zs.toArray.size) := zh (by rw [hzs]; exact HQ6.out.box.there rfl)
     have HZJ : Hid ((Tryz.prog.info? 95).map (·.size) = some zs.toArray.size) := zh (by rw [hzs]; kernel_rfl)
     have HZO : Hid (zs.toArray.all (·.oneCell') = true) := zh (by rw [hzs]; kernel_rfl)
     have HAL := zh (HQ6.out.all zs (by rw [hzs]; rfl))
     clear hzs
     refine wp_store_mid 95 (.tmp 6) (.tmp 23) rfl ((r2).heap.size) 0 zs.toArray (by simp [Act.eval, Act.put]) (by rw [HZS.out]; simp [Act.eval, Act.put]) HTH.out HZJ.out HZO.out ?_
     refine hK.out _ _ (HAL.out.d.rbx.cell 0) (fun hHeld => ?_)
     clear hK K
     try simp only [Act.put, zT, zZ, zS]
     refine wpAnyH_done (by kernel_rfl) ?_ _
     exact ⟨rfl, _, rfl, by have h := HAL.out; rw [HZS.out] at h ⊢; exact h⟩
   ·go_simp
    have HQ1a : Hid (P1 w g rb (r1).heap.size s1 [.int .i64 0, .string ⟨#[]⟩, .int .i64 0, .int .i64 0, .int .i64 0, .int .i64 0, .float .f64 0, .string ⟨#[]⟩, .int .i64 0, .slice none 0 0, .slice none 0 0] ((r1).alloc (.cells #[.int .i64 0, .string ⟨#[]⟩, .int .i64 0, .int .i64 0, .int .i64 0, .int .i64 0, .float .f64 0, .string ⟨#[]⟩, .int .i64 0, .slice none 0 0, .slice none 0 0] 95))) := zh (HP1.out.box [.int .i64 0, .string ⟨#[]⟩, .int .i64 0, .int .i64 0, .int .i64 0, .int .i64 0, .float .f64 0, .string ⟨#[]⟩, .int .i64 0, .slice none 0 0, .slice none 0 0])
    refine hK.out _ _ (HQ1a.out.d.rbx.cell 0) (fun hHeld => ?_)
    clear hK K
    try simp only [Act.put, zT, zZ, zS]
    refine zr1 3 (zo rfl) (fun K hK => ?_)
    go_simp
    refine (HQ1a.out.text  H2.out).mono ?_
    rintro e r2 ⟨rfl, hh1, _⟩
    have HQ2 := zh hh1
    clear hh1
    refine hK.out _ _ (HQ2.out.d.rbx.cell 0) (fun hHeld => ?_)
    clear hK K
    try simp only [Act.put, zT, zZ, zS]
    refine zr1 5 (zo rfl) (fun K hK => ?_)
    go_simp
    refine (HQ2.out.one  H3.out).mono ?_
    rintro e r3 ⟨rfl, hh2, _⟩
    have HQ3 := zh hh2
    clear hh2
    refine hK.out _ _ (HQ3.out.d.rbx.cell 0) (fun hHeld => ?_)
    clear hK K
    try simp only [Act.put, zT, zZ, zS]
    refine zr1 7 (zo rfl) (fun K hK => ?_)
    go_simp
    refine (HQ3.out.one  H4.out).mono ?_
    rintro e r4 ⟨rfl, hh3, _⟩
    have HQ4 := zh hh3
    clear hh3
    refine hK.out _ _ (HQ4.out.d.rbx.cell 0) (fun hHeld => ?_)
    clear hK K
    try simp only [Act.put, zT, zZ, zS]
    refine zr1 9 (zo rfl) (fun K hK => ?_)
    go_simp
    refine (HQ4.out.one  H5.out).mono ?_
    rintro e r5 ⟨rfl, hh4, _⟩
    have HQ5 := zh hh4
    clear hh4
    refine hK.out _ _ (HQ5.out.d.rbx.cell 0) (fun hHeld => ?_)
    clear hK K
    try simp only [Act.put, zT, zZ, zS]
    refine zr1 11 (zo rfl) (fun K hK => ?_)
    go_simp
    refine (HQ5.out.num  1099511627776 (by omega) H6.out).mono ?_
    rintro e r6 ⟨rfl, hh5, _⟩
    have HQ6 := zh hh5
    clear hh5
    refine hK.out _ _ (HQ6.out.d.rbx.cell 0) (fun hHeld => ?_)
    clear hK K
    try simp only [Act.put, zT, zZ, zS]
    (refine ztn (v := ?_) (zo rfl) ?_; try simp only [Act.put, zT, zZ, zS])
    refine zr1 14 (zo rfl) (fun K hK => ?_)
    rw [zl (by rfl)]
    obtain ⟨zs, hzs⟩ : ∃ zs : List Value, zs = [.int .i64 (x1 : Int), .string (str x2), .int .i64 (x3 : Int), .int .i64 (x4 : Int), .int .i64 (x5 : Int), .int .i64 (x6 : Int), .float .f64 0, .string ⟨#[]⟩, .int .i64 0, .slice none 0 0, .slice none 0 0] := ⟨_, rfl⟩
    have HZS := zh hzs
    have HTH : Hid ((r6).there ((r1).heap.size) 0 zs.toArray.size) := zh (by rw [hzs]; exact HQ6.out.box.there rfl)
    have HZJ : Hid ((Tryz.prog.info? 95).map (·.size) = some zs.toArray.size) := zh (by rw [hzs]; kernel_rfl)
    have HZO : Hid (zs.toArray.all (·.oneCell') = true) := zh (by rw [hzs]; kernel_rfl)
    have HAL := zh (HQ6.out.all zs (by rw [hzs]; rfl))
    clear hzs
    refine wp_store_mid 95 (.tmp 6) (.tmp 23) rfl ((r1).heap.size) 0 zs.toArray (by simp [Act.eval, Act.put]) (by rw [HZS.out]; simp [Act.eval, Act.put]) HTH.out HZJ.out HZO.out ?_
    refine hK.out _ _ (HAL.out.d.rbx.cell 0) (fun hHeld => ?_)
    clear hK K
    try simp only [Act.put, zT, zZ, zS]
    refine wpAnyH_done (by kernel_rfl) ?_ _
    exact ⟨rfl, _, rfl, by have h := HAL.out; rw [HZS.out] at h ⊢; exact h⟩
  ·go_simp
   have HQ0a : Hid (P1 w g rb (W3.drew).heap.size (bs, false) [.int .i64 0, .string ⟨#[]⟩, .int .i64 0, .int .i64 0, .int .i64 0, .int .i64 0, .float .f64 0, .string ⟨#[]⟩, .int .i64 0, .slice none 0 0, .slice none 0 0] ((W3.drew).alloc (.cells #[.int .i64 0, .string ⟨#[]⟩, .int .i64 0, .int .i64 0, .int .i64 0, .int .i64 0, .float .f64 0, .string ⟨#[]⟩, .int .i64 0, .slice none 0 0, .slice none 0 0] 95))) := zh (HPd.out.box [.int .i64 0, .string ⟨#[]⟩, .int .i64 0, .int .i64 0, .int .i64 0, .int .i64 0, .float .f64 0, .string ⟨#[]⟩, .int .i64 0, .slice none 0 0, .slice none 0 0])
   refine hK.out _ _ (HQ0a.out.d.rbx.cell 0) (fun hHeld => ?_)
   clear hK K
   try simp only [Act.put, zT, zZ, zS]
   refine zr1 1 (zo rfl) (fun K hK => ?_)
   go_simp
   refine (HQ0a.out.num  9 (by omega) H1.out).mono ?_
   rintro e r1 ⟨rfl, hh0, _⟩
   have HQ1 := zh hh0
   clear hh0
   refine hK.out _ _ (HQ1.out.d.rbx.cell 0) (fun hHeld => ?_)
   clear hK K
   try simp only [Act.put, zT, zZ, zS]
   refine zr1 3 (zo rfl) (fun K hK => ?_)
   go_simp
   refine (HQ1.out.text  H2.out).mono ?_
   rintro e r2 ⟨rfl, hh1, _⟩
   have HQ2 := zh hh1
   clear hh1
   refine hK.out _ _ (HQ2.out.d.rbx.cell 0) (fun hHeld => ?_)
   clear hK K
   try simp only [Act.put, zT, zZ, zS]
   refine zr1 5 (zo rfl) (fun K hK => ?_)
   go_simp
   refine (HQ2.out.one  H3.out).mono ?_
   rintro e r3 ⟨rfl, hh2, _⟩
   have HQ3 := zh hh2
   clear hh2
   refine hK.out _ _ (HQ3.out.d.rbx.cell 0) (fun hHeld => ?_)
   clear hK K
   try simp only [Act.put, zT, zZ, zS]
   refine zr1 7 (zo rfl) (fun K hK => ?_)
   go_simp
   refine (HQ3.out.one  H4.out).mono ?_
   rintro e r4 ⟨rfl, hh3, _⟩
   have HQ4 := zh hh3
   clear hh3
   refine hK.out _ _ (HQ4.out.d.rbx.cell 0) (fun hHeld => ?_)
   clear hK K
   try simp only [Act.put, zT, zZ, zS]
   refine zr1 9 (zo rfl) (fun K hK => ?_)
   go_simp
   refine (HQ4.out.one  H5.out).mono ?_
   rintro e r5 ⟨rfl, hh4, _⟩
   have HQ5 := zh hh4
   clear hh4
   refine hK.out _ _ (HQ5.out.d.rbx.cell 0) (fun hHeld => ?_)
   clear hK K
   try simp only [Act.put, zT, zZ, zS]
   refine zr1 11 (zo rfl) (fun K hK => ?_)
   go_simp
   refine (HQ5.out.num  1099511627776 (by omega) H6.out).mono ?_
   rintro e r6 ⟨rfl, hh5, _⟩
   have HQ6 := zh hh5
   clear hh5
   refine hK.out _ _ (HQ6.out.d.rbx.cell 0) (fun hHeld => ?_)
   clear hK K
   try simp only [Act.put, zT, zZ, zS]
   (refine ztn (v := ?_) (zo rfl) ?_; try simp only [Act.put, zT, zZ, zS])
   refine zr1 14 (zo rfl) (fun K hK => ?_)
   rw [zl (by rfl)]
   obtain ⟨zs, hzs⟩ : ∃ zs : List Value, zs = [.int .i64 (x1 : Int), .string (str x2), .int .i64 (x3 : Int), .int .i64 (x4 : Int), .int .i64 (x5 : Int), .int .i64 (x6 : Int), .float .f64 0, .string ⟨#[]⟩, .int .i64 0, .slice none 0 0, .slice none 0 0] := ⟨_, rfl⟩
   have HZS := zh hzs
   have HTH : Hid ((r6).there ((W3.drew).heap.size) 0 zs.toArray.size) := zh (by rw [hzs]; exact HQ6.out.box.there rfl)
   have HZJ : Hid ((Tryz.prog.info? 95).map (·.size) = some zs.toArray.size) := zh (by rw [hzs]; kernel_rfl)
   have HZO : Hid (zs.toArray.all (·.oneCell') = true) := zh (by rw [hzs]; kernel_rfl)
   have HAL := zh (HQ6.out.all zs (by rw [hzs]; rfl))
   clear hzs
   refine wp_store_mid 95 (.tmp 6) (.tmp 23) rfl ((W3.drew).heap.size) 0 zs.toArray (by simp [Act.eval, Act.put]) (by rw [HZS.out]; simp [Act.eval, Act.put]) HTH.out HZJ.out HZO.out ?_
   refine hK.out _ _ (HAL.out.d.rbx.cell 0) (fun hHeld => ?_)
   clear hK K
   try simp only [Act.put, zT, zZ, zS]
   refine wpAnyH_done (by kernel_rfl) ?_ _
   exact ⟨rfl, _, rfl, by have h := HAL.out; rw [HZS.out] at h ⊢; exact h⟩
 rintro e a W ⟨rfl, q, rfl, hd⟩
 have HDW := zh hd
 clear hd HP
 have yr : W.cell? ⟨rb, 0, none⟩ = some (.pointer (some ⟨g, 0, none⟩)) := HDW.out.d.rbx.cell 0
 obtain ⟨fx, hfx⟩ : ∃ z, z = FareM.of x7 := ⟨_, rfl⟩
 have HFL := zh (HDW.out.float H7.out)
 rw [← hfx] at HFL
 have HFX := zh hfx
 clear hfx
 go_wp2_with fail
 refine (HFL.out).mono ?_
 rintro e r7 ⟨rfl, hr7, _⟩
 have y7 : r7.cell? ⟨q, 6, none⟩ = some (.float .f64 0) := hr7.box.cell 6
 have z7 : r7.frozen? ⟨q, 6, none⟩ = false := hr7.box.frozen 6
 obtain ⟨V7, hV7⟩ : ∃ V, r7.setCell ⟨q, 6, none⟩ (.float .f64 fx) = V := ⟨_, rfl⟩
 have HV7 : Hid (P1 w g rb q s7 [.int .i64 (x1 : Int), .string (str x2), .int .i64 (x3 : Int), .int .i64 (x4 : Int), .int .i64 (x5 : Int), .int .i64 (x6 : Int), .float .f64 fx, .string ⟨#[]⟩, .int .i64 0, .slice none 0 0, .slice none 0 0] V7) := zh (by rw [← hV7]; exact hr7.set 6 _)
 clear hr7 HDW yr
 go_upto_region 5 with fail
 try rw [hV7]
 clear hV7 y7 z7
 have yr : V7.cell? ⟨rb, 0, none⟩ = some (.pointer (some ⟨g, 0, none⟩)) := HV7.out.d.rbx.cell 0
 go_wp2_with fail
 refine (HV7.out.text H8.out).mono ?_
 rintro e r8 ⟨rfl, hr8, _⟩
 have y8 : r8.cell? ⟨q, 7, none⟩ = some (.string ⟨#[]⟩) := hr8.box.cell 7
 have z8 : r8.frozen? ⟨q, 7, none⟩ = false := hr8.box.frozen 7
 obtain ⟨V8, hV8⟩ : ∃ V, r8.setCell ⟨q, 7, none⟩ (.string (str x8)) = V := ⟨_, rfl⟩
 have HV8 : Hid (P1 w g rb q s8 [.int .i64 (x1 : Int), .string (str x2), .int .i64 (x3 : Int), .int .i64 (x4 : Int), .int .i64 (x5 : Int), .int .i64 (x6 : Int), .float .f64 fx, .string (str x8), .int .i64 0, .slice none 0 0, .slice none 0 0] V8) := zh (by rw [← hV8]; exact hr8.set 7 _)
 clear hr8 HV7 yr
 go_upto_region 6 with fail
 try rw [hV8]
 clear hV8 y8 z8
 have yr : V8.cell? ⟨rb, 0, none⟩ = some (.pointer (some ⟨g, 0, none⟩)) := HV8.out.d.rbx.cell 0
 go_wp2_with fail
 refine (HV8.out.one H9.out).mono ?_
 rintro e r9 ⟨rfl, hr9, _⟩
 have y9 : r9.cell? ⟨q, 8, none⟩ = some (.int .i64 0) := hr9.box.cell 8
 have z9 : r9.frozen? ⟨q, 8, none⟩ = false := hr9.box.frozen 8
 obtain ⟨V9, hV9⟩ : ∃ V, r9.setCell ⟨q, 8, none⟩ (.int .i64 (x9 : Int)) = V := ⟨_, rfl⟩
 have HV9 : Hid (P1 w g rb q s9 [.int .i64 (x1 : Int), .string (str x2), .int .i64 (x3 : Int), .int .i64 (x4 : Int), .int .i64 (x5 : Int), .int .i64 (x6 : Int), .float .f64 fx, .string (str x8), .int .i64 (x9 : Int), .slice none 0 0, .slice none 0 0] V9) := zh (by rw [← hV9]; exact hr9.set 8 _)
 clear hr9 HV8 yr
 go_upto_region 7 with fail
 try rw [hV9]
 clear hV9 y9 z9
 have yr : V9.cell? ⟨rb, 0, none⟩ = some (.pointer (some ⟨g, 0, none⟩)) := HV9.out.d.rbx.cell 0
 go_wp2_with fail
 refine (HV9.out.num 16 (by omega) H10.out).mono ?_
 rintro e ra ⟨rfl, ha, _⟩
 have HRa := zh ha
 clear ha HV9 yr
 go_wp2_with fail
 refine (HRa.out.ints x10 hx10 H11.out).mono ?_
 rintro e rc ⟨v11, rfl, hs11, hc11, _⟩
 obtain ⟨A6, c6, rfl, _⟩ := hs11.shape
 have y9 : rc.cell? ⟨q, 9, none⟩ = some (.slice none 0 0) := hc11.box.cell 9
 have z9 : rc.frozen? ⟨q, 9, none⟩ = false := hc11.box.frozen 9
 obtain ⟨V11, hV11⟩ : ∃ V, rc.setCell ⟨q, 9, none⟩ (.slice A6 x10 c6) = V := ⟨_, rfl⟩
 have HV11 : Hid (P1 w g rb q s11 [.int .i64 (x1 : Int), .string (str x2), .int .i64 (x3 : Int), .int .i64 (x4 : Int), .int .i64 (x5 : Int), .int .i64 (x6 : Int), .float .f64 fx, .string (str x8), .int .i64 (x9 : Int), .slice A6 x10 c6, .slice none 0 0] V11) := zh (by rw [← hV11]; exact hc11.set 9 _)
 have HGS : Hid (Sl V11 (q + 1) 3 1 (.slice A6 x10 c6) x10 (ivs gs)) := zh (by rw [← hV11]; exact hs11.frm ((za (fun k => k = q) rc).setCell (p := ⟨q, 9, none⟩) (fun _ => rfl) _) (fun k' hk' e => by have h1 := (hs11.lt _ hk').1; omega))
 clear hs11 hc11 HRa
 go_upto_region 8 with fail
 try rw [hV11]
 clear hV11 y9 z9
 have HVd := zh (HV11.out.fresh (za _ V11).drew)
 have HGd := zh HGS.out.drew
 have HN12 := zh (HVd.out.num 16 (by omega) H12.out)
 refine zj (S := (fun w' => w'.cell? ⟨rb, 0, none⟩ = some (.pointer (some ⟨g, 0, none⟩)))) (by kernel_rfl) (HVd.out.d.rbx.cell 0) (fun hHeld => ?_)
 (refine ztz (v := ?_) (zo rfl) ?_; try simp only [Act.put, zT, zZ, zS])
 (refine zt 2 (v := ?_) (zo rfl) ?_; try simp only [Act.put, zT, zZ, zS])
 iterate 1 (refine ztn (v := ?_) (zo rfl) ?_; try simp only [Act.put, zT, zZ, zS])
 refine zr1 1 (zo rfl) (fun K hK => ?_)
 go_simp
 refine (HN12.out).mono ?_
 rintro e r12 ⟨rfl, hd12, f12⟩
 have HD12 := zh hd12
 have HG12 := zh (HGd.out.frm f12 (fun k' hk' e => by have h1 := (HGd.out.lt _ hk').1; have h2 := hd12.gq; have h3 := hd12.d.grb; omega))
 clear hd12 f12
 refine hK.out _ _ (HD12.out.d.rbx.cell 0) (fun hHeld => ?_)
 clear hK K
 try simp only [Act.put, zT, zZ, zS]
 refine zr1 4 (zo rfl) (fun K hK => ?_)
 go_simp
 refine (HD12.out.floats x12 hx12 H13.out).mono ?_
 rintro e r13 ⟨v13, rfl, hs13, hd13, f13⟩
 obtain ⟨A7, c7, rfl, hp1, hp2, _⟩ := hs13.shape
 have HD13 := zh hd13
 have HS13 := zh hs13
 have HG13 := zh (HG12.out.frm f13 (fun k' hk' e => by have h1 := (HG12.out.lt _ hk').1; have h2 := hd13.gq; have h3 := hd13.d.grb; omega))
 have y10 : r13.cell? ⟨q, 10, none⟩ = some (.slice none 0 0) := hd13.box.cell 10
 have z10 : r13.frozen? ⟨q, 10, none⟩ = false := hd13.box.frozen 10
 obtain ⟨V13, hV13⟩ : ∃ V, r13.setCell ⟨q, 10, none⟩ (.slice A7 x12 c7) = V := ⟨_, rfl⟩
 have HV13 : Hid (P1 w g rb q s13 [.int .i64 (x1 : Int), .string (str x2), .int .i64 (x3 : Int), .int .i64 (x4 : Int), .int .i64 (x5 : Int), .int .i64 (x6 : Int), .float .f64 fx, .string (str x8), .int .i64 (x9 : Int), .slice A6 x10 c6, .slice A7 x12 c7] V13) := zh (by rw [← hV13]; exact hd13.set 10 _)
 have HSF : Hid (Frm (fun k => k = q) r13 V13) := zh (by rw [← hV13]; exact (za (fun k => k = q) r13).setCell (p := ⟨q, 10, none⟩) (fun _ => rfl) _)
 have HP12 := zh (And.intro hp1 hp2)
 clear hs13 hd13 f13 hp1 hp2
 refine hK.out _ _ (HD13.out.d.rbx.cell 0) (fun hHeld => ?_)
 clear hK K
 try simp only [Act.put, zT, zZ, zS]
 (refine ztn (v := ?_) (zo rfl) ?_; try simp only [Act.put, zT, zZ, zS])
 refine zr1 6 (zo rfl) (fun K hK => ?_)
 go_simp
 try rw [hV13]
 refine hK.out _ _ (HV13.out.d.rbx.cell 0) (fun hHeld => ?_)
 clear hK K
 try simp only [Act.put, zT, zZ, zS]
 refine wpAnyH_done (by kernel_rfl) ?_ _
 try rw [hV13]
 clear hV13 y10 z10 HD13
 have HGZ := zh (HG13.out.frm HSF.out (fun k' hk' e => by have h1 := (HG13.out.lt _ hk').1; omega))
 have HPZ := zh (HS13.out.frm HSF.out (fun k' hk' e => by have h1 := (HS13.out.lt _ hk').1; omega))
 obtain ⟨cz, hcz⟩ : ∃ cz : List Value, cz = [.int .i64 (x1 : Int), .string (str x2), .int .i64 (x3 : Int), .int .i64 (x4 : Int), .int .i64 (x5 : Int), .int .i64 (x6 : Int), .float .f64 fx, .string (str x8), .int .i64 (x9 : Int), .slice A6 x10 c6, .slice A7 x12 c7] := ⟨_, rfl⟩
 have HCE : Hid (cz = ccel ⟨(x1 : Int), x2, (x3 : Int), (x4 : Int), (x5 : Int), (x6 : Int), FareM.of x7, x8, (x9 : Int), gs, ps⟩ A6 c6 A7 c7) := zh (by rw [hcz, HFX.out]; unfold ccel; dsimp only; rw [← HGL.out, ← HPL.out])
 have HDC : Hid (P1 w g rb q s13 cz V13) := zh (by rw [hcz]; exact HV13.out)
 have HCI : Hid ((Tryz.prog.info? 95).map (·.size) = some cz.length) := zh (by rw [hcz]; kernel_rfl)
 have HCJ : Hid ((Tryz.prog.info? 95).map (·.size) = some cz.toArray.size) := zh (by rw [hcz]; kernel_rfl)
 have HON : Hid (cz.toArray.all (·.oneCell') = true) := zh (by rw [hcz]; kernel_rfl)
 have HSI : Hid (cz.toArray.size = cz0.toArray.size) := zh (by rw [hcz]; rfl)
 have hqw : w.heap.size < q := by have := HDC.out.gq; have := HDC.out.d.low; have := HDC.out.d.grb; omega
 have HWH := zh (pWhole V13 g s13 HDC.out.d.rdr)
 have yr : V13.cell? ⟨rb, 0, none⟩ = some (.pointer (some ⟨g, 0, none⟩)) := HDC.out.d.rbx.cell 0
 have HRI : Hid (Calls Tryz.prog 63 #[.agg cz.toArray] V13 fun e w'' => e = .returned (.bool (decide (1 ≤ (x1 : Int)))) ∧ Fresh V13 w'') := zh (by
  rw [HCE.out]
  exact pCmdRight_any V13 _ HBS.out A6 c6 A7 c7 ⟨HGZ.out.rd, HPZ.out.rd, by have := HP12.out.1; have := HPL.out; show ps.length ≤ c7; omega, HP12.out.2⟩)
 have HCR : Hid (V13.rangeAt q 0 cz) := zh HDC.out.box.range
 obtain ⟨wh, hwh⟩ : ∃ b, b = wholeS s13 := ⟨_, rfl⟩
 rw [← hwh] at HWH
 have HWW := zh hwh
 obtain ⟨kb, hkb⟩ : ∃ b, b = decide (1 ≤ (x1 : Int)) := ⟨_, rfl⟩
 have HKB := zh hkb
 rw [← hkb] at HRI
 have HDEC : Hid (decA bs = if (wh && kb) = true then (⟨(x1 : Int), x2, (x3 : Int), (x4 : Int), (x5 : Int), (x6 : Int), FareM.of x7, x8, (x9 : Int), gs, ps⟩, 0) else (cm0, 6)) := zh (by unfold decA; rw [HDS.out]; dsimp only; rw [HWW.out, HKB.out])
 clear hwh hkb hcz HV13
 go_wp2_with fail
 refine HWH.out.mono ?_
 rintro e w8 ⟨rfl, rfl⟩
 cases wh with
 | false =>
  rw [Bool.false_and] at HDEC
  rw [zk (by decide)] at HDEC
  obtain ⟨zs, hzs⟩ : ∃ zs : List Value, zs = cz0 := ⟨_, rfl⟩
  have HZS := zh hzs
  have HZJ : Hid ((Tryz.prog.info? 95).map (·.size) = some zs.toArray.size) := zh (by rw [hzs]; kernel_rfl)
  have HZI : Hid ((Tryz.prog.info? 95).map (·.size) = some zs.length) := zh (by rw [hzs]; kernel_rfl)
  have HZO : Hid (zs.toArray.all (·.oneCell') = true) := zh (by rw [hzs]; kernel_rfl)
  have HTH : Hid (V13.there w.heap.size 0 zs.toArray.size) := zh (by rw [hzs]; exact HDC.out.d.res.there rfl)
  clear hzs
  go_wp2_with (refine zd rfl 95 (.tmp 2) (.tmp 55) rfl w.heap.size 0 zs.toArray rfl (by rw [HZS.out]; rfl) HTH.out HZJ.out HZO.out ?_)
  have hra : (V13.setCells w.heap.size 0 zs).rangeAt w.heap.size 0 zs := World.rangeAt_setCells_same V13 w.heap.size 0 zs (by have := HTH.out; simpa using this)
  have hld := run_loadVar_mid (P := Tryz.prog) (V13.setCells w.heap.size 0 zs) w.heap.size 0 95 zs _ hra Tryz.underlying95 rfl HZI.out
  have hfc := jE w.heap.size zs 0 V13
  have HFZ : Fresh w (V13.setCells w.heap.size 0 zs) := HDC.out.d.frm.trans' hfc (fun k hk e => by omega)
  refine zi (v := .tuple #[.agg zs.toArray, .int .i64 6]) ?_ rfl ⟨cm0, 6, none, 0, none, 0, HDEC.out, by rw [HZS.out]; rfl, ⟨Rd.nil _ _ _, Rd.nil _ _ _, zf _, zF _⟩, HFZ⟩
  rw [results_cell_tmp Tryz.results38]
  show (((asAddr (.pointer (some ⟨w.heap.size, 0, none⟩))).run Tryz.prog (V13.setCells w.heap.size 0 zs)).andThen fun a w₁ => ((loadVar 95 a).run Tryz.prog w₁).andThen fun v w₂ => Result.ok (Value.tuple #[v, Value.int .i64 6]) w₂) = _
  simp only [asAddr, Sem.run_pure, Result.andThen_ok, hld]
 | true =>
  go_wp2_with (with_reducible refine wpList_load_want (by kernel_rfl) 95 (.tmp 6) rfl q 0 rfl cz _ HCR.out Tryz.underlying95 rfl HCI.out ?_)
  refine HRI.out.mono ?_
  rintro e w9 ⟨rfl, f9⟩
  have HD9 := zh (HDC.out.fresh f9)
  have HG9 := zh (HGZ.out.fresh f9)
  have HS9 := zh (HPZ.out.fresh f9)
  have HCR9 : Hid (w9.rangeAt q 0 cz) := zh HD9.out.box.range
  clear f9 HCR yr
  cases kb with
  | false =>
   rw [zk (by decide)] at HDEC
   obtain ⟨zs, hzs⟩ : ∃ zs : List Value, zs = cz0 := ⟨_, rfl⟩
   have HZS := zh hzs
   have HZJ : Hid ((Tryz.prog.info? 95).map (·.size) = some zs.toArray.size) := zh (by rw [hzs]; kernel_rfl)
   have HZI : Hid ((Tryz.prog.info? 95).map (·.size) = some zs.length) := zh (by rw [hzs]; kernel_rfl)
   have HZO : Hid (zs.toArray.all (·.oneCell') = true) := zh (by rw [hzs]; kernel_rfl)
   have HTH : Hid (w9.there w.heap.size 0 zs.toArray.size) := zh (by rw [hzs]; exact HD9.out.d.res.there rfl)
   clear hzs
   go_wp2_with (refine zd rfl 95 (.tmp 2) (.tmp 55) rfl w.heap.size 0 zs.toArray rfl (by rw [HZS.out]; rfl) HTH.out HZJ.out HZO.out ?_)
   have hra : (w9.setCells w.heap.size 0 zs).rangeAt w.heap.size 0 zs := World.rangeAt_setCells_same w9 w.heap.size 0 zs (by have := HTH.out; simpa using this)
   have hld := run_loadVar_mid (P := Tryz.prog) (w9.setCells w.heap.size 0 zs) w.heap.size 0 95 zs _ hra Tryz.underlying95 rfl HZI.out
   have hfc := jE w.heap.size zs 0 w9
   have HFZ : Fresh w (w9.setCells w.heap.size 0 zs) := HD9.out.d.frm.trans' hfc (fun k hk e => by omega)
   refine zi (v := .tuple #[.agg zs.toArray, .int .i64 6]) ?_ rfl ⟨cm0, 6, none, 0, none, 0, HDEC.out, by rw [HZS.out]; rfl, ⟨Rd.nil _ _ _, Rd.nil _ _ _, zf _, zF _⟩, HFZ⟩
   rw [results_cell_tmp Tryz.results38]
   show (((asAddr (.pointer (some ⟨w.heap.size, 0, none⟩))).run Tryz.prog (w9.setCells w.heap.size 0 zs)).andThen fun a w₁ => ((loadVar 95 a).run Tryz.prog w₁).andThen fun v w₂ => Result.ok (Value.tuple #[v, Value.int .i64 6]) w₂) = _
   simp only [asAddr, Sem.run_pure, Result.andThen_ok, hld]
  | true =>
   rw [zl (by decide)] at HDEC
   have HTH : Hid (w9.there w.heap.size 0 cz.toArray.size) := zh (HD9.out.d.res.there HSI.out)
   go_wp2_with (first | (with_reducible refine zM rfl 95 (.tmp 6) rfl q 0 rfl cz _ HCR9.out Tryz.underlying95 rfl HCI.out ?_) | (with_reducible refine zd rfl 95 (.tmp 2) (.tmp 56) rfl w.heap.size 0 cz.toArray rfl rfl HTH.out HCJ.out HON.out ?_))
   have hra : (w9.setCells w.heap.size 0 cz).rangeAt w.heap.size 0 cz := World.rangeAt_setCells_same w9 w.heap.size 0 cz (by have := HTH.out; simpa using this)
   have hld := run_loadVar_mid (P := Tryz.prog) (w9.setCells w.heap.size 0 cz) w.heap.size 0 95 cz _ hra Tryz.underlying95 rfl HCI.out
   have hfc := jE w.heap.size cz 0 w9
   have HFZ : Fresh w (w9.setCells w.heap.size 0 cz) := HD9.out.d.frm.trans' hfc (fun k hk e => by omega)
   have hg2 := HG9.out.frm hfc (fun k' hk' e => by have h1 := (HG9.out.lt _ hk').1; omega)
   have hs2 := HS9.out.frm hfc (fun k' hk' e => by have h1 := (HS9.out.lt _ hk').1; omega)
   refine zi (v := .tuple #[.agg cz.toArray, .int .i64 0]) ?_ rfl ⟨_, 0, A6, c6, A7, c7, HDEC.out, by rw [← HCE.out], ⟨hg2.rd, hs2.rd, by have := HP12.out.1; have := HPL.out; show ps.length ≤ c7; omega, HP12.out.2⟩, HFZ⟩
   rw [results_cell_tmp Tryz.results38]
   show (((asAddr (.pointer (some ⟨w.heap.size, 0, none⟩))).run Tryz.prog (w9.setCells w.heap.size 0 cz)).andThen fun a w₁ => ((loadVar 95 a).run Tryz.prog w₁).andThen fun v w₂ => Result.ok (Value.tuple #[v, Value.int .i64 0]) w₂) = _
   simp only [asAddr, Sem.run_pure, Result.andThen_ok, hld]
end
section
open Go.RowKit
section
open Go.ChangeMaps Go.MapKept
variable {H : Type} {P : Program} {k : TypeId} {R : Value → Option (DataW H × List MemPlace)} {w : World} {b n : Nat} {D : DataW H}
theorem OM.clear {t e : TypeId} (h : w.ownsMap P k R b n D) (ht : P.underlying t = some (.map k e)) (ty : TypeId) :
 ∃ w', (Builtin.clear_ #[t] ty #[.map (some b)]).run P w = .ok (.tuple #[]) w' ∧ w'.ownsMap P k R b 0 (.map []) ∧ w.mapTurned w' b := by
 obtain ⟨es, clock, hb, F, hs, hD⟩ := h
 refine ⟨setBlock w b (.map #[] clock), ?_, ⟨#[], clock, heap_setBlock_same hb _, ⟨by simp, stamped_empty clock, by simp⟩, zf _, rfl⟩, ⟨es, clock, #[], clock, hb, rfl⟩⟩
 simp [Builtin.clear_, run_underlying ht, MapKept.run_getObj_map hb, MapKept.run_setObj_map _ hb, Result.andThen, setBlock]
end
structure BsM where
 A : Option Addr
 c : Nat
 b : List UInt8
def BsM.v (m : BsM) : Value := .slice m.A m.b.length m.c
def bsE (w : World) (m : BsM) : Prop := Sl w 0 5 1 m.v m.b.length (m.b.map bv)
theorem bsE.frm {w w' : World} {m : BsM} {S : Nat → Prop} (h : bsE w m) (F : Frm S w w') (hS : ∀ k cs, Blk w k 5 cs → ¬ S k) : bsE w' m := Sl.frm h F (fun k hk => by
 obtain ⟨cs, hb, _⟩ := Sl.has h hk
 exact hS k cs hb)
theorem bsE.fresh {w w' : World} {m : BsM} (h : bsE w m) (F : Fresh w w') : bsE w' m := Sl.fresh h F
structure CSt where
 a : Nat
 wt : Nat
 num : Nat
 seq : Nat
 gv : Nat
 over : Bool
 why : Int
structure CL where
 b : Nat
 mb : Nat
 A : Option Addr
 nc : Nat
 KA : Option Addr
 kc : Nat
 RA : Option Addr
 rc : Nat
def ccl (L : CL) (n kn rn : Nat) (x : CSt) : List Value :=
 [.int .i64 3, .slice L.A n L.nc, .slice L.KA kn L.kc, .int .i64 (x.a : Int), .int .i64 (x.wt : Int), .int .i64 (x.num : Int), .int .i64 (x.seq : Int), .int .i64 (x.gv : Int), .map (some L.mb), .slice L.RA rn L.rc, .bool x.over, .int .i64 x.why]
structure Cc (w : World) (B : Nat) (L : CL) (l : List Int) (ks rs : List BsM) (x : CSt) (op : List Int) : Prop where
 blk : Blk w L.b 57 (ccl L l.length ks.length rs.length x).toArray
 om : ∃ n, ∃ D : DU, w.ownsMap Tryz.prog 3 (plainElem Tryz.prog 4) L.mb n D ∧ n ≤ x.gv ∧ ∀ z : Int, D.atKey (.int .i64 z) (.lit (.bool false)) = .lit (.bool (op.contains z))
 sl : Sl w B 3 1 (.slice L.A l.length L.nc) l.length (l.map civ)
 ksl : Sl w B 39 1 (.slice L.KA ks.length L.kc) ks.length (ks.map BsM.v)
 kel : ∀ m ∈ ks, bsE w m
 rsl : Sl w B 39 1 (.slice L.RA rs.length L.rc) rs.length (rs.map BsM.v)
 rel : ∀ m ∈ rs, bsE w m
 ap : ∀ k, (Value.slice L.RA rs.length L.rc).ownBlock = some k → (Value.slice L.KA ks.length L.kc).ownBlock ≠ some k
 bge : B ≤ L.b
 mge : B ≤ L.mb
 pos : x.a < l.length
section
variable {w w' : World} {B : Nat} {L : CL} {l : List Int} {ks rs : List BsM} {x : CSt} {op : List Int}
theorem Cc.ne (h : Cc w B L l ks rs x op) : L.mb ≠ L.b := by
 obtain ⟨n, D, ho, _⟩ := h.om
 exact OM.not_cells ho h.blk
def cliT (t : TypeId) : Bool := t == 57 || t == 3 || t == 39 || t == 5
theorem Cc.other (h : Cc w B L l ks rs x op) {S : Nat → Prop} (F : Frm S w w') (hm : ¬ S L.mb) (hb : ¬ S L.b) (h1 : ∀ k, (Value.slice L.A l.length L.nc).ownBlock = some k → ¬ S k) (h2 : ∀ k, (Value.slice L.KA ks.length L.kc).ownBlock = some k → ¬ S k) (h3 : ∀ k, (Value.slice L.RA rs.length L.rc).ownBlock = some k → ¬ S k) (h4 : ∀ k cs, Blk w k 5 cs → ¬ S k) : Cc w' B L l ks rs x op := by
 obtain ⟨n, D, ho, hn, hD⟩ := h.om
 exact ⟨h.blk.frm F hb, ⟨n, D, OM.frm ho F hm, hn, hD⟩, h.sl.frm F h1, h.ksl.frm F h2, fun m hm => (h.kel m hm).frm F h4, h.rsl.frm F h3, fun m hm => (h.rel m hm).frm F h4, h.ap, h.bge, h.mge, h.pos⟩
theorem Cc.fresh (h : Cc w B L l ks rs x op) (F : Fresh w w') : Cc w' B L l ks rs x op := h.other F (fun f => f) (fun f => f) (fun _ _ f => f) (fun _ _ f => f) (fun _ _ f => f) (fun _ _ _ f => f)
theorem Cc.own_m (h : Cc w B L l ks rs x op) {B' e size n : Nat} {v : Value} {xs : List Value} (hs : Sl w B' e size v n xs) : v.ownBlock ≠ some L.mb := by
 obtain ⟨n, D, ho, _⟩ := h.om
 exact OM.not_sl ho hs
theorem Cc.far (h : Cc w B L l ks rs x op) {S : Nat → Prop} (F : Frm S w w') (hS : ∀ k, S k → k < w.heap.size → ∃ t cs, Blk w k t cs ∧ cliT t = false) : Cc w' B L l ks rs x op := by
 have hno : ∀ {k : Nat} {t : TypeId} {cs : Array Value}, Blk w k t cs → cliT t = true → ¬ S k := fun hb ht s => by
  obtain ⟨t', cs', h1, h2⟩ := hS _ s hb.lt
  exact hb.apart h1 (fun e => by subst e; rw [ht] at h2; cases h2) rfl
 have hsl : ∀ {B' e size n : Nat} {v : Value} {xs : List Value}, Sl w B' e size v n xs → cliT e = true → ∀ k, v.ownBlock = some k → ¬ S k := fun hs ht k hk => by
  obtain ⟨cs, hb, _⟩ := hs.has hk
  exact hno hb ht
 refine h.other F (fun s => ?_) (hno h.blk (by decide)) (hsl h.sl (by decide)) (hsl h.ksl (by decide)) (hsl h.rsl (by decide)) (fun k cs hb => hno hb (by decide))
 obtain ⟨n, D, ho, _⟩ := h.om
 obtain ⟨t', cs', h1, h2⟩ := hS _ s ho.lt
 exact OM.not_cells ho h1 rfl
theorem Cc.set (h : Cc w B L l ks rs x op) {i : Nat} {u : Value} {x' : CSt} (hc : (ccl L l.length ks.length rs.length x).set i u = ccl L l.length ks.length rs.length x') (hp : x'.a < l.length) (hg : x.gv ≤ x'.gv) :
 Cc (w.setCell ⟨L.b, i, none⟩ u) B L l ks rs x' op := by
 have F : Frm (fun k => k = L.b) w (w.setCell ⟨L.b, i, none⟩ u) := Frm.setCell (za (fun k => k = L.b) w) (p := ⟨L.b, i, none⟩) (fun _ => rfl) u
 obtain ⟨n, D, ho, hn, hD⟩ := h.om
 have hb := h.blk.set i u
 rw [List.setIfInBounds_toArray, hc] at hb
 exact ⟨hb, ⟨n, D, OM.frm ho F h.ne, by omega, hD⟩, h.sl.frm F (fun k hk e => by subst e; exact h.sl.apart h.blk (by decide) hk), h.ksl.frm F (fun k hk e => by subst e; exact h.ksl.apart h.blk (by decide) hk),
  fun m hm => (h.kel m hm).frm F (fun k cs hb e => by subst e; exact hb.apart h.blk (by decide) rfl), h.rsl.frm F (fun k hk e => by subst e; exact h.rsl.apart h.blk (by decide) hk),
  fun m hm => (h.rel m hm).frm F (fun k cs hb e => by subst e; exact hb.apart h.blk (by decide) rfl), h.ap, h.bge, h.mge, hp⟩
def CS (L : CL) (rn : Nat) (k : Nat) : Prop := k = L.b ∨ k = L.mb ∨ (Value.slice L.RA rn L.rc).ownBlock = some k
theorem Cc.setF (u : Value) (i : Nat) (rn : Nat) : Frm (CS L rn) w (w.setCell ⟨L.b, i, none⟩ u) := Frm.setCell (za (CS L rn) w) (p := ⟨L.b, i, none⟩) (fun _ => .inl rfl) u
end
def CPost (w : World) (B : Nat) (L : CL) (l : List Int) (ks rs : List BsM) (x : CSt) (op : List Int) (v : Value) (e : Ending) (w' : World) : Prop := e = .returned v ∧ Cc w' B L l ks rs x op ∧ Frm (CS L rs.length) w w'
theorem ask_c (w : World) (B : Nat) (L : CL) (l : List Int) (ks rs : List BsM) (x : CSt) (op : List Int) (h : Cc w B L l ks rs x op) (k : Nat) (hk : k ≤ 1000) (hl : l.length ≤ 15) :
 Calls Tryz.prog 29 #[.pointer (some ⟨L.b, 0, none⟩), .int .i64 (k : Int)] w fun e w' => CPost w B L l ks rs { x with a := k % l.length, wt := 0 } op (.tuple #[]) e w' := by
 have hpos := h.pos
 have c1 : w.cell? ⟨L.b, 1, none⟩ = some (.slice L.A l.length L.nc) := h.blk.cell 1
 have c3 : w.cell? ⟨L.b, 3, none⟩ = some (.int .i64 (x.a : Int)) := h.blk.cell 3
 have c4 : w.cell? ⟨L.b, 4, none⟩ = some (.int .i64 (x.wt : Int)) := h.blk.cell 4
 have z := fun i => h.blk.frozen i
 have hmod := Nat.mod_lt k (show 0 < l.length by omega)
 obtain ⟨m, hm⟩ : ∃ m, k % l.length = m := ⟨_, rfl⟩
 rw [hm] at hmod ⊢
 have hmi : (k : Int) % (l.length : Int) = (m : Int) := by rw [← Int.natCast_emod, hm]
 have hk0 : (0 : Int) ≤ (k : Int) := by omega
 have hl0 : (0 : Int) < (l.length : Int) := by omega
 have hl1 : ((l.length : Int) == 0) = false := by rw [zC]; omega
 have hl2 : ¬ ((l.length : Int) = 0) := by omega
 have H1 := h.set (i := 3) (u := .int .i64 (m : Int)) (x' := { x with a := m }) rfl hmod (zf _)
 have H2 := zh (H1.set (i := 4) (u := .int .i64 0) (x' := { x with a := m, wt := 0 }) rfl hmod (zf _))
 have HF : Hid (Frm (CS L rs.length) w ((w.setCell ⟨L.b, 3, none⟩ (.int .i64 (m : Int))).setCell ⟨L.b, 4, none⟩ (.int .i64 0))) := zh ((Cc.setF _ _ _).trans (Cc.setF _ _ _))
 clear h H1 hm
 go_in
 go_wp2_with fail
 go_end0
 exact ⟨rfl, H2.out, HF.out⟩
def tickC (n : Nat) (x : CSt) : CSt := if x.over = true then x else if 3 ≤ x.wt + 1 then { x with a := (x.a + 1) % n, wt := 0 } else { x with wt := x.wt + 1 }
theorem tick_c (w : World) (B : Nat) (L : CL) (l : List Int) (ks rs : List BsM) (x : CSt) (op : List Int) (h : Cc w B L l ks rs x op) (hw : x.wt ≤ 10) (hl : l.length ≤ 15) :
 Calls Tryz.prog 11 #[.pointer (some ⟨L.b, 0, none⟩)] w fun e w' => CPost w B L l ks rs (tickC l.length x) op (.tuple #[]) e w' := by
 have hpos := h.pos
 have HH := zh h
 obtain ⟨a, wt, num, seq, gv, over, why⟩ := x
 dsimp only at hpos hw
 have c3 : w.cell? ⟨L.b, 3, none⟩ = some (.int .i64 (a : Int)) := h.blk.cell 3
 have c4 : w.cell? ⟨L.b, 4, none⟩ = some (.int .i64 (wt : Int)) := h.blk.cell 4
 have c10 : w.cell? ⟨L.b, 10, none⟩ = some (.bool over) := h.blk.cell 10
 have z := fun i => h.blk.frozen i
 cases over with
 | true =>
  have HT : Hid (tickC l.length ⟨a, wt, num, seq, gv, true, why⟩ = ⟨a, wt, num, seq, gv, true, why⟩) := zh rfl
  clear h
  go_in
  go_wp2_with fail
  go_end0
  exact ⟨rfl, by rw [HT.out]; exact HH.out, za _ _⟩
 | false =>
  have H1 := h.set (i := 4) (u := .int .i64 ((wt : Int) + 1)) (x' := ⟨a, wt + 1, num, seq, gv, false, why⟩) rfl hpos (zf _)
  have HX := zh H1
  have HF : Hid (Frm (CS L rs.length) w (w.setCell ⟨L.b, 4, none⟩ (.int .i64 ((wt : Int) + 1)))) := zh (Cc.setF _ _ _)
  have hw0 : (0 : Int) ≤ (wt : Int) := by omega
  have hw1 : (wt : Int) ≤ 10 := by omega
  have ha0 : (0 : Int) ≤ (a : Int) := by omega
  have ha1 : (a : Int) ≤ 15 := by omega
  have HA := zh (ask_c _ B L l ks rs _ op H1 (a + 1) (by omega) hl)
  clear h H1
  by_cases h3 : 3 ≤ wt + 1
  ·have HT : Hid (tickC l.length ⟨a, wt, num, seq, gv, false, why⟩ = ⟨(a + 1) % l.length, 0, num, seq, gv, false, why⟩) := zh (by unfold tickC; rw [zk (by simp), zl h3])
   have h3i : (3 : Int) ≤ (wt : Int) + 1 := by omega
   go_in
   go_wp2_with fail
   refine HA.out.mono ?_
   rintro e w' ⟨rfl, hc, hf⟩
   have HC2 := zh hc
   have HF2 := zh (HF.out.trans hf)
   clear hc hf
   go_wp2_with fail
   go_end0
   exact ⟨rfl, by rw [HT.out]; exact HC2.out, HF2.out⟩
  ·have HT : Hid (tickC l.length ⟨a, wt, num, seq, gv, false, why⟩ = ⟨a, wt + 1, num, seq, gv, false, why⟩) := zh (by unfold tickC; rw [zk (by simp), zk h3])
   have h3i : ¬ (3 : Int) ≤ (wt : Int) + 1 := by omega
   go_in
   go_wp2_with fail
   go_end0
   exact ⟨rfl, by rw [HT.out]; exact HX.out, HF.out⟩
theorem end_c (w : World) (B : Nat) (L : CL) (l : List Int) (ks rs : List BsM) (x : CSt) (op : List Int) (h : Cc w B L l ks rs x op) (y : Int) :
 Calls Tryz.prog 27 #[.pointer (some ⟨L.b, 0, none⟩), .int .i64 y] w fun e w' => CPost w B L l ks rs { x with over := true, why := y } op (.tuple #[]) e w' := by
 have hpos := h.pos
 have c10 : w.cell? ⟨L.b, 10, none⟩ = some (.bool x.over) := h.blk.cell 10
 have z := fun i => h.blk.frozen i
 have H1 := h.set (i := 10) (u := .bool true) (x' := { x with over := true }) rfl hpos (zf _)
 have c11 : (w.setCell ⟨L.b, 10, none⟩ (.bool true)).cell? ⟨L.b, 11, none⟩ = some (.int .i64 x.why) := H1.blk.cell 11
 have c11' : w.cell? ⟨L.b, 11, none⟩ = some (.int .i64 x.why) := h.blk.cell 11
 have z2 := fun i => H1.blk.frozen i
 have H2 := zh (H1.set (i := 11) (u := .int .i64 y) (x' := { x with over := true, why := y }) rfl hpos (zf _))
 have HF : Hid (Frm (CS L rs.length) w ((w.setCell ⟨L.b, 10, none⟩ (.bool true)).setCell ⟨L.b, 11, none⟩ (.int .i64 y))) := zh ((Cc.setF _ _ _).trans (Cc.setF _ _ _))
 clear h H1
 go_in
 go_wp2_with fail
 go_end0
 exact ⟨rfl, H2.out, HF.out⟩
theorem over_c (w : World) (B : Nat) (L : CL) (l : List Int) (ks rs : List BsM) (x : CSt) (op : List Int) (h : Cc w B L l ks rs x op) :
 Calls Tryz.prog 31 #[.pointer (some ⟨L.b, 0, none⟩)] w fun e w' => e = .returned (.tuple #[.bool x.over, .int .i64 x.why]) ∧ Fresh w w' := by
 have c10 : ∀ n, (w.drewN n).cell? ⟨L.b, 10, none⟩ = some (.bool x.over) := fun _ => h.blk.cell 10
 have c11 : ∀ n, (w.drewN n).cell? ⟨L.b, 11, none⟩ = some (.int .i64 x.why) := fun _ => h.blk.cell 11
 have HF : Hid (∀ n, Fresh w (w.drewN n)) := zh fun n => (za _ w).drewN n
 clear h
 go_in
 go_wp2_with fail
 go_quiet (fail)
 go_wp2_with fail
 go_ret2
 exact ⟨rfl, HF.out _⟩
end
end Go.Proofs.YtnmokpbomeamfaaGreat

/- Proved here, for the statement ClientOnceSaid: laws that its walk leans on. It holds with no condition. (Put together and shortened by a program out of many texts: On70, On71.) -/
import Derived.Test.YtnmokpbomeamfaaGreatZ26
set_option linter.unusedVariables false
set_option maxRecDepth 100000
set_option maxHeartbeats 64000000
namespace Go.Proofs.YtnmokpbomeamfaaGreat
section
open Go.RowKit
theorem reps_le {cmds : List (List UInt8)} {j : Nat} (hN : cmds.length ≤ 100) (hj : j ≤ cmds.length) {rs : List BsM} (h : rs.map lenB = reps cmds j) : ∀ m ∈ rs, m.b.length ≤ 100000 := by
 intro m hm
 have h1 : m.b ∈ reps cmds j := by rw [← h]; exact zQ.2 ⟨m, hm, rfl⟩
 unfold reps at h1
 obtain ⟨i, hi, he⟩ := zQ.1 h1
 have h2 := repK_le (cmds := cmds) (k := i) (by have := List.mem_range.1 hi; omega) hN
 rw [← he]
 omega
structure FrS (w wr : World) (B2 b2 Bt t2 : Nat) (ks2 : List BsM) (cmds : List (List UInt8)) (k : Nat) (L2 : CL) (rs2 : List BsM) (x2 : CSt) (st2 : Option (Int × List UInt8)) (bk2 : Book) (j2 : Nat) : Prop where
 lb : L2.b = b2
 cc : Cc wr B2 L2 [1] ks2 rs2 x2 []
 tab : TabS wr Bt t2 st2 bk2
 sys : Sys cmds j2 x2 [] st2 bk2 [] []
 rep : rs2.map lenB = reps cmds j2
 gv : x2.gv = k
 wt : x2.wt ≤ 10
 fr : Fresh w wr
 ph : (k = 0 ∧ x2.num = 0) ∨ (x2.num = 1 ∧ k = j2 + 1)
 bt : Bt ≤ wr.heap.size
theorem toldX_num (x : CSt) (kn rn : Nat) (kind : Int) (h : kind ≠ 1 → x.num = 1) : (toldX x kn rn kind).1.num = 1 := by
 unfold toldX
 dsimp only
 by_cases hk : kind = 1
 ·rw [zl hk, zl hk]
  split <;> rfl
 ·have h1 := h hk
  rw [zk hk, zk hk]
  split <;> split <;> exact h1
theorem once_any (w : World) (B : Nat) (L : CL) (l : List Int) (ks rs : List BsM) (cmds : List (List UInt8)) (j : Nat) (x : CSt) (op : List Int) (st : Option (Int × List UInt8)) (bk : Book) (sent : List (Int × List UInt8)) (ans : List An)
 (h : Cc w B L l ks rs x op) (hs : Sys cmds j x op st bk sent ans) (hrs : rs.map lenB = reps cmds j) (KA : Option Addr) (kc : Nat) (lst : List Bs) (hK : IsBss w w.heap.size KA kc lst) (hcm : lst.map bytesB = cmds) (h100 : lst.length ≤ 100) (hgood : lst.any longB = false) :
 Calls Tryz.prog 12 #[.pointer (some ⟨L.b, 0, none⟩), .slice KA lst.length kc] w fun e w' => e = .returned (.bool true) ∧ Fresh w w' := by
 have hNl : cmds.length = lst.length := by rw [← hcm, zB]
 have HN : Hid (cmds.length ≤ 100) := zh (by omega)
 have HNL := zh hNl
 have H4 : Hid (∀ c ∈ cmds, c.length ≤ 4000) := zh fun c hc => by
  rw [← hcm] at hc
  obtain ⟨b, hb, rfl⟩ := zQ.1 hc
  have h1 := List.any_eq_false.1 hgood b hb
  unfold longB at h1
  unfold bytesB
  simpa using h1
 obtain ⟨W, hW⟩ : ∃ W, w.alloc (.cells #[.int .i64 1] 3) = W := ⟨_, rfl⟩
 have HFW : Hid (Fresh w W) := zh (by rw [← hW]; exact jC _ _)
 have R1 : Rd W W.heap.size (some ⟨w.heap.size, 0, none⟩) (([1] : List Int).map civ) := by rw [← hW]; exact (jL w (([1] : List Int).map civ) 3).more (by simp)
 have HKW := hK.keep (zf _) HFW.out
 have HNW := newC_yes W (some ⟨w.heap.size, 0, none⟩) 1 [1] R1 (by simp) (by simp) (by decide) (by simp) (by simp [maxLen]) KA kc lst ⟨HKW.rd.more HFW.out.size, HKW.le, HKW.most, fun b hb => ⟨(HKW.all b hb).rd.more HFW.out.size, (HKW.all b hb).le, (HKW.all b hb).most, (HKW.all b hb).reach⟩⟩ h100 hgood
 rw [hcm] at HNW
 have HNEW := zh HNW
 have HC := zh h
 have HS := zh hs
 have HRS := zh hrs
 have hjl := hs.ci.jle
 clear h hs hrs hK R1 HKW HNW hgood hNl hcm
 go_in
 go_upto_region 1 with fail
 go_wp2_with fail
 try rw [hW]
 clear hW
 refine HNEW.out.mono ?_
 rintro e w2 ⟨L2, ks2, rfl, hcc2, hks2, f2⟩
 have HC2 := zh hcc2
 have HKS := zh hks2
 have HF2 := zh (HFW.out.trans f2)
 have HT := zh (new19_any w2)
 clear hcc2 hks2 f2
 go_wp2_with fail
 refine HT.out.mono ?_
 rintro e w3 ⟨t2, rfl, ht2, f3⟩
 have HFS : Hid (FrS w w3 W.heap.size L2.b w2.heap.size t2 ks2 cmds 0 L2 [] x0 none book0 0) := zh ⟨rfl, HC2.out.fresh f3, ht2, sys_start cmds, rfl, rfl, by decide, HF2.out.trans f3, .inl ⟨rfl, rfl⟩, f3.size⟩
 obtain ⟨b2, hb2⟩ : ∃ b, b = L2.b := ⟨_, rfl⟩
 rw [← hb2] at HFS ⊢
 clear ht2 f3 HC2 hb2
 go_wp2_with fail
 go_loopw [8] (fun v8 wr => ∃ (k : Nat) (L2 : CL) (rs2 : List BsM) (x2 : CSt) (st2 : Option (Int × List UInt8)) (bk2 : Book) (j2 : Nat), v8 = .int .i64 (k : Int) ∧ k ≤ 101 ∧ FrS w wr W.heap.size b2 w2.heap.size t2 ks2 cmds k L2 rs2 x2 st2 bk2 j2) (fun v8 _ => 300 - (intOf v8).toNat)
 case atStart => exact ⟨0, L2, [], x0, none, book0, 0, rfl, by omega, HFS.out⟩
 case round =>
  obtain ⟨k, L2, rs2, x2, st2, bk2, j2, rfl, hk, hfs⟩ := hrel
  have HFS := zh hfs
  have HLB := zh hfs.lb
  have hk0 : (0 : Int) ≤ (k : Int) := by omega
  have hk3 : (k : Int) < 300 := by omega
  have d1 : decide ((k : Int) < 300) = true := zc hk3
  clear hfs
  cases hov : x2.over with
  | true =>
   have HWO := zh (want_over wr W.heap.size L2 [1] ks2 rs2 x2 [] HFS.out.cc hov)
   rw [HLB.out] at HWO
   have HJN : Hid (j2 = cmds.length) := zh (HFS.out.sys.ci.over.1 hov).2
   have HWY := zh HFS.out.sys.ci.why
   have HOV := zh hov
   clear hov
   go_wp2_with fail
   refine HWO.out.mono ?_
   rintro e w4 ⟨rfl, hw4⟩
   replace hw4 := hw4.symm
   subst hw4
   have HRP := replies_c wr W.heap.size L2 [1] ks2 rs2 x2 [] HFS.out.cc (by rw [map_len HFS.out.rep]; have := HJN.out; have := HN.out; omega) (reps_le HN.out (by have := HJN.out; omega) HFS.out.rep)
   rw [HFS.out.rep, HJN.out, HLB.out] at HRP
   have HRP := zh HRP
   go_wp2_with fail
   refine HRP.out.mono ?_
   rintro e w5 ⟨v5, mw, rfl, hmw, hmb, f5⟩
   have HMW := zh hmw
   have HMB := zh hmb
   have HF5 := zh (HFS.out.fr.trans f5)
   obtain ⟨Aw, cw, rfl, hw1, _, hw2⟩ := hmw.sl.shape
   have hmwl : mw.length = cmds.length := map_len hmb
   have HCX := zh (HFS.out.cc.fresh f5)
   have HRP2 := replies_c w5 B L l ks rs x op (HC.out.fresh HF5.out) (by rw [map_len HRS.out]; have := HN.out; omega) (reps_le HN.out hjl HRS.out)
   rw [HRS.out] at HRP2
   have HRP2 := zh HRP2
   clear hmw hmb f5
   go_wp2_with fail
   refine HRP2.out.mono ?_
   rintro e w6 ⟨v6, mg, rfl, hmg, hmb2, f6⟩
   have HMG := zh hmg
   have HMB2 := zh hmb2
   have HF6 := zh (HF5.out.trans f6)
   have HMW6 := zh (HMW.out.fresh f6)
   obtain ⟨Ag, cg, rfl, _⟩ := hmg.sl.shape
   have hmgl : mg.length = j := map_len hmb2
   have HOC := over_c w6 W.heap.size L2 [1] ks2 rs2 x2 [] (HCX.out.fresh f6)
   rw [HOV.out, HWY.out, HLB.out] at HOC
   have HOC := zh HOC
   clear hmg hmb2 f6
   try rw [hmgl]
   try rw [hmwl]
   have HGL := zh hmgl
   have HWL := zh hmwl
   have HW1 := zh hw1
   have HW2 := zh hw2
   clear hmgl hmwl hw1 hw2
   have hjN : ¬ (cmds.length : Int) < (j : Int) := by omega
   have d2 : decide ((cmds.length : Int) < (j : Int)) = false := zb hjN
   have hj0 : (0 : Int) ≤ (j : Int) := by omega
   go_wp2_with fail
   refine HOC.out.mono ?_
   rintro e w7 ⟨rfl, f7⟩
   have HF7 := zh (HF6.out.trans f7)
   have HMW7 := zh (HMW6.out.fresh f7)
   have HMG7 := zh (HMG.out.fresh f7)
   have HSA : Hid (∀ c', Calls Tryz.prog 32 #[.slice Ag j cg, .slice Aw j c'] w7 fun e w' => e = .returned (.bool true) ∧ Fresh w7 w') := zh fun c' => by
    have hh := sameAll_c w7 Ag Aw cg c' mg (mw.take j) HMG7.out.sl.rd (by rw [List.map_take]; exact HMW7.out.sl.rd.take j) HMG7.out.el (fun m hm => HMW7.out.el m (List.mem_of_mem_take hm)) (by rw [HMB2.out, List.map_take, HMB.out, reps_take _ hjl]) (by rw [HGL.out]; have := HN.out; omega)
    rw [HGL.out] at hh
    exact hh
   have hcwj : (j : Int) ≤ (cw : Int) := by have h1 := HW1.out; rw [HWL.out] at h1; omega
   have hcwj2 : j ≤ cw := by omega
   have d3 : ((cmds.length : Int) == (lst.length : Int)) = true := by rw [HNL.out]; simp
   clear f7
   cases Aw with
   | none =>
    obtain ⟨h8, h9⟩ := HW2.out rfl
    have hj8 : j = 0 := by rw [HWL.out] at h8; omega
    clear HW1 HW2 HWL h8
    subst hj8
    subst h9
    go_wp2_with fail
    refine (HSA.out 0).mono ?_
    rintro e w8 ⟨rfl, f8⟩
    have HF8 := zh (HF7.out.trans f8)
    clear f8
    go_wp2_with fail
    go_ret
    exact ⟨rfl, HF8.out⟩
   | some aw =>
    go_wp2_with fail
    refine (HSA.out _).mono ?_
    rintro e w8 ⟨rfl, f8⟩
    have HF8 := zh (HF7.out.trans f8)
    clear f8
    go_wp2_with fail
    go_ret
    exact ⟨rfl, HF8.out⟩
  | false =>
   have hgk := HFS.out.gv
   have hgo := HFS.out.sys.go hov
   have hph := HFS.out.ph
   have hwf := HFS.out.sys.wf HN.out (by omega) HFS.out.wt
   have hrl := map_len HFS.out.rep
   have hkl : ks2.length = cmds.length := by rw [← HKS.out, zB]
   have hk4 : ∀ m ∈ ks2, m.b.length ≤ 4000 := fun m hm => H4.out _ (by rw [← HKS.out]; exact zQ.2 ⟨m, hm, rfl⟩)
   have HWN := want_c wr W.heap.size L2 [1] ks2 rs2 x2 [] HFS.out.cc hwf hov (by rw [hrl, hkl]; exact hgo) hk4
   rw [HKS.out, hrl, reqC_cur HFS.out.sys.ci, HLB.out] at HWN
   have HWN := zh HWN
   have HOV := zh hov
   have HPH := zh hph
   have HGK := zh hgk
   have HSW := zh (HFS.out.sys.want hov)
   obtain ⟨rq, hrq1, hrq2, hstp, htd, hsd⟩ := HSW.out.done HN.out H4.out (3145728 + (x2.gv : Int), encRq (rqCur cmds j2 x2.num)) (by simp)
   obtain ⟨_, hgd⟩ := hsd.an ⟨3145728 + (x2.gv : Int), 0, toldB (stepT st2 bk2 rq).2.2⟩ (by simp)
   have HGD : Hid (∃ d, toldB (stepT st2 bk2 rq).2.2 = toldB d ∧ TdB d ∧ goodD cmds j2 x2.num (stepT st2 bk2 rq).1 (stepT st2 bk2 rq).2.1 d) := zh (by
    rcases hgd with ⟨e, _⟩ | ⟨_, d, e1, e2, e3⟩
    ·exact absurd e (show ¬ ((0 : Int) = 7) by decide)
    ·exact ⟨d, e1, e2, e3 (by simp)⟩)
   have HSD := zh hsd
   obtain ⟨n, n1, n2, n3⟩ := hstp.ok
   have HDN : Hid (∀ (w4 : World) (A : Option Addr) (c : Nat), Rd w4 w4.heap.size A ((encRq (rqCur cmds j2 x2.num)).map bv) → (encRq (rqCur cmds j2 x2.num)).length ≤ c → c ≤ maxLen → (encRq (rqCur cmds j2 x2.num)).length ≤ 1000000 → w2.heap.size ≤ w4.heap.size → TabS w4 w2.heap.size t2 st2 bk2 →
    Calls Tryz.prog 9 #[.pointer (some ⟨t2, 0, none⟩), .int .i64 (3145728 + (x2.gv : Int)), .slice A (encRq (rqCur cmds j2 x2.num)).length c] w4 fun e w' => DonePost w4 w2.heap.size t2 (3145728 + (x2.gv : Int)) (stepT st2 bk2 rq) e w') := zh fun w4 A c r1 r2 r3 r4 r5 r6 =>
    done_any w4 w2.heap.size t2 bk2 r5 A c _ r1 r4 r2 r3 st2 r6 n n1 n2 rq hstp.rql n3 hstp.stb _ (by dsimp only at hrq1; rw [hrq1]; exact hrq2)
   have HLEN : Hid ((encRq (rqCur cmds j2 x2.num)).length ≤ 1000000) := zh (by
    have hc := cmd_le H4.out j2
    have hsl := seqK_le cmds j2
    have hjj := HFS.out.sys.ci.jle
    have hNN := HN.out
    have hb : ∀ r : Rq, RqB r → (encRq r).length ≤ 1000000 := fun r hr => by
     obtain ⟨q1, q2, q3, q4, q5⟩ := hr
     have l1 := qA [r.kind, r.client, r.seq, r.token] (by intro y hy; simp at hy; omega)
     have l2 := text_le r.cmd (by omega)
     simp only [zG, zX] at l1
     unfold encRq
     rw [zg]
     omega
    apply hb
    unfold rqCur
    split
    ·exact ⟨by simp, by simp, by simp, by simp, by simp⟩
    ·split
     ·exact ⟨by simp, by simp, by simp, by simp, hc⟩
     ·exact ⟨by simp, by simp, by dsimp only; omega, by simp, hc⟩)
   clear hgo hph hwf hrl hkl hk4 hrq1 hrq2 htd hsd hgd n1 n2 n3 hstp hgk hov
   obtain ⟨ebs, hebs⟩ : ∃ z, z = encRq (rqCur cmds j2 x2.num) := ⟨_, rfl⟩
   rw [← hebs] at HWN HDN HLEN
   clear hebs
   go_wp2_with fail
   refine HWN.out.mono ?_
   rintro e w4 ⟨v4, rfl, hs4, hc4, f4⟩
   obtain ⟨A4, c4, rfl, q1, q2, _⟩ := hs4.shape
   have HC4 := zh hc4
   have HT4 := zh (HFS.out.cc.keepT f4 HFS.out.tab)
   have hsz4 : w2.heap.size ≤ w4.heap.size := zp HFS.out.bt f4.size
   have HFR4 : Hid (Frm (CS L2 rs2.length) wr w4) := zh f4
   have HD4 := zh (HDN.out w4 A4 c4 hs4.rd q1 q2 HLEN.out hsz4 HT4.out)
   clear hs4 hc4 f4 q1 q2
   go_wp2_with fail
   refine HD4.out.mono ?_
   rintro e w5 ⟨A5, c5, rfl, hs5, ht5, f5⟩
   obtain ⟨d, hd1, hd2, hd3⟩ := HGD.out
   have HC5 := zh (HC4.out.keepF f5)
   have HT5 := zh ht5
   have HF5 := zh f5
   have HHG := hear_good w5 W.heap.size L2 [1] ks2 rs2 HC5.out HSD.out HN.out H4.out HKS.out HFS.out.rep HOV.out (by have hg2 := HGK.out; dsimp only; omega) HFS.out.wt (3145728 + (x2.gv : Int)) (by have hg2 := HGK.out; omega) (by simp) A5 c5 d hd3 hd2 (by rw [hd1] at hs5; exact hs5.less (zF _))
   rw [← hd1, HLB.out] at HHG
   have HHG := zh HHG
   have HTLD := zh (HSD.out.told HN.out HOV.out hd3)
   unfold dcel at HHG
   clear hs5 ht5 f5 hd1 hd2 hd3
   generalize (toldB (stepT st2 bk2 rq).2.2).length = nb at HHG
   go_wp2_with fail
   refine HHG.out.mono ?_
   rintro e w6 ⟨rfl, L', rs', k1, k2, k3, k4⟩
   have HNEXT : Hid (∃ (L2 : CL) (rs2 : List BsM) (x2' : CSt) (st2 : Option (Int × List UInt8)) (bk2 : Book) (j2' : Nat), k + 1 ≤ 101 ∧ FrS w w6 W.heap.size b2 w2.heap.size t2 ks2 cmds (k + 1) L2 rs2 x2' st2 bk2 j2') := zh (by
    have hks := cur_kind (cmds := cmds) (j := j2) (x := x2) HFS.out.sys.ci.num
    have hnum := HFS.out.sys.ci.num
    obtain ⟨g1, g2⟩ := toldX_gv { x2 with gv := x2.gv + 1 } cmds.length j2 (rqCur cmds j2 x2.num).kind
    have g3 := toldX_num { x2 with gv := x2.gv + 1 } cmds.length j2 (rqCur cmds j2 x2.num).kind (fun hne => by
     dsimp only
     by_cases h0 : x2.num = 0
     ·rw [hks, zl h0] at hne; exact absurd rfl hne
     ·omega)
    have hjs := toldX_reps { x2 with gv := x2.gv + 1 } cmds.length j2 (rqCur cmds j2 x2.num).kind
    have hjl' := HTLD.out.ci.jle
    have hph2 : k + 1 = (toldX { x2 with gv := x2.gv + 1 } cmds.length j2 (rqCur cmds j2 x2.num).kind).2 + 1 := by
     rw [hjs]
     rcases HPH.out with ⟨p1, p2⟩ | ⟨p1, p2⟩
     ·rw [hks, zl p2, zl rfl]
      have := HFS.out.sys.ci.z p2
      omega
     ·have hne : (rqCur cmds j2 x2.num).kind ≠ 1 := by
       rw [hks, zk (by omega)]
       split <;> decide
      rw [zk hne]
      omega
    have hsysD : Sys cmds (toldX { x2 with gv := x2.gv + 1 } cmds.length j2 (rqCur cmds j2 x2.num).kind).2 (toldX { x2 with gv := x2.gv + 1 } cmds.length j2 (rqCur cmds j2 x2.num).kind).1 [] (stepT st2 bk2 rq).1 (stepT st2 bk2 rq).2.1 [] [] :=
     ⟨HTLD.out.ci, HTLD.out.ti, HTLD.out.ov, fun s hs => (by cases hs), fun a ha => (by cases ha)⟩
    have hNN := HN.out
    have hg2 := HGK.out
    have hfr : Fresh w w6 := by
     have f1 := HFS.out.fr
     have hB1 : w.heap.size ≤ W.heap.size := HFW.out.size
     have hcs : ∀ {u u' : World} {LL : CL} {rr : List BsM} {xx : CSt} {oo : List Int}, Cc u W.heap.size LL [1] ks2 rr xx oo → Frm (CS LL rr.length) u u' → Fresh w u → Fresh w u' := by
      intro u u' LL rr xx oo hcc hf hfu
      refine hfu.trans' hf (fun i hi hS => ?_)
      rcases hS with e | e | e
      ·have := hcc.bge; omega
      ·have := hcc.mge; omega
      ·have := (hcc.rsl.lt _ e).1; omega
     have f2 := hcs HFS.out.cc HFR4.out f1
     have f3 : Fresh w w5 := f2.trans' HF5.out (fun i hi hS => by have h1 := hS.1; have h2 := HF2.out.size; omega)
     exact hcs HC5.out k4 f3
    refine ⟨L', rs', _, _, _, _, by omega, ⟨by rw [k1]; exact HLB.out, k3, HC5.out.keepT k4 HT5.out, hsysD, k2, by rw [g1]; show x2.gv + 1 = k + 1; omega, by rw [g2]; omega, hfr, .inr ⟨g3, hph2⟩, ?_⟩⟩
    have e1 := hsz4
    have e2 := Frm.size HF5.out
    have e3 := k4.size
    omega)
   clear k1 k2 k3 k4
   go_wp2_with fail
   go_roundw
   case rel =>
    obtain ⟨L2', rs2', x2', st2', bk2', j2', p1, p2⟩ := HNEXT.out
    exact ⟨k + 1, L2', rs2', x2', st2', bk2', j2', by go_num, p1, p2⟩
   case measure => simp [intOf]; omega
end
section
open Go.RowKit
def acel (s : Int × BsM) : List Value := [.int .i64 s.1, s.2.v]
def ecel (a : Int × Int × BsM) : List Value := [.int .i64 a.1, .int .i64 0, .int .i64 a.2.1, a.2.2.v]
def sOf (s : Int × BsM) : Int × List UInt8 := (s.1, s.2.b)
def aOf (a : Int × Int × BsM) : An := ⟨a.1, a.2.1, a.2.2.b⟩
theorem info_ask : (Tryz.prog.info? 43).map (fun i => (i.zero, i.size, i.bytes)) = some (some (.agg #[.int .i64 0, .slice none 0 0]), 2, 32) := by kernel_rfl
theorem info_dn : (Tryz.prog.info? 45).map (fun i => (i.zero, i.size, i.bytes)) = some (some (.agg #[.int .i64 0, .int .i64 0, .int .i64 0, .slice none 0 0]), 4, 48) := by kernel_rfl
structure OMem (w wr : World) (B Bt t : Nat) (l : List Int) (ks : List BsM) (v10 v11 : Value) (L : CL) (rs : List BsM) (x : CSt) (op : List Int) (st : Option (Int × List UInt8)) (bk : Book) (sm : List (Int × BsM)) (am : List (Int × Int × BsM)) : Prop where
 cc : Cc wr B L l ks rs x op
 tab : TabS wr Bt t st bk
 ss : Sl wr B 43 2 v10 sm.length (sm.flatMap acel)
 sb : ∀ s ∈ sm, bsE wr s.2
 aa : Sl wr B 45 4 v11 am.length (am.flatMap ecel)
 ab : ∀ a ∈ am, bsE wr a.2.2
 fr : Fresh w wr
 bt : Bt ≤ wr.heap.size
 b1 : w.heap.size ≤ B
 b2 : B ≤ Bt
section
variable {w wr wr' : World} {B Bt t : Nat} {l : List Int} {ks : List BsM} {v10 v11 : Value} {L : CL} {rs : List BsM} {x : CSt} {op : List Int} {st : Option (Int × List UInt8)} {bk : Book} {sm : List (Int × BsM)} {am : List (Int × Int × BsM)}
theorem OMem.fresh (h : OMem w wr B Bt t l ks v10 v11 L rs x op st bk sm am) (F : Fresh wr wr') : OMem w wr' B Bt t l ks v10 v11 L rs x op st bk sm am :=
 ⟨h.cc.fresh F, h.tab.fresh F, h.ss.fresh F, fun s hs => (h.sb s hs).fresh F, h.aa.fresh F, fun a ha => (h.ab a ha).fresh F, h.fr.trans F, zp h.bt F.size, h.b1, h.b2⟩
theorem OMem.cli (h : OMem w wr B Bt t l ks v10 v11 L rs x op st bk sm am) {L' : CL} {rs' : List BsM} {x' : CSt} {op' : List Int} (hc : Cc wr' B L' l ks rs' x' op') (F : Frm (CS L rs.length) wr wr') : OMem w wr' B Bt t l ks v10 v11 L' rs' x' op' st bk sm am := by
 refine ⟨hc, h.cc.keepT F h.tab, h.cc.keepSl F h.ss (by decide), fun s hs => h.cc.keepSl F (h.sb s hs) (by decide), h.cc.keepSl F h.aa (by decide), fun a ha => h.cc.keepSl F (h.ab a ha) (by decide), h.fr.trans' F (fun i hi hS => ?_), zp h.bt F.size, h.b1, h.b2⟩
 have h1 := h.b1
 rcases hS with e | e | e
 ·have := h.cc.bge; omega
 ·have := h.cc.mge; omega
 ·have := (h.cc.rsl.lt _ e).1; omega
theorem OMem.tabs (h : OMem w wr B Bt t l ks v10 v11 L rs x op st bk sm am) {st' : Option (Int × List UInt8)} {bk' : Book} (ht : TabS wr' Bt t st' bk') (F : FT tabT Bt wr wr') : OMem w wr' B Bt t l ks v10 v11 L rs x op st' bk' sm am := by
 refine ⟨h.cc.keepF F, ht, F.sl h.ss (by decide), fun s hs => F.sl (h.sb s hs) (by decide), F.sl h.aa (by decide), fun a ha => F.sl (h.ab a ha) (by decide), h.fr.trans' F (fun i hi hS => ?_), zp h.bt F.size, h.b1, h.b2⟩
 have h1 := h.b1
 have h2 := h.b2
 have h3 := hS.1
 omega
theorem OMem.pushS (h : OMem w wr B Bt t l ks v10 v11 L rs x op st bk sm am) (s : Int × BsM) (hm : bsE wr s.2) {v' : Value} (hs : Sl wr' B 43 2 v' (sm.length + 1) (sm.flatMap acel ++ acel s)) (F : Frm (fun k => v10.ownBlock = some k) wr wr') : OMem w wr' B Bt t l ks v' v11 L rs x op st bk (sm ++ [s]) am := by
 have hu : ∀ k cs, Blk wr k 5 cs → ¬ (v10.ownBlock = some k) := fun k cs hb e => h.ss.apart hb (by decide) e
 have hty : ∀ k, v10.ownBlock = some k → k < wr.heap.size → ∃ t cs, Blk wr k t cs ∧ t = 43 := fun k e _ => by
  obtain ⟨cs, hb, _⟩ := h.ss.has e
  exact ⟨_, cs, hb, rfl⟩
 refine ⟨h.cc.far F (fun k e hk => ?_), h.tab.other F (fun k e hk => ?_), ?_, fun s' hs' => ?_, h.aa.frm F (fun k hk e => h.ss.differ h.aa (by decide) e hk), fun a ha => (h.ab a ha).frm F hu, h.fr.trans' F (fun i hi e => ?_), zp h.bt F.size, h.b1, h.b2⟩
 ·obtain ⟨t, cs, h1, rfl⟩ := hty k e hk
  exact ⟨_, cs, h1, by decide⟩
 ·obtain ⟨t, cs, h1, rfl⟩ := hty k e hk
  exact ⟨_, cs, h1, by decide⟩
 ·rw [zg, zV]
  have : [s].flatMap acel = acel s := by simp
  rw [this]
  exact hs
 ·rcases zy.1 hs' with e | e
  ·exact (h.sb s' e).frm F hu
  ·rw [zO.1 e]; exact hm.frm F hu
 ·have h1 := (h.ss.lt _ e).1
  have h2 := h.b1
  omega
theorem OMem.pushA (h : OMem w wr B Bt t l ks v10 v11 L rs x op st bk sm am) (a : Int × Int × BsM) (hm : bsE wr a.2.2) {v' : Value} (hs : Sl wr' B 45 4 v' (am.length + 1) (am.flatMap ecel ++ ecel a)) (F : Frm (fun k => v11.ownBlock = some k) wr wr') : OMem w wr' B Bt t l ks v10 v' L rs x op st bk sm (am ++ [a]) := by
 have hu : ∀ k cs, Blk wr k 5 cs → ¬ (v11.ownBlock = some k) := fun k cs hb e => h.aa.apart hb (by decide) e
 have hty : ∀ k, v11.ownBlock = some k → k < wr.heap.size → ∃ t cs, Blk wr k t cs ∧ t = 45 := fun k e _ => by
  obtain ⟨cs, hb, _⟩ := h.aa.has e
  exact ⟨_, cs, hb, rfl⟩
 refine ⟨h.cc.far F (fun k e hk => ?_), h.tab.other F (fun k e hk => ?_), h.ss.frm F (fun k hk e => h.aa.differ h.ss (by decide) e hk), fun s hs => (h.sb s hs).frm F hu, ?_, fun a' ha' => ?_, h.fr.trans' F (fun i hi e => ?_), zp h.bt F.size, h.b1, h.b2⟩
 ·obtain ⟨t, cs, h1, rfl⟩ := hty k e hk
  exact ⟨_, cs, h1, by decide⟩
 ·obtain ⟨t, cs, h1, rfl⟩ := hty k e hk
  exact ⟨_, cs, h1, by decide⟩
 ·rw [zg, zV]
  have : [a].flatMap ecel = ecel a := by simp
  rw [this]
  exact hs
 ·rcases zy.1 ha' with e | e
  ·exact (h.ab a' e).frm F hu
  ·rw [zO.1 e]; exact hm.frm F hu
 ·have h1 := (h.aa.lt _ e).1
  have h2 := h.b1
  omega
end
structure OPl (cmds : List (List UInt8)) (b k : Nat) (L : CL) (rs : List BsM) (j : Nat) (x : CSt) (op : List Int) (st : Option (Int × List UInt8)) (bk : Book) (sm : List (Int × BsM)) (am : List (Int × Int × BsM)) : Prop where
 lb : L.b = b
 sys : Sys cmds j x op st bk (sm.map sOf) (am.map aOf)
 rep : rs.map lenB = reps cmds j
 gv : x.gv ≤ k
 wt : x.wt ≤ 10
 sl : sm.length ≤ k
 al : am.length ≤ k
theorem OPl.more {cmds : List (List UInt8)} {b k k' : Nat} {L : CL} {rs : List BsM} {j : Nat} {x : CSt} {op : List Int} {st : Option (Int × List UInt8)} {bk : Book} {sm : List (Int × BsM)} {am : List (Int × Int × BsM)} (h : OPl cmds b k L rs j x op st bk sm am) (hk : k ≤ k') : OPl cmds b k' L rs j x op st bk sm am :=
 ⟨h.lb, h.sys, h.rep, zp h.gv hk, h.wt, zp h.sl hk, zp h.al hk⟩
def Rnd (w wr : World) (B Bt t b : Nat) (l : List Int) (ks : List BsM) (cmds : List (List UInt8)) (k : Nat) (v10 v11 : Value) : Prop :=
 ∃ L rs j x op st bk sm am, OMem w wr B Bt t l ks v10 v11 L rs x op st bk sm am ∧ OPl cmds b k L rs j x op st bk sm am
theorem encRq_le {cmds : List (List UInt8)} {j num : Nat} {rq : Rq} (hN : cmds.length ≤ 100) (h4 : ∀ c ∈ cmds, c.length ≤ 4000) (hp : PhOk cmds j num rq) : (encRq rq).length ≤ 1000000 := by
 have hb : ∀ r : Rq, RqB r → (encRq r).length ≤ 1000000 := fun r hr => by
  obtain ⟨q1, q2, q3, q4, q5⟩ := hr
  have l1 := qA [r.kind, r.client, r.seq, r.token] (by intro y hy; simp at hy; omega)
  have l2 := text_le r.cmd (by omega)
  simp only [zG, zX] at l1
  unfold encRq
  rw [zg]
  omega
 apply hb
 rcases hp with rfl | ⟨_, i, hi, hil, rfl⟩
 ·exact ⟨by simp, by simp, by simp, by simp, by simp⟩
 ·have hc := cmd_le h4 i
  have hsl := seqK_le cmds i
  unfold rqCur
  rw [zk (by omega)]
  split
  ·exact ⟨by simp, by simp, by simp, by simp, hc⟩
  ·exact ⟨by simp, by simp, by dsimp only; omega, by simp, hc⟩
def AskP (w wr : World) (B Bt t b : Nat) (l : List Int) (ks : List BsM) (cmds : List (List UInt8)) (k : Nat) (v10 v11 : Value) (L : CL) (rs : List BsM) (j : Nat) (x : CSt) (op : List Int) (sm : List (Int × BsM)) (am : List (Int × Int × BsM)) (tok : Int) (e : Ending) (w' : World) : Prop :=
 ∃ A c n st bk bs, e = .returned (.agg #[.int .i64 tok, .int .i64 0, .int .i64 0, .slice A n c]) ∧ n = bs.length ∧ bsE w' ⟨A, c, bs⟩ ∧ OMem w w' B Bt t l ks v10 v11 L rs x op st bk sm am ∧ FT tabT Bt wr w' ∧
  ∀ k', k ≤ k' → am.length + 1 ≤ k' → OPl cmds b k' L rs j x op st bk sm (am ++ [(tok, 0, ⟨A, c, bs⟩)])
theorem askT_any (w wr : World) (B Bt t b : Nat) (l : List Int) (ks : List BsM) (cmds : List (List UInt8)) (k : Nat) (v10 v11 : Value) (L : CL) (rs : List BsM) (j : Nat) (x : CSt) (op : List Int) (st : Option (Int × List UInt8)) (bk : Book) (sm : List (Int × BsM)) (am : List (Int × Int × BsM))
 (h : OMem w wr B Bt t l ks v10 v11 L rs x op st bk sm am) (hp : OPl cmds b k L rs j x op st bk sm am) (hN : cmds.length ≤ 100) (h4 : ∀ c ∈ cmds, c.length ≤ 4000) (s : Int × BsM) (hs : s ∈ sm) :
 Calls Tryz.prog 9 #[.pointer (some ⟨t, 0, none⟩), .int .i64 s.1, s.2.v] wr fun e w' => AskP w wr B Bt t b l ks cmds k v10 v11 L rs j x op sm am s.1 e w' := by
 obtain ⟨rq, hrq1, hrq2, hstp, htd, hsd⟩ := hp.sys.done hN h4 (sOf s) (zQ.2 ⟨s, hs, rfl⟩)
 obtain ⟨n, n1, n2, n3⟩ := hstp.ok
 have he := h.sb s hs
 obtain ⟨A', c', ee, q1, q2, _⟩ := Sl.shape he
 have hle : s.2.b.length ≤ 1000000 := by
  obtain ⟨_, rq2, k1, k2, _⟩ := hp.sys.se (sOf s) (zQ.2 ⟨s, hs, rfl⟩)
  have : s.2.b = encRq rq2 := k1
  rw [this]
  exact encRq_le hN h4 k2
 obtain ⟨tok, mA, mc, mb⟩ := s
 dsimp only [sOf] at hrq1 hsd hle
 injection ee with e1 _ e3
 dsimp only at e1 e3 q1
 subst e1 e3
 refine (done_any wr Bt t bk h.bt _ _ mb (Sl.rd he) hle q1 q2 st h.tab n n1 n2 rq hstp.rql n3 hstp.stb tok (by rw [hrq1]; exact hrq2)).mono ?_
 rintro e w' ⟨A5, c5, rfl, hs5, ht5, f5⟩
 refine ⟨A5, c5, _, _, _, toldB (stepT st bk rq).2.2, rfl, rfl, hs5.less (zF _), h.tabs ht5 f5, f5, fun k' hk hk2 => ?_⟩
 refine ⟨hp.lb, ?_, hp.rep, zp hp.gv hk, hp.wt, zp hp.sl hk, by rw [zg]; simpa using hk2⟩
 rw [zn]
 exact hsd
end
end Go.Proofs.YtnmokpbomeamfaaGreat

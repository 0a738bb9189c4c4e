/- Proved here, for the statement ClientOnceSaid: laws that its walk leans on. It holds with no condition. (Put together and shortened by a program out of many texts: On72, On73.) -/
import Derived.Test.YtnmokpbomeamfaaGreatZ27
set_option linter.unusedVariables false
set_option maxRecDepth 100000
set_option maxHeartbeats 64000000
namespace Go.Proofs.YtnmokpbomeamfaaGreat
section
open Go.RowKit
def MuchP (w : World) (n : Nat) (e : Ending) (w' : World) : Prop := ∃ r, e = .returned (.bool r) ∧ (r = false → n ≤ 200) ∧ Fresh w w'
theorem much_any (w : World) (KA : Option Addr) (kc : Nat) (lst : List Bs) (h : IsBss w w.heap.size KA kc lst) (hl : lst.length ≤ 140737488351232) :
 Calls Tryz.prog 5 #[.agg #[.int .i64 0, .slice none 0 0, .slice KA lst.length kc]] w fun e w' => MuchP w lst.length e w' := by
 obtain ⟨W, hW⟩ : ∃ W, w.alloc (.cells #[.int .i64 0, .slice none 0 0, .slice KA lst.length kc] 28) = W := ⟨_, rfl⟩
 have HFW : Hid (Fresh w W) := zh (by rw [← hW]; exact jC _ _)
 have hb : Blk W w.heap.size 28 #[.int .i64 0, .slice none 0 0, .slice KA lst.length kc] := by rw [← hW]; exact Blk.new _ _ _
 have y1 : W.cell? ⟨w.heap.size, 1, none⟩ = some (.slice none 0 0) := hb.cell 1
 have y2 : W.cell? ⟨w.heap.size, 2, none⟩ = some (.slice KA lst.length kc) := hb.cell 2
 have HK := zh (h.keep (zf _) HFW.out)
 clear h hb
 by_cases h200 : 200 < lst.length
 ·have h1 : (200 : Int) < (lst.length : Int) := by omega
  have d1 : decide ((200 : Int) < (lst.length : Int)) = true := zc h1
  go_in
  go_upto_region 1 with fail
  try rw [hW]
  clear hW
  go_wp2_with fail
  go_ret
  exact ⟨_, rfl, fun e => (by cases e), HFW.out⟩
 ·have h1 : ¬ (200 : Int) < (lst.length : Int) := by omega
  have d1 : decide ((200 : Int) < (lst.length : Int)) = false := zb h1
  have HL2 : Hid (lst.length ≤ 200) := zh (by omega)
  go_in
  go_upto_region 1 with fail
  try rw [hW]
  clear hW
  go_wp2_with fail
  go_loopw [3] (fun v3 wr => ∃ k : Nat, k ≤ lst.length ∧ v3 = .int .i64 (k : Int) ∧ wr = W) (fun v3 _ => lst.length - (intOf v3).toNat)
  case atStart => exact ⟨0, by omega, rfl, rfl⟩
  case round =>
   obtain ⟨k, hk, rfl, hwr⟩ := hrel
   replace hwr := hwr.symm
   subst hwr
   have hk0 : (0 : Int) ≤ (k : Int) := by omega
   by_cases hlt : k < lst.length
   ·have hlti : (k : Int) < (lst.length : Int) := by omega
    have d2 : decide ((k : Int) < (lst.length : Int)) = true := zc hlti
    obtain ⟨b, o, hA, _, hx, _⟩ := HK.out.at_ (k := k) hlt
    rw [hA] at y2
    unfold bsv at hx
    generalize lst[k].2.2.length = n at hx
    generalize lst[k].1 = a1 at hx
    generalize lst[k].2.1 = c1 at hx
    by_cases h5 : 5000 < n
    ·have h5i : (5000 : Int) < (n : Int) := by omega
     have d3 : decide ((5000 : Int) < (n : Int)) = true := zc h5i
     go_wp2_with fail
     go_ret
     exact ⟨_, rfl, fun _ => HL2.out, HFW.out⟩
    ·have h5i : ¬ (5000 : Int) < (n : Int) := by omega
     have d3 : decide ((5000 : Int) < (n : Int)) = false := zb h5i
     go_wp2_with fail
     go_roundw
     case rel => exact ⟨k + 1, by omega, by go_num, by first | rfl | trivial⟩
     case measure => simp [intOf]; omega
   ·have hlti : ¬ (k : Int) < (lst.length : Int) := by omega
    have d2 : decide ((k : Int) < (lst.length : Int)) = false := zb hlti
    go_wp2_with fail
    go_ret
    exact ⟨_, rfl, fun _ => HL2.out, HFW.out⟩
theorem tickC_gv (n : Nat) (x : CSt) : (tickC n x).gv = x.gv := by
 unfold tickC
 split
 ·rfl
 ·split <;> rfl
theorem tickC_wt {n : Nat} {x : CSt} (h : x.wt ≤ 10) : (tickC n x).wt ≤ 10 := by
 unfold tickC
 split
 ·exact h
 ·split
  ·exact zF _
  ·dsimp only; omega
theorem once_at {w X : World} {B Bt t b k : Nat} {ks rs : List BsM} {cmds : List (List UInt8)} {v10 v11 : Value} {L : CL} {j : Nat} {x : CSt} {op : List Int} {st : Option (Int × List UInt8)} {bk : Book} {sm : List (Int × BsM)} {am : List (Int × Int × BsM)}
 (hm : OMem w X B Bt t [1, 2, 3] ks v10 v11 L rs x op st bk sm am) (hp : OPl cmds b k L rs j x op st bk sm am) {KA : Option Addr} {kc : Nat} {lst : List Bs} (hK : IsBss w w.heap.size KA kc lst) (hcm : lst.map bytesB = cmds) (h100 : lst.length ≤ 100) (hg : lst.any longB = false) :
 Calls Tryz.prog 12 #[.pointer (some ⟨b, 0, none⟩), .slice KA lst.length kc] X fun e w' => e = .returned (.bool true) ∧ Below w.heap.size w w' := by
 have k1 := hK.keep (zf _) hm.fr
 have h := once_any X B L [1, 2, 3] ks rs cmds j x op st bk _ _ hm.cc hp.sys hp.rep KA kc lst ⟨k1.rd.more hm.fr.size, k1.le, k1.most, fun b hb => ⟨(k1.all b hb).rd.more hm.fr.size, (k1.all b hb).le, (k1.all b hb).most, (k1.all b hb).reach⟩⟩ hcm h100 hg
 rw [hp.lb] at h
 exact h.mono fun e w' ⟨h1, h2⟩ => ⟨h1, Fresh.below (hm.fr.trans h2)⟩
def evc (p : Int × Int) : List Value := [.int .i64 p.1, .int .i64 p.2]
theorem clientOnce_walk (w : World) (KA : Option Addr) (kc : Nat) (lst : List Bs) (hK : IsBss w w.heap.size KA kc lst) (hkl : lst.length ≤ 10000000000000) (EA : Option Addr) (ec : Nat) (evs : List (Int × Int)) (hE : Rd w w.heap.size EA (evs.flatMap evc)) (hel : evs.length ≤ 10000000000000) :
 Calls Tryz.prog 3 #[.slice KA lst.length kc, .slice EA evs.length ec] w fun e w' => e = .returned (.bool true) ∧ Below w.heap.size w w' := by
 obtain ⟨iS, hiS, hzS0, hzS1, hzS2⟩ := info_parts info_ask
 obtain ⟨iD, hiD, hzD0, hzD1, hzD2⟩ := info_parts info_dn
 have HK := zh hK
 have HEV := zh hE
 have HAW := zh (awake_any w)
 have HMU : Hid (∀ w1, Fresh w w1 → Calls Tryz.prog 5 #[.agg #[.int .i64 0, .slice none 0 0, .slice KA lst.length kc]] w1 fun e w' => MuchP w1 lst.length e w') := zh fun w1 F => by
  have k1 := HK.out.keep (zf _) F
  exact much_any w1 KA kc lst ⟨k1.rd.more F.size, k1.le, k1.most, fun b hb => ⟨(k1.all b hb).rd.more F.size, (k1.all b hb).le, (k1.all b hb).most, (k1.all b hb).reach⟩⟩ (by omega)
 clear hK hE
 go_in
 go_wp2_with fail
 refine HAW.out.mono ?_
 rintro e wa ⟨rfl, fa⟩
 have HFA := zh fa
 clear fa
 go_wp2_with fail
 refine (HMU.out wa HFA.out).mono ?_
 rintro e wb ⟨r, rfl, hr, fb⟩
 have HFB := zh (HFA.out.trans fb)
 have HR := zh hr
 clear fb hr
 cases r with
 | true =>
  go_wp2_with fail
  go_ret
  exact ⟨rfl, Fresh.below HFB.out⟩
 | false =>
  have hl2 := HR.out rfl
  obtain ⟨W, hW⟩ : ∃ W, wb.alloc (.cells #[.int .i64 1, .int .i64 2, .int .i64 3] 3) = W := ⟨_, rfl⟩
  have HFW : Hid (Fresh w W) := zh (by rw [← hW]; exact HFB.out.trans (jC _ _))
  have R1 : Rd W W.heap.size (some ⟨wb.heap.size, 0, none⟩) (([1, 2, 3] : List Int).map civ) := by rw [← hW]; exact (jL wb (([1, 2, 3] : List Int).map civ) 3).more (by simp)
  have HKW : IsBss W W.heap.size KA kc lst := by
   have k1 := HK.out.keep (zf _) HFW.out
   exact ⟨k1.rd.more HFW.out.size, k1.le, k1.most, fun b hb => ⟨(k1.all b hb).rd.more HFW.out.size, (k1.all b hb).le, (k1.all b hb).most, (k1.all b hb).reach⟩⟩
  by_cases hbad : 100 < lst.length ∨ lst.any longB = true
  ·have HNO := zh (newC_no W (some ⟨wb.heap.size, 0, none⟩) 3 [1, 2, 3] R1 (by simp) (by simp) (by decide) KA kc lst HKW hbad (by omega))
   clear hbad R1 HKW
   go_wp2_with fail
   try rw [hW]
   clear hW
   refine HNO.out.mono ?_
   rintro e wc ⟨rfl, hwc⟩
   replace hwc := hwc.symm
   subst hwc
   go_wp2_with fail
   go_ret
   exact ⟨rfl, Fresh.below HFW.out⟩
  ·have h100 : lst.length ≤ 100 := by
    rcases zL 100 lst.length with e | e
    ·exact absurd (.inl e) hbad
    ·exact e
   have hgood : lst.any longB = false := by
    cases hb : lst.any longB with
    | false => rfl
    | true => exact absurd (.inr hb) hbad
   obtain ⟨cmds, hcm⟩ : ∃ c, lst.map bytesB = c := ⟨_, rfl⟩
   have HNY := newC_yes W (some ⟨wb.heap.size, 0, none⟩) 3 [1, 2, 3] R1 (by simp) (by simp) (by decide) (by simp) (by simp [maxLen]) KA kc lst HKW h100 hgood
   rw [hcm] at HNY
   have HNEW := zh HNY
   have HN : Hid (cmds.length ≤ 100) := zh (by rw [← hcm, zB]; exact h100)
   have H4 : Hid (∀ c ∈ cmds, c.length ≤ 4000) := zh fun c hc => by
    rw [← hcm] at hc
    obtain ⟨b, hb, rfl⟩ := zQ.1 hc
    have h1 := List.any_eq_false.1 hgood b hb
    unfold longB at h1
    unfold bytesB
    simpa using h1
   have HCM := zh hcm
   have H100 := zh h100
   have HGOOD := zh hgood
   clear hbad R1 HKW hgood hcm h100 HNY hl2
   go_wp2_with fail
   try rw [hW]
   clear hW
   refine HNEW.out.mono ?_
   rintro e w2 ⟨L0, ks, rfl, hcc, hks, f2⟩
   have HC0 := zh hcc
   have HKS := zh hks
   have HF2 := zh f2
   have HT := zh (new19_any w2)
   clear hcc hks f2
   go_wp2_with fail
   refine HT.out.mono ?_
   rintro e w3 ⟨t, rfl, ht, f3⟩
   have HR0 : Hid (Rnd w w3 W.heap.size w2.heap.size t L0.b [1, 2, 3] ks cmds 0 (.slice none 0 0) (.slice none 0 0)) := zh ⟨L0, [], 0, x0, [], none, book0, [], [], ⟨HC0.out.fresh f3, ht, Sl.nil _ _ _ _, fun s hs => (by cases hs), Sl.nil _ _ _ _, fun a ha => (by cases ha), (HFW.out.trans HF2.out).trans f3, f3.size, HFW.out.size, HF2.out.size⟩, ⟨rfl, sys_start cmds, rfl, zf _, zF _, zf _, zf _⟩⟩
   obtain ⟨b, hb⟩ : ∃ b, b = L0.b := ⟨_, rfl⟩
   rw [← hb] at HR0 ⊢
   clear ht f3 HC0 hb
   have hew : IntKind.i64.wrap ((evs.length : Int) + 200) = (evs.length : Int) + 200 := zm _ (by omega)
   go_wp2_with fail
   go_loopg [10, 11, 12] 700 (fun g v10 v11 v12 wr => ∃ k : Nat, k + g = 700 ∧ k ≤ 601 ∧ v12 = .int .i64 (k : Int) ∧ Rnd w wr W.heap.size w2.heap.size t b [1, 2, 3] ks cmds k v10 v11)
   case atStart => exact ⟨0, rfl, by omega, rfl, HR0.out⟩
   case round =>
    obtain ⟨k, hkg, hk, rfl, hrd⟩ := hrel
    have HKG := zh hkg
    clear hkg HR0
    obtain ⟨L, rs, j, x, op, st, bk, sm, am, hm0, hp0⟩ := hrd
    have HM0 := zh hm0
    have HP := zh hp0
    clear hm0 hp0
    obtain ⟨A7, c7, hv7, _⟩ := HM0.out.ss.shape
    obtain ⟨A8, c8, hv8, _⟩ := HM0.out.aa.shape
    subst hv7 hv8
    obtain ⟨nS, hnS⟩ : ∃ n, n = sm.length := ⟨_, rfl⟩
    obtain ⟨nA, hnA⟩ : ∃ n, n = am.length := ⟨_, rfl⟩
    have hnSk : nS ≤ 601 := by have := HP.out.sl; omega
    have hnAk : nA ≤ 601 := by have := HP.out.al; omega
    have HNS := zh hnS
    have HNA := zh hnA
    rw [← hnS, ← hnA] at HM0 ⊢
    clear hnS hnA
    have hk0 : (0 : Int) ≤ (k : Int) := by omega
    by_cases hlt : k < evs.length + 200
    ·have hlti : (k : Int) < (evs.length : Int) + 200 := by omega
     have dlt : decide ((k : Int) < (evs.length : Int) + 200) = true := zc hlti
     obtain ⟨q, hq⟩ : ∃ q, q = k % 2 := ⟨_, rfl⟩
     have HQ := zh hq
     have hq2 : q ≤ 1 := by omega
     have s1 : ((k : Nat) : Int).tmod 2 = (q : Int) := by rw [jB (by omega), hq]; rfl
     clear hq
     obtain ⟨d0, hd0⟩ : ∃ d, d = (q : Int) * 2 := ⟨_, rfl⟩
     have HD0 := zh hd0
     have w1 : IntKind.i64.wrap ((q : Int) * 2) = d0 := by rw [hd0]; exact zm _ (by omega)
     clear hd0
     obtain ⟨n0, hn0⟩ : ∃ d, d = (nA : Int) - 1 := ⟨_, rfl⟩
     have w3 : IntKind.i64.wrap ((nA : Int) - 1) = n0 := by rw [hn0]; exact zm _ (by omega)
     clear hn0
     obtain ⟨X, hX⟩ : ∃ X, wr.alloc (.cells #[.int .i64 d0, .int .i64 n0] 38) = X := ⟨_, rfl⟩
     have HFWX : Hid (Fresh wr X) := zh (by rw [← hX]; exact jC _ _)
     have HM1 := zh (HM0.out.fresh HFWX.out)
     have HB1 : Hid (Blk X wr.heap.size 38 #[.int .i64 d0, .int .i64 n0]) := zh (by rw [← hX]; exact Blk.new _ _ _)
     have HFX : Hid (Fresh w X) := zh HM1.out.fr
     obtain ⟨p, hp⟩ : ∃ p, p = wr.heap.size := ⟨_, rfl⟩
     rw [← hp] at HB1
     have HPE := zh hp
     go_upto_region 15 with fail
     try rw [hX]
     try rw [← hp]
     clear hp
     go_cut [64] from 43 to 157 (fun s64 wx => s64 = .bool (decide (k < evs.length ∧ k < 300)) ∧ wx = X)
     case first =>
      by_cases c1 : k < evs.length
      ·have c1i : (k : Int) < (evs.length : Int) := by omega
       have e1 : decide ((k : Int) < (evs.length : Int)) = true := zc c1i
       by_cases c2 : k < 300
       ·have c2i : (k : Int) < 300 := by omega
        have e2 : decide ((k : Int) < 300) = true := zc c2i
        go_wp2_with fail
        go_meet
        exact ⟨congrArg Value.bool (zc (p := k < evs.length ∧ k < 300) ⟨c1, c2⟩).symm, rfl⟩
       ·have c2i : ¬ (k : Int) < 300 := by omega
        have e2 : decide ((k : Int) < 300) = false := zb c2i
        go_wp2_with fail
        go_meet
        exact ⟨congrArg Value.bool (zb (p := k < evs.length ∧ k < 300) (fun h => c2 h.2)).symm, rfl⟩
      ·have c1i : ¬ (k : Int) < (evs.length : Int) := by omega
       have e1 : decide ((k : Int) < (evs.length : Int)) = false := zb c1i
       go_wp2_with fail
       go_meet
       exact ⟨congrArg Value.bool (zb (p := k < evs.length ∧ k < 300) (fun h => c1 h.1)).symm, rfl⟩
     case rest =>
      obtain ⟨rfl, hwc⟩ := hcut
      replace hwc := hwc.symm
      subst hwc
      obtain ⟨cnd, hcnd⟩ : ∃ c, c = decide (k < evs.length ∧ k < 300) := ⟨_, rfl⟩
      have HCND := zh hcnd
      rw [← hcnd]
      clear hcnd
      go_upto_if 64 with fail
      go_cut [] from 43 to 157 (fun wx => ∃ dd nn, OMem w wx W.heap.size w2.heap.size t [1, 2, 3] ks (.slice A7 nS c7) (.slice A8 nA c8) L rs x op st bk sm am ∧ Blk wx p 38 #[.int .i64 dd, .int .i64 nn] ∧ (dd = 0 ∨ dd = 1 → k ≤ 600))
      case first =>
       cases cnd with
       | true =>
        have hcn := zY HCND.out.symm
        have hki : (k : Int) < (evs.length : Int) := by omega
        obtain ⟨bE, oE, hEA, _, hcells⟩ := rd_flat evc 2 (fun _ => rfl) (by omega) (HEV.out.below (Fresh.below HFX.out)) hcn.1
        subst hEA
        have y1 : X.cell? ⟨bE, oE + k * 2, none⟩ = some (.int .i64 evs[k].1) := hcells 0 _ rfl
        have y2 : X.cell? ⟨bE, oE + k * 2 + 1, none⟩ = some (.int .i64 evs[k].2) := hcells 1 _ rfl
        have y3 : X.frozen? ⟨p, 0, none⟩ = false := HB1.out.frozen 0
        have y4 : X.frozen? ⟨p, 1, none⟩ = false := HB1.out.frozen 1
        have y5 : X.cell? ⟨p, 0, none⟩ = some (.int .i64 d0) := HB1.out.cell 0
        have y6 : X.cell? ⟨p, 1, none⟩ = some (.int .i64 n0) := HB1.out.cell 1
        generalize evs[k].1 = dd at y1
        generalize evs[k].2 = nn at y2
        clear hcells
        go_wp2_with fail
        go_meet
        exact ⟨dd, nn, HM0.out.fresh ((HFWX.out.setCell (p := ⟨p, 0, none⟩) (fun h => by have := HPE.out; simp at h; omega) _).setCell (p := ⟨p, 1, none⟩) (fun h => by have := HPE.out; simp at h; omega) _), (HB1.out.set 0 (.int .i64 dd)).set 1 (.int .i64 nn), fun _ => by omega⟩
       | false =>
        go_wp2_with fail
        go_meet
        exact ⟨d0, n0, HM1.out, HB1.out, fun e => by have h1 := HD0.out; have h2 := HQ.out; omega⟩
      case rest =>
       obtain ⟨dd, nn, hm, hb2, hk6⟩ := hcut
       have HM := zh hm
       have HB := zh hb2
       have HK6 := zh hk6
       clear hm hb2 hk6 HM1 HB1 HM0 HPE HFWX HFX HD0 HQ HCND hq2 s1 w1 w3
       have y0 : wc.cell? ⟨p, 0, none⟩ = some (.int .i64 dd) := HB.out.cell 0
       by_cases c0 : dd = 0
       ·subst c0
        cases hov : x.over with
        | true =>
         have HWO := want_over wc W.heap.size L [1, 2, 3] ks rs x op HM.out.cc hov
         rw [HP.out.lb] at HWO
         have HWO := zh HWO
         clear hov
         have hk6 : k ≤ 600 := HK6.out (by omega)
         go_wp2_with fail
         refine HWO.out.mono ?_
         rintro e wq ⟨rfl, hwq⟩
         replace hwq := hwq.symm
         subst hwq
         go_wp2_with fail
         go_roundg (gk - 1)
         case measure => have := HKG.out; omega
         case rel => exact ⟨k + 1, by have := HKG.out; omega, by omega, by go_num, _, _, _, _, _, _, _, _, _, HM.out, (HP.out.more (by omega))⟩
        | false =>
         have hwf := HP.out.sys.wf HN.out (by have := HP.out.gv; omega) HP.out.wt
         have hgo2 := HP.out.sys.go hov
         have hrl := map_len HP.out.rep
         have hkl : ks.length = cmds.length := by rw [← HKS.out, zB]
         have hk4 : ∀ m ∈ ks, m.b.length ≤ 4000 := fun m hm => H4.out _ (by rw [← HKS.out]; exact zQ.2 ⟨m, hm, rfl⟩)
         have HWN := want_c wc W.heap.size L [1, 2, 3] ks rs x op HM.out.cc hwf hov (by rw [hrl, hkl]; exact hgo2) hk4
         rw [HKS.out, hrl, reqC_cur HP.out.sys.ci, HP.out.lb] at HWN
         have HWN := zh HWN
         have HSW := zh (HP.out.sys.want hov)
         clear hwf hgo2 hrl hkl hk4 hov
         obtain ⟨ebs, hebs⟩ : ∃ z, z = encRq (rqCur cmds j x.num) := ⟨_, rfl⟩
         rw [← hebs] at HWN HSW
         clear hebs
         go_wp2_with fail
         refine HWN.out.mono ?_
         rintro e w4 ⟨v4, rfl, hs4, hc4, f4⟩
         obtain ⟨A4, c4, rfl, _⟩ := hs4.shape
         have HM4 := zh (HM.out.cli hc4 f4)
         have HE4 : Hid (bsE w4 ⟨A4, c4, ebs⟩) := zh (hs4.less (zF _))
         have HB4 : Hid (Blk w4 p 38 #[.int .i64 0, .int .i64 nn]) := zh (HB.out.frm f4 (fun s => by rcases cs_type HM.out.cc s HB.out with e | e <;> exact absurd e (by decide)))
         clear hs4 hc4 f4
         obtain ⟨nb, hnb⟩ : ∃ n, n = ebs.length := ⟨_, rfl⟩
         have HNB := zh hnb
         rw [← hnb]
         clear hnb
         have HSS : Hid (Sl (w4.alloc (.cells #[.int .i64 (3145728 + (x.gv : Int)), .slice A4 nb c4] 43)) W.heap.size 43 2 (.slice A7 nS c7) nS (sm.flatMap acel)) := zh (by have k1 := HM4.out.ss.alloc (.cells #[.int .i64 (3145728 + (x.gv : Int)), .slice A4 nb c4] 43); rw [← HNS.out] at k1; exact k1)
         have hBs : W.heap.size ≤ (w4.alloc (.cells #[.int .i64 (3145728 + (x.gv : Int)), .slice A4 nb c4] 43)).heap.size := by have h1 := HM4.out.b2; have h2 := HM4.out.bt; simp; omega
         have HMV := zh (HM4.out.fresh (jC w4 (.cells #[.int .i64 (3145728 + (x.gv : Int)), .slice A4 nb c4] 43)))
         have HBV := zh (HB4.out.frm (jC w4 (.cells #[.int .i64 (3145728 + (x.gv : Int)), .slice A4 nb c4] 43)) (fun f => f))
         have HEV := zh (HE4.out.fresh (jC w4 (.cells #[.int .i64 (3145728 + (x.gv : Int)), .slice A4 nb c4] 43)))
         have RV : Hid (Rd (w4.alloc (.cells #[.int .i64 (3145728 + (x.gv : Int)), .slice A4 nb c4] 43)) (w4.heap.size + 1) (some ⟨w4.heap.size, 0, none⟩) [.int .i64 (3145728 + (x.gv : Int)), .slice A4 nb c4]) := zh (jL w4 [.int .i64 (3145728 + (x.gv : Int)), .slice A4 nb c4] 43)
         have HONE : Hid (∀ u ∈ ([.int .i64 (3145728 + (x.gv : Int)), .slice A4 nb c4] : List Value), u.oneCell' = true) := zh (by intro u hu; simp at hu; rcases hu with rfl | rfl <;> rfl)
         go_wp2_with (at_builtin; refine jD _ rfl (.tmp 83) (.tmp 87) _ rfl W.heap.size 43 iS _ 2 32 Tryz.underlying35 hiS hzS0 hzS1 hzS2 rfl (by omega) (.slice A7 nS c7) nS (sm.flatMap acel) rfl HSS.out _ (some ⟨w4.heap.size, 0, none⟩) 1 1 [.int .i64 (3145728 + (x.gv : Int)), .slice A4 nb c4] rfl rfl RV.out HONE.out (by unfold maxLen; omega) (by omega) hBs ?_; intro v5 w5 hs5 hf5 _; have HM5 := zh (HMV.out.pushS (3145728 + (x.gv : Int), ⟨A4, c4, ebs⟩) HEV.out (v' := v5) (by rw [← HNS.out]; show Sl w5 W.heap.size 43 2 v5 (nS + 1) (sm.flatMap acel ++ [.int .i64 (3145728 + (x.gv : Int)), .slice A4 ebs.length c4]); rw [← HNB.out]; exact hs5) hf5); have HB5 := zh (HBV.out.frm hf5 (fun e => HSS.out.apart HBV.out (by decide) e)); have u0 : w5.cell? ⟨p, 0, none⟩ = some (.int .i64 0) := HB5.out.cell 0; clear hs5 hf5)
         have HP5 : Hid (OPl cmds b (k + 1) L rs j { x with gv := x.gv + 1 } ((3145728 + (x.gv : Int)) :: op) st bk (sm ++ [(3145728 + (x.gv : Int), ⟨A4, c4, ebs⟩)]) am) := zh ⟨HP.out.lb, by rw [zn]; exact HSW.out, HP.out.rep, by have := HP.out.gv; dsimp only; omega, HP.out.wt, by have := HP.out.sl; rw [zg]; simp; omega, by have := HP.out.al; omega⟩
         have HAK := askT_any w w5 W.heap.size w2.heap.size t b [1, 2, 3] ks cmds (k + 1) v5 (.slice A8 nA c8) L rs j _ _ st bk _ am HM5.out HP5.out HN.out H4.out (3145728 + (x.gv : Int), ⟨A4, c4, ebs⟩) (by simp)
         have HAK2 : Hid (Calls Tryz.prog 9 #[.pointer (some ⟨t, 0, none⟩), .int .i64 (3145728 + (x.gv : Int)), .slice A4 nb c4] w5 fun e w' => AskP w w5 W.heap.size w2.heap.size t b [1, 2, 3] ks cmds (k + 1) v5 (.slice A8 nA c8) L rs j { x with gv := x.gv + 1 } ((3145728 + (x.gv : Int)) :: op) (sm ++ [(3145728 + (x.gv : Int), ⟨A4, c4, ebs⟩)]) am (3145728 + (x.gv : Int)) e w') := zh (by rw [HNB.out]; exact HAK)
         clear HAK
         refine HAK2.out.mono ?_
         rintro e w6 ⟨A6, c6, n6, st6, bk6, bs6, rfl, hn6, he6, hm6, _, hp6⟩
         have HN6 := zh hn6
         have HM6 := zh hm6
         have HP6 := zh (hp6 (k + 1) (zf _) (by have := HP.out.al; omega))
         have HSA : Hid (Sl (w6.alloc (.cells #[.int .i64 (3145728 + (x.gv : Int)), .int .i64 0, .int .i64 0, .slice A6 n6 c6] 45)) W.heap.size 45 4 (.slice A8 nA c8) nA (am.flatMap ecel)) := zh (by have k1 := HM6.out.aa.alloc (.cells #[.int .i64 (3145728 + (x.gv : Int)), .int .i64 0, .int .i64 0, .slice A6 n6 c6] 45); rw [← HNA.out] at k1; exact k1)
         have hBa : W.heap.size ≤ (w6.alloc (.cells #[.int .i64 (3145728 + (x.gv : Int)), .int .i64 0, .int .i64 0, .slice A6 n6 c6] 45)).heap.size := by have h1 := HM6.out.b2; have h2 := HM6.out.bt; simp; omega
         have HMA := zh (HM6.out.fresh (jC w6 (.cells #[.int .i64 (3145728 + (x.gv : Int)), .int .i64 0, .int .i64 0, .slice A6 n6 c6] 45)))
         have HEA := zh (he6.fresh (jC w6 (.cells #[.int .i64 (3145728 + (x.gv : Int)), .int .i64 0, .int .i64 0, .slice A6 n6 c6] 45)))
         have RA2 : Hid (Rd (w6.alloc (.cells #[.int .i64 (3145728 + (x.gv : Int)), .int .i64 0, .int .i64 0, .slice A6 n6 c6] 45)) (w6.heap.size + 1) (some ⟨w6.heap.size, 0, none⟩) [.int .i64 (3145728 + (x.gv : Int)), .int .i64 0, .int .i64 0, .slice A6 n6 c6]) := zh (jL w6 [.int .i64 (3145728 + (x.gv : Int)), .int .i64 0, .int .i64 0, .slice A6 n6 c6] 45)
         have HONA : Hid (∀ u ∈ ([.int .i64 (3145728 + (x.gv : Int)), .int .i64 0, .int .i64 0, .slice A6 n6 c6] : List Value), u.oneCell' = true) := zh (by intro u hu; simp at hu; rcases hu with rfl | rfl | rfl | rfl <;> rfl)
         clear hn6 he6 hm6 hp6
         go_upto_region 34 with (at_builtin; refine jD _ rfl (.tmp 97) (.tmp 102) _ rfl W.heap.size 45 iD _ 4 48 Tryz.underlying36 hiD hzD0 hzD1 hzD2 rfl (by omega) (.slice A8 nA c8) nA (am.flatMap ecel) rfl HSA.out _ (some ⟨w6.heap.size, 0, none⟩) 1 1 [.int .i64 (3145728 + (x.gv : Int)), .int .i64 0, .int .i64 0, .slice A6 n6 c6] rfl rfl RA2.out HONA.out (by unfold maxLen; omega) (by omega) hBa ?_; intro v7 w7 hs7 hf7 _; have HM7 := zh (HMA.out.pushA ((3145728 + (x.gv : Int)), 0, ⟨A6, c6, bs6⟩) HEA.out (v' := v7) (by rw [← HNA.out]; show Sl w7 W.heap.size 45 4 v7 (nA + 1) (am.flatMap ecel ++ [.int .i64 (3145728 + (x.gv : Int)), .int .i64 0, .int .i64 0, .slice A6 bs6.length c6]); rw [← HN6.out]; exact hs7) hf7); clear hs7 hf7)
         by_cases h6 : 600 < k
         ·have h6i : (600 : Int) < (k : Int) := by omega
          have d6 : decide ((600 : Int) < (k : Int)) = true := zc h6i
          have HON := zh (once_at HM7.out HP6.out HK.out HCM.out H100.out HGOOD.out)
          go_wp2_with fail
          refine HON.out.mono ?_
          rintro e wz ⟨rfl, hbl⟩
          have HBL := zh hbl
          clear hbl
          go_wp2_with fail
          go_ret
          exact ⟨rfl, HBL.out⟩
         ·have h6i : ¬ (600 : Int) < (k : Int) := by omega
          have d6 : decide ((600 : Int) < (k : Int)) = false := zb h6i
          go_wp2_with fail
          go_roundg (gk - 1)
          case measure => have := HKG.out; omega
          case rel => exact ⟨k + 1, by have := HKG.out; omega, by omega, by go_num, _, _, _, _, _, _, _, _, _, HM7.out, HP6.out⟩
       ·have e0 : (dd == 0) = false := by simpa using c0
        by_cases c1 : dd = 1
        ·subst c1
         cases hov : x.over with
         | true =>
          have HWO := want_over wc W.heap.size L [1, 2, 3] ks rs x op HM.out.cc hov
          rw [HP.out.lb] at HWO
          have HWO := zh HWO
          clear hov
          have hk6 : k ≤ 600 := HK6.out (by omega)
          go_wp2_with fail
          refine HWO.out.mono ?_
          rintro e wq ⟨rfl, hwq⟩
          replace hwq := hwq.symm
          subst hwq
          go_wp2_with fail
          go_roundg (gk - 1)
          case measure => have := HKG.out; omega
          case rel => exact ⟨k + 1, by have := HKG.out; omega, by omega, by go_num, _, _, _, _, _, _, _, _, _, HM.out, (HP.out.more (by omega))⟩
         | false =>
          have hwf := HP.out.sys.wf HN.out (by have := HP.out.gv; omega) HP.out.wt
          have hgo2 := HP.out.sys.go hov
          have hrl := map_len HP.out.rep
          have hkl : ks.length = cmds.length := by rw [← HKS.out, zB]
          have hk4 : ∀ m ∈ ks, m.b.length ≤ 4000 := fun m hm => H4.out _ (by rw [← HKS.out]; exact zQ.2 ⟨m, hm, rfl⟩)
          have HWN := want_c wc W.heap.size L [1, 2, 3] ks rs x op HM.out.cc hwf hov (by rw [hrl, hkl]; exact hgo2) hk4
          rw [HKS.out, hrl, reqC_cur HP.out.sys.ci, HP.out.lb] at HWN
          have HWN := zh HWN
          have HSW := zh (HP.out.sys.want hov)
          clear hwf hgo2 hrl hkl hk4 hov
          obtain ⟨ebs, hebs⟩ : ∃ z, z = encRq (rqCur cmds j x.num) := ⟨_, rfl⟩
          rw [← hebs] at HWN HSW
          clear hebs
          go_wp2_with fail
          refine HWN.out.mono ?_
          rintro e w4 ⟨v4, rfl, hs4, hc4, f4⟩
          obtain ⟨A4, c4, rfl, _⟩ := hs4.shape
          have HM4 := zh (HM.out.cli hc4 f4)
          have HE4 : Hid (bsE w4 ⟨A4, c4, ebs⟩) := zh (hs4.less (zF _))
          have HB4 : Hid (Blk w4 p 38 #[.int .i64 1, .int .i64 nn]) := zh (HB.out.frm f4 (fun s => by rcases cs_type HM.out.cc s HB.out with e | e <;> exact absurd e (by decide)))
          clear hs4 hc4 f4
          obtain ⟨nb, hnb⟩ : ∃ n, n = ebs.length := ⟨_, rfl⟩
          have HNB := zh hnb
          rw [← hnb]
          clear hnb
          have HSS : Hid (Sl (w4.alloc (.cells #[.int .i64 (3145728 + (x.gv : Int)), .slice A4 nb c4] 43)) W.heap.size 43 2 (.slice A7 nS c7) nS (sm.flatMap acel)) := zh (by have k1 := HM4.out.ss.alloc (.cells #[.int .i64 (3145728 + (x.gv : Int)), .slice A4 nb c4] 43); rw [← HNS.out] at k1; exact k1)
          have hBs : W.heap.size ≤ (w4.alloc (.cells #[.int .i64 (3145728 + (x.gv : Int)), .slice A4 nb c4] 43)).heap.size := by have h1 := HM4.out.b2; have h2 := HM4.out.bt; simp; omega
          have HMV := zh (HM4.out.fresh (jC w4 (.cells #[.int .i64 (3145728 + (x.gv : Int)), .slice A4 nb c4] 43)))
          have HBV := zh (HB4.out.frm (jC w4 (.cells #[.int .i64 (3145728 + (x.gv : Int)), .slice A4 nb c4] 43)) (fun f => f))
          have HEV := zh (HE4.out.fresh (jC w4 (.cells #[.int .i64 (3145728 + (x.gv : Int)), .slice A4 nb c4] 43)))
          have RV : Hid (Rd (w4.alloc (.cells #[.int .i64 (3145728 + (x.gv : Int)), .slice A4 nb c4] 43)) (w4.heap.size + 1) (some ⟨w4.heap.size, 0, none⟩) [.int .i64 (3145728 + (x.gv : Int)), .slice A4 nb c4]) := zh (jL w4 [.int .i64 (3145728 + (x.gv : Int)), .slice A4 nb c4] 43)
          have HONE : Hid (∀ u ∈ ([.int .i64 (3145728 + (x.gv : Int)), .slice A4 nb c4] : List Value), u.oneCell' = true) := zh (by intro u hu; simp at hu; rcases hu with rfl | rfl <;> rfl)
          go_upto_region 34 with (first | (at_builtin; refine jD _ rfl (.tmp 83) (.tmp 87) _ rfl W.heap.size 43 iS _ 2 32 Tryz.underlying35 hiS hzS0 hzS1 hzS2 rfl (by omega) (.slice A7 nS c7) nS (sm.flatMap acel) rfl HSS.out _ (some ⟨w4.heap.size, 0, none⟩) 1 1 [.int .i64 (3145728 + (x.gv : Int)), .slice A4 nb c4] rfl rfl RV.out HONE.out (by unfold maxLen; omega) (by omega) hBs ?_; intro v5 w5 hs5 hf5 _; have HM5 := zh (HMV.out.pushS (3145728 + (x.gv : Int), ⟨A4, c4, ebs⟩) HEV.out (v' := v5) (by rw [← HNS.out]; show Sl w5 W.heap.size 43 2 v5 (nS + 1) (sm.flatMap acel ++ [.int .i64 (3145728 + (x.gv : Int)), .slice A4 ebs.length c4]); rw [← HNB.out]; exact hs5) hf5); have HB5 := zh (HBV.out.frm hf5 (fun e => HSS.out.apart HBV.out (by decide) e)); have u0 : w5.cell? ⟨p, 0, none⟩ = some (.int .i64 1) := HB5.out.cell 0; have HSA : Hid (Sl (w5.alloc (.cells #[.int .i64 (3145728 + (x.gv : Int)), .int .i64 0, .int .i64 7, .slice none 0 0] 45)) W.heap.size 45 4 (.slice A8 nA c8) nA (am.flatMap ecel)) := zh (by have k1 := HM5.out.aa.alloc (.cells #[.int .i64 (3145728 + (x.gv : Int)), .int .i64 0, .int .i64 7, .slice none 0 0] 45); rw [← HNA.out] at k1; exact k1); have hBa : W.heap.size ≤ (w5.alloc (.cells #[.int .i64 (3145728 + (x.gv : Int)), .int .i64 0, .int .i64 7, .slice none 0 0] 45)).heap.size := (by have h1 := HM5.out.b2; have h2 := HM5.out.bt; simp; omega); have HMA := zh (HM5.out.fresh (jC w5 (.cells #[.int .i64 (3145728 + (x.gv : Int)), .int .i64 0, .int .i64 7, .slice none 0 0] 45))); have RA2 : Hid (Rd (w5.alloc (.cells #[.int .i64 (3145728 + (x.gv : Int)), .int .i64 0, .int .i64 7, .slice none 0 0] 45)) (w5.heap.size + 1) (some ⟨w5.heap.size, 0, none⟩) [.int .i64 (3145728 + (x.gv : Int)), .int .i64 0, .int .i64 7, .slice none 0 0]) := zh (jL w5 [.int .i64 (3145728 + (x.gv : Int)), .int .i64 0, .int .i64 7, .slice none 0 0] 45); have HONA : Hid (∀ u ∈ ([.int .i64 (3145728 + (x.gv : Int)), .int .i64 0, .int .i64 7, .slice none 0 0] : List Value), u.oneCell' = true) := zh (by intro u hu; simp at hu; rcases hu with rfl | rfl | rfl | rfl <;> rfl); clear hs5 hf5) | (at_builtin; refine jD _ rfl (.tmp 92) (.tmp 95) _ rfl W.heap.size 45 iD _ 4 48 Tryz.underlying36 hiD hzD0 hzD1 hzD2 rfl (by omega) (.slice A8 nA c8) nA (am.flatMap ecel) rfl HSA.out _ (some ⟨w5.heap.size, 0, none⟩) 1 1 [.int .i64 (3145728 + (x.gv : Int)), .int .i64 0, .int .i64 7, .slice none 0 0] rfl rfl RA2.out HONA.out (by unfold maxLen; omega) (by omega) hBa ?_; intro v6 w6 hs6 hf6 _; have HM6 := zh (HMA.out.pushA (3145728 + (x.gv : Int), 7, ⟨none, 0, []⟩) (Sl.nil _ _ _ _) (v' := v6) (by rw [← HNA.out]; exact hs6) hf6); clear hs6 hf6))
          have HP6 : Hid (OPl cmds b (k + 1) L rs j { x with gv := x.gv + 1 } ((3145728 + (x.gv : Int)) :: op) st bk (sm ++ [(3145728 + (x.gv : Int), ⟨A4, c4, ebs⟩)]) (am ++ [(3145728 + (x.gv : Int), 7, ⟨none, 0, []⟩)])) := zh ⟨HP.out.lb, by rw [zn, zn]; exact HSW.out.refuse _ ⟨by omega, by dsimp only; omega⟩, HP.out.rep, by have := HP.out.gv; dsimp only; omega, HP.out.wt, by have := HP.out.sl; rw [zg]; simp; omega, by have := HP.out.al; rw [zg]; simp; omega⟩
          by_cases h6 : 600 < k
          ·have h6i : (600 : Int) < (k : Int) := by omega
           have d6 : decide ((600 : Int) < (k : Int)) = true := zc h6i
           have HON := zh (once_at HM6.out HP6.out HK.out HCM.out H100.out HGOOD.out)
           go_wp2_with fail
           refine HON.out.mono ?_
           rintro e wz ⟨rfl, hbl⟩
           have HBL := zh hbl
           clear hbl
           go_wp2_with fail
           go_ret
           exact ⟨rfl, HBL.out⟩
          ·have h6i : ¬ (600 : Int) < (k : Int) := by omega
           have d6 : decide ((600 : Int) < (k : Int)) = false := zb h6i
           go_wp2_with fail
           go_roundg (gk - 1)
           case measure => have := HKG.out; omega
           case rel => exact ⟨k + 1, by have := HKG.out; omega, by omega, by go_num, _, _, _, _, _, _, _, _, _, HM6.out, HP6.out⟩
        ·have e1 : (dd == 1) = false := by simpa using c1
         by_cases c2 : dd = 2
         ·subst c2
          by_cases h0 : 0 ≤ nn
          ·obtain ⟨i, rfl⟩ := zA h0
           have h0d : decide ((0 : Int) ≤ (i : Int)) = true := zc h0
           by_cases h1 : i < am.length
           ·obtain ⟨bA, oA, hA8, _, hcells⟩ := rd_flat ecel 4 (fun _ => rfl) (by omega) (by have k1 := HM.out.aa; rw [HNA.out] at k1; exact k1.rd) h1
            have HAI := hear_any wc W.heap.size L [1, 2, 3] ks rs HM.out.cc HP.out.sys HN.out H4.out HKS.out HP.out.rep (by have := HP.out.gv; omega) HP.out.wt (by simp) (by intro z hz; simp at hz; omega) (aOf am[i]) (zQ.2 ⟨_, ze h1, rfl⟩) am[i].2.2.A am[i].2.2.c (HM.out.ab _ (ze h1))
            rw [HP.out.lb] at HAI
            replace HAI := zh HAI
            obtain ⟨zs, hzs⟩ : ∃ z, z = ecel am[i] := ⟨_, rfl⟩
            have HZI : Hid ((Tryz.prog.info? 45).map (·.size) = some zs.length) := zh (by rw [hzs]; kernel_rfl)
            have HZR : Hid (wc.rangeAt bA (oA + i * 4) zs) := zh (by intro jj u hu; rw [hzs] at hu; exact hcells jj u hu)
            have HZD : Hid (Calls Tryz.prog 10 #[.pointer (some ⟨b, 0, none⟩), .agg zs.toArray] wc fun e w' => (∃ bb, e = .returned (.bool bb)) ∧ HeardP wc W.heap.size L [1, 2, 3] ks rs cmds st bk (sm.map sOf) (am.map aOf) x.gv w') := zh (by rw [hzs]; exact HAI.out)
            have h1i : (i : Int) < (nA : Int) := by have := HNA.out; omega
            have h1n : i < nA := by omega
            have h1d : decide ((i : Int) < (nA : Int)) = true := zc h1i
            clear hcells HAI hzs h1
            subst hA8
            have y1 : wc.cell? ⟨p, 1, none⟩ = some (.int .i64 (i : Int)) := HB.out.cell 1
            go_wp2_with (with_reducible refine zM rfl 45 (.tmp 120) rfl bA (oA + i * 4) rfl zs _ HZR.out Tryz.underlying45 rfl HZI.out ?_)
            refine HZD.out.mono ?_
            rintro e w6 ⟨⟨bb, rfl⟩, L', rs', j', x', op', k1, k2, k3, k4, k5, k6, k7⟩
            have HM6 := zh (HM.out.cli k3 k7)
            have HP6 : Hid (OPl cmds b (k + 1) L' rs' j' x' op' st bk sm am) := zh ⟨k1.trans HP.out.lb, k4, k2, by rw [k5]; have := HP.out.gv; omega, k6, by have := HP.out.sl; omega, by have := HP.out.al; omega⟩
            clear k1 k2 k3 k4 k5 k6 k7
            by_cases h6 : 600 < k
            ·have h6i : (600 : Int) < (k : Int) := by omega
             have d6 : decide ((600 : Int) < (k : Int)) = true := zc h6i
             have HON := zh (once_at HM6.out HP6.out HK.out HCM.out H100.out HGOOD.out)
             go_wp2_with fail
             refine HON.out.mono ?_
             rintro e wz ⟨rfl, hbl⟩
             have HBL := zh hbl
             clear hbl
             go_wp2_with fail
             go_ret
             exact ⟨rfl, HBL.out⟩
            ·have h6i : ¬ (600 : Int) < (k : Int) := by omega
             have d6 : decide ((600 : Int) < (k : Int)) = false := zb h6i
             go_wp2_with fail
             go_roundg (gk - 1)
             case measure => have := HKG.out; omega
             case rel => exact ⟨k + 1, by have := HKG.out; omega, by omega, by go_num, _, _, _, _, _, _, _, _, _, HM6.out, HP6.out⟩
           ·have h1i : ¬ (i : Int) < (nA : Int) := by have := HNA.out; omega
            have h1n : ¬ i < nA := by omega
            have h1d : decide ((i : Int) < (nA : Int)) = false := zb h1i
            clear h1
            have y1 : wc.cell? ⟨p, 1, none⟩ = some (.int .i64 (i : Int)) := HB.out.cell 1
            have HP6 := zh (HP.out.more (Nat.le_succ k))
            by_cases h6 : 600 < k
            ·have h6i : (600 : Int) < (k : Int) := by omega
             have d6 : decide ((600 : Int) < (k : Int)) = true := zc h6i
             have HON := zh (once_at HM.out HP6.out HK.out HCM.out H100.out HGOOD.out)
             go_wp2_with fail
             refine HON.out.mono ?_
             rintro e wz ⟨rfl, hbl⟩
             have HBL := zh hbl
             clear hbl
             go_wp2_with fail
             go_ret
             exact ⟨rfl, HBL.out⟩
            ·have h6i : ¬ (600 : Int) < (k : Int) := by omega
             have d6 : decide ((600 : Int) < (k : Int)) = false := zb h6i
             go_wp2_with fail
             go_roundg (gk - 1)
             case measure => have := HKG.out; omega
             case rel => exact ⟨k + 1, by have := HKG.out; omega, by omega, by go_num, _, _, _, _, _, _, _, _, _, HM.out, HP6.out⟩
          ·have h0d : decide (0 ≤ nn) = false := zb h0
           have y1 : wc.cell? ⟨p, 1, none⟩ = some (.int .i64 nn) := HB.out.cell 1
           have HP6 := zh (HP.out.more (Nat.le_succ k))
           by_cases h6 : 600 < k
           ·have h6i : (600 : Int) < (k : Int) := by omega
            have d6 : decide ((600 : Int) < (k : Int)) = true := zc h6i
            have HON := zh (once_at HM.out HP6.out HK.out HCM.out H100.out HGOOD.out)
            go_wp2_with fail
            refine HON.out.mono ?_
            rintro e wz ⟨rfl, hbl⟩
            have HBL := zh hbl
            clear hbl
            go_wp2_with fail
            go_ret
            exact ⟨rfl, HBL.out⟩
           ·have h6i : ¬ (600 : Int) < (k : Int) := by omega
            have d6 : decide ((600 : Int) < (k : Int)) = false := zb h6i
            go_wp2_with fail
            go_roundg (gk - 1)
            case measure => have := HKG.out; omega
            case rel => exact ⟨k + 1, by have := HKG.out; omega, by omega, by go_num, _, _, _, _, _, _, _, _, _, HM.out, HP6.out⟩
         ·have e2 : (dd == 2) = false := by simpa using c2
          by_cases c3 : dd = 3
          ·subst c3
           have HTK := tick_c wc W.heap.size L [1, 2, 3] ks rs x op HM.out.cc HP.out.wt (by simp)
           rw [HP.out.lb] at HTK
           have HTK := zh HTK
           go_wp2_with fail
           refine HTK.out.mono ?_
           rintro e w6 ⟨rfl, hc6, f6⟩
           have HM6 := zh (HM.out.cli hc6 f6)
           have HP6 : Hid (OPl cmds b (k + 1) L rs j (tickC 3 x) op st bk sm am) := zh ⟨HP.out.lb, HP.out.sys.tick 3, HP.out.rep, by rw [tickC_gv]; have := HP.out.gv; omega, tickC_wt HP.out.wt, by have := HP.out.sl; omega, by have := HP.out.al; omega⟩
           clear hc6 f6
           by_cases h6 : 600 < k
           ·have h6i : (600 : Int) < (k : Int) := by omega
            have d6 : decide ((600 : Int) < (k : Int)) = true := zc h6i
            have HON := zh (once_at HM6.out HP6.out HK.out HCM.out H100.out HGOOD.out)
            go_wp2_with fail
            refine HON.out.mono ?_
            rintro e wz ⟨rfl, hbl⟩
            have HBL := zh hbl
            clear hbl
            go_wp2_with fail
            go_ret
            exact ⟨rfl, HBL.out⟩
           ·have h6i : ¬ (600 : Int) < (k : Int) := by omega
            have d6 : decide ((600 : Int) < (k : Int)) = false := zb h6i
            go_wp2_with fail
            go_roundg (gk - 1)
            case measure => have := HKG.out; omega
            case rel => exact ⟨k + 1, by have := HKG.out; omega, by omega, by go_num, _, _, _, _, _, _, _, _, _, HM6.out, HP6.out⟩
          ·have e3 : (dd == 3) = false := by simpa using c3
           by_cases c4 : dd = 4
           ·subst c4
            by_cases h0 : 0 ≤ nn
            ·obtain ⟨i, rfl⟩ := zA h0
             have h0d : decide ((0 : Int) ≤ (i : Int)) = true := zc h0
             by_cases h1 : i < sm.length
             ·obtain ⟨bS, oS, hA7, _, hcells⟩ := rd_flat acel 2 (fun _ => rfl) (by omega) (by have k1 := HM.out.ss; rw [HNS.out] at k1; exact k1.rd) h1
              have HMD := zh (HM.out.fresh (za _ wc).drew)
              have HAK := askT_any w wc.drew W.heap.size w2.heap.size t b [1, 2, 3] ks cmds k (.slice A7 nS c7) (.slice A8 nA c8) L rs j x op st bk sm am HMD.out HP.out HN.out H4.out sm[i] (ze h1)
              have HSC := zh (hcells 0 _ rfl)
              have HSC1 := zh (hcells 1 _ rfl)
              generalize sm[i] = s1 at HAK HSC HSC1
              obtain ⟨tok, mA, mc, mb⟩ := s1
              unfold BsM.v at HAK HSC1
              dsimp only at HAK HSC HSC1
              obtain ⟨nb, hnb⟩ : ∃ n, n = mb.length := ⟨_, rfl⟩
              rw [← hnb] at HAK HSC1
              clear hnb
              have HAK := zh HAK
              have h1i : (i : Int) < (nS : Int) := by have := HNS.out; omega
              have h1n : i < nS := by omega
              have h1d : decide ((i : Int) < (nS : Int)) = true := zc h1i
              subst hA7
              have HSB : Hid (∃ cs, Blk wc bS 43 cs) := zh (by obtain ⟨cs, hb, _⟩ := HM.out.ss.has (k := bS) rfl; exact ⟨cs, hb⟩)
              have HCS : Hid (∀ w', (∀ q t0 cs, (t0 = 38 ∨ t0 = 43) → Blk wc q t0 cs → Blk w' q t0 cs) → w'.cell? ⟨p, 1, none⟩ = some (.int .i64 (i : Int)) ∧ w'.cell? ⟨bS, oS + i * 2, none⟩ = some (.int .i64 tok) ∧ w'.cell? ⟨bS, oS + i * 2 + 1, none⟩ = some (.slice mA nb mc)) := zh fun w' F => by
               obtain ⟨cs, hb⟩ := HSB.out
               have hb' := F bS _ cs (.inr rfl) hb
               refine ⟨(F p _ _ (.inl rfl) HB.out).cell 1, ?_, ?_⟩
               ·rw [hb'.cell]; have := HSC.out; rw [hb.cell] at this; exact this
               ·rw [hb'.cell]; have := HSC1.out; rw [hb.cell] at this; exact this
              clear hcells h1
              have y1 : wc.cell? ⟨p, 1, none⟩ = some (.int .i64 (i : Int)) := HB.out.cell 1
              go_upto_region 33 with fail
              clear y1
              refine zj (S := (fun w' => w'.cell? ⟨p, 1, none⟩ = some (.int .i64 (i : Int)) ∧ w'.cell? ⟨bS, oS + i * 2, none⟩ = some (.int .i64 tok) ∧ w'.cell? ⟨bS, oS + i * 2 + 1, none⟩ = some (.slice mA nb mc))) (by kernel_rfl) (HCS.out _ (fun q t0 cs _ hb => hb)) (fun hHeld => ?_)
              iterate 14 ((first | refine ztn (v := ?_) (zo rfl) ?_ | refine ztz (v := ?_) (zo rfl) ?_); try simp only [Act.put, zT, zZ, zS])
              refine zr1 14 (zo rfl) (fun K hK => ?_)
              go_simp
              refine (HAK.out).mono ?_
              rintro e w6 ⟨A6, c6, n6, st6, bk6, bs6, rfl, hn6, he6, hm6, hft6, hp6⟩
              have HN6 := zh hn6
              have HM6 := zh hm6
              have HP6 := zh (hp6 (k + 1) (by omega) (by have := HP.out.al; omega))
              have HFT6 : Hid (∀ q t0 cs, (t0 = 38 ∨ t0 = 43) → Blk wc q t0 cs → Blk w6 q t0 cs) := zh fun q t0 cs ht hb => by
               rcases ht with rfl | rfl
               ·exact hft6.blk (show Blk wc.drew q _ cs from hb) (by decide)
               ·exact hft6.blk (show Blk wc.drew q _ cs from hb) (by decide)
              have HSA : Hid (Sl (w6.alloc (.cells #[.int .i64 tok, .int .i64 0, .int .i64 0, .slice A6 n6 c6] 45)) W.heap.size 45 4 (.slice A8 nA c8) nA (am.flatMap ecel)) := zh (by have k1 := HM6.out.aa.alloc (.cells #[.int .i64 tok, .int .i64 0, .int .i64 0, .slice A6 n6 c6] 45); rw [← HNA.out] at k1; exact k1)
              have hBa : W.heap.size ≤ (w6.alloc (.cells #[.int .i64 tok, .int .i64 0, .int .i64 0, .slice A6 n6 c6] 45)).heap.size := by have h1 := HM6.out.b2; have h2 := HM6.out.bt; simp; omega
              have HMA := zh (HM6.out.fresh (jC w6 (.cells #[.int .i64 tok, .int .i64 0, .int .i64 0, .slice A6 n6 c6] 45)))
              have HEA := zh (he6.fresh (jC w6 (.cells #[.int .i64 tok, .int .i64 0, .int .i64 0, .slice A6 n6 c6] 45)))
              have RA2 : Hid (Rd (w6.alloc (.cells #[.int .i64 tok, .int .i64 0, .int .i64 0, .slice A6 n6 c6] 45)) (w6.heap.size + 1) (some ⟨w6.heap.size, 0, none⟩) [.int .i64 tok, .int .i64 0, .int .i64 0, .slice A6 n6 c6]) := zh (jL w6 [.int .i64 tok, .int .i64 0, .int .i64 0, .slice A6 n6 c6] 45)
              have HONA : Hid (∀ u ∈ ([.int .i64 tok, .int .i64 0, .int .i64 0, .slice A6 n6 c6] : List Value), u.oneCell' = true) := zh (by intro u hu; simp at hu; rcases hu with rfl | rfl | rfl | rfl <;> rfl)
              have HFTA : Hid (∀ q t0 cs, (t0 = 38 ∨ t0 = 43) → Blk wc q t0 cs → Blk (w6.alloc (.cells #[.int .i64 tok, .int .i64 0, .int .i64 0, .slice A6 n6 c6] 45)) q t0 cs) := zh fun q t0 cs ht hb => (HFT6.out q t0 cs ht hb).frm (jC _ _) (fun f => f)
              clear hn6 he6 hm6 hft6 hp6
              refine hK.out _ _ (HCS.out _ HFT6.out) (fun hHeld => ?_)
              clear hK K
              try simp only [Act.put, zT, zZ, zS]
              refine zr1 15 (zo rfl) (fun K hK => ?_)
              go_simp
              refine hK.out _ _ (HCS.out _ HFTA.out) (fun hHeld => ?_)
              clear hK K
              try simp only [Act.put, zT, zZ, zS]
              refine zr1 16 (zo rfl) (fun K hK => ?_)
              refine jF (by rfl) (.tmp 139) (.tmp 154) _ (by rfl) W.heap.size 45 iD _ 4 48 Tryz.underlying36 hiD hzD0 hzD1 hzD2 rfl (by omega) (.slice A8 nA c8) nA (am.flatMap ecel) (by simp [Act.eval, Act.put]) HSA.out (w6.heap.size + 1) (some ⟨w6.heap.size, 0, none⟩) 1 1 [.int .i64 tok, .int .i64 0, .int .i64 0, .slice A6 n6 c6] (by simp [Act.eval, Act.put]) rfl RA2.out HONA.out (by unfold maxLen; omega) (by omega) hBa ?_
              intro v7 w7 hs7 hf7 _
              have HM7 := zh (HMA.out.pushA (tok, 0, ⟨A6, c6, bs6⟩) HEA.out (v' := v7) (by rw [← HNA.out]; show Sl w7 W.heap.size 45 4 v7 (nA + 1) (am.flatMap ecel ++ [.int .i64 tok, .int .i64 0, .int .i64 0, .slice A6 bs6.length c6]); rw [← HN6.out]; exact hs7) hf7)
              have HFT7 : Hid (∀ q t0 cs, (t0 = 38 ∨ t0 = 43) → Blk wc q t0 cs → Blk w7 q t0 cs) := zh fun q t0 cs ht hb => (HFTA.out q t0 cs ht hb).frm hf7 (fun e => HSA.out.apart (HFTA.out q t0 cs ht hb) (by rcases ht with rfl | rfl <;> decide) e)
              clear hs7 hf7
              refine hK.out _ _ (HCS.out _ HFT7.out) (fun hHeld => ?_)
              clear hK K
              try simp only [Act.put, zT, zZ, zS]
              (refine ztn (v := ?_) (zo rfl) ?_; try simp only [Act.put, zT, zZ, zS])
              refine wpAnyH_done (by kernel_rfl) ?_ _
              by_cases h6 : 600 < k
              ·have h6i : (600 : Int) < (k : Int) := by omega
               have d6 : decide ((600 : Int) < (k : Int)) = true := zc h6i
               have HON := zh (once_at HM7.out HP6.out HK.out HCM.out H100.out HGOOD.out)
               go_wp2_with fail
               refine HON.out.mono ?_
               rintro e wz ⟨rfl, hbl⟩
               have HBL := zh hbl
               clear hbl
               go_wp2_with fail
               go_ret
               exact ⟨rfl, HBL.out⟩
              ·have h6i : ¬ (600 : Int) < (k : Int) := by omega
               have d6 : decide ((600 : Int) < (k : Int)) = false := zb h6i
               go_wp2_with fail
               go_roundg (gk - 1)
               case measure => have := HKG.out; omega
               case rel => exact ⟨k + 1, by have := HKG.out; omega, by omega, by go_num, _, _, _, _, _, _, _, _, _, HM7.out, HP6.out⟩
             ·have h1i : ¬ (i : Int) < (nS : Int) := by have := HNS.out; omega
              have h1n : ¬ i < nS := by omega
              have h1d : decide ((i : Int) < (nS : Int)) = false := zb h1i
              clear h1
              have y1 : wc.cell? ⟨p, 1, none⟩ = some (.int .i64 (i : Int)) := HB.out.cell 1
              have HP6 := zh (HP.out.more (Nat.le_succ k))
              by_cases h6 : 600 < k
              ·have h6i : (600 : Int) < (k : Int) := by omega
               have d6 : decide ((600 : Int) < (k : Int)) = true := zc h6i
               have HON := zh (once_at HM.out HP6.out HK.out HCM.out H100.out HGOOD.out)
               go_wp2_with fail
               refine HON.out.mono ?_
               rintro e wz ⟨rfl, hbl⟩
               have HBL := zh hbl
               clear hbl
               go_wp2_with fail
               go_ret
               exact ⟨rfl, HBL.out⟩
              ·have h6i : ¬ (600 : Int) < (k : Int) := by omega
               have d6 : decide ((600 : Int) < (k : Int)) = false := zb h6i
               go_wp2_with fail
               go_roundg (gk - 1)
               case measure => have := HKG.out; omega
               case rel => exact ⟨k + 1, by have := HKG.out; omega, by omega, by go_num, _, _, _, _, _, _, _, _, _, HM.out, HP6.out⟩
            ·have h0d : decide (0 ≤ nn) = false := zb h0
             have y1 : wc.cell? ⟨p, 1, none⟩ = some (.int .i64 nn) := HB.out.cell 1
             have HP6 := zh (HP.out.more (Nat.le_succ k))
             by_cases h6 : 600 < k
             ·have h6i : (600 : Int) < (k : Int) := by omega
              have d6 : decide ((600 : Int) < (k : Int)) = true := zc h6i
              have HON := zh (once_at HM.out HP6.out HK.out HCM.out H100.out HGOOD.out)
              go_wp2_with fail
              refine HON.out.mono ?_
              rintro e wz ⟨rfl, hbl⟩
              have HBL := zh hbl
              clear hbl
              go_wp2_with fail
              go_ret
              exact ⟨rfl, HBL.out⟩
             ·have h6i : ¬ (600 : Int) < (k : Int) := by omega
              have d6 : decide ((600 : Int) < (k : Int)) = false := zb h6i
              go_wp2_with fail
              go_roundg (gk - 1)
              case measure => have := HKG.out; omega
              case rel => exact ⟨k + 1, by have := HKG.out; omega, by omega, by go_num, _, _, _, _, _, _, _, _, _, HM.out, HP6.out⟩
           ·have e4 : (dd == 4) = false := by simpa using c4
            have HP6 := zh (HP.out.more (Nat.le_succ k))
            by_cases h6 : 600 < k
            ·have h6i : (600 : Int) < (k : Int) := by omega
             have d6 : decide ((600 : Int) < (k : Int)) = true := zc h6i
             have HON := zh (once_at HM.out HP6.out HK.out HCM.out H100.out HGOOD.out)
             go_wp2_with fail
             refine HON.out.mono ?_
             rintro e wz ⟨rfl, hbl⟩
             have HBL := zh hbl
             clear hbl
             go_wp2_with fail
             go_ret
             exact ⟨rfl, HBL.out⟩
            ·have h6i : ¬ (600 : Int) < (k : Int) := by omega
             have d6 : decide ((600 : Int) < (k : Int)) = false := zb h6i
             go_wp2_with fail
             go_roundg (gk - 1)
             case measure => have := HKG.out; omega
             case rel => exact ⟨k + 1, by have := HKG.out; omega, by omega, by go_num, _, _, _, _, _, _, _, _, _, HM.out, HP6.out⟩
    ·have hlti : ¬ (k : Int) < (evs.length : Int) + 200 := by omega
     have dlt : decide ((k : Int) < (evs.length : Int) + 200) = false := zb hlti
     have HON := zh (once_at HM0.out HP.out HK.out HCM.out H100.out HGOOD.out)
     go_wp2_with fail
     refine HON.out.mono ?_
     rintro e wz ⟨rfl, hbl⟩
     have HBL := zh hbl
     clear hbl
     go_wp2_with fail
     go_ret
     exact ⟨rfl, HBL.out⟩
theorem clientOnce_run (w : World) (a0 : Option Addr × Nat × List (Option Addr × Nat × List Int)) (o0 : IsL w 24 (fun s => [sv s]) (IsL w 1 u8f u8q) a0)
 (a1 : Option Addr × Nat × List (Int × Int)) (o1 : IsL w 16 (fun a => ([.int .i64 a.1] : List Value) ++ [.int .i64 a.2]) (fun a => (Lit.int .i64 a.1).wf = true ∧ (Lit.int .i64 a.2).wf = true) a1) :
 Calls Tryz.prog 3 #[sv a0, sv a1] w fun e w' => e = .returned (.bool true) ∧ Below w.heap.size w w' := by
 obtain ⟨l, e0, hb⟩ := to_bss o0
 rw [e0]
 have r0 := o0.reach
 have r1 := o1.reach
 unfold reachBytes at r0 r1
 have l1 := o1.le
 have lb := hb.le
 exact clientOnce_walk w a0.1 a0.2.1 l hb (by omega) a1.1 a1.2.1 a1.2.2 o1.rd (by omega)
end
end Go.Proofs.YtnmokpbomeamfaaGreat

/- Proved here, for the statement TopFairCardSaid: laws that its walk leans on. It holds with no condition. (Put together and shortened by a program out of many texts: To65, To66.) -/
import Derived.Test.YtbeaoddjomdlcaaGreatDoorZ44
import Derived.Test.YtbeaoddjomdlcaaGreatDoorZ47
set_option linter.unusedVariables false
set_option linter.unusedSimpArgs false
set_option maxRecDepth 100000
set_option maxHeartbeats 64000000
namespace Go.Proofs.YtbeaoddjomdlcaaGreatDoor
section
open Go.RowKit
open QueueM (Wt)
def LoadPost (w : World) (bs : List UInt8) (e : Ending) (w' : World) : Prop :=
  Fresh w w' ∧ (e = .returned (.tuple #[.pointer none, .int .i64 6]) ∨ ∃ (b : Nat) (M : BkD) (z : RS), e = .returned (.tuple #[.pointer (some ⟨b, 0, none⟩), .int .i64 0]) ∧ BookAt w' w.heap.size b M ∧ M.fs.length ≤ 8 ∧
    (loadQ (rdn 8 (rdn 28629151 (rdn 1099511627776 (bs, false)).2).2).1 (rdn 8 (rdn 28629151 (rdn 1099511627776 (bs, false)).2).2).2 = some (M.fs.map PlD.ws, z)) ∧ ∀ p ∈ M.fs, p.ws.length ≤ 200)
theorem load_any (w : World) (A : Option Addr) (cap : Nat) (bs : List UInt8) (hA : Rd w w.heap.size A (bs.map bv)) (hl : bs.length ≤ 140737488355328) (hc : bs.length ≤ cap) (hm : cap ≤ maxLen) :
    Calls Tryz.prog 17 #[.slice A bs.length cap] w fun e w' => LoadPost w bs e w' := by
  obtain ⟨ip, hip, hp0', hp1', hp2'⟩ := info_parts info_pl
  obtain ⟨ib, hib, hb0', hb1', hb2'⟩ := info_parts info_bk
  obtain ⟨W, hW⟩ : ∃ W, w.alloc (.cells #[.slice A bs.length cap, .int .i64 0, .bool false] 104) = W := ⟨_, rfl⟩
  have HF0 : Hid (Fresh w W) := zh (by rw [← hW]; exact (Frm.refl _ w).alloc _)
  have HWS : Hid (W.heap.size = w.heap.size + 1) := zh (by rw [← hW]; exact Array.size_push _)
  have HD0 : Hid (DocAt W w.heap.size w.heap.size (bs, false)) := zh ⟨bs, 0, ⟨A, cap, by rw [← hW]; exact Blk.new w _ _, hA.fresh (Nat.le_refl _) HF0.out, hc, hm, Nat.le_refl _⟩, by omega, hl, fun _ => by simp⟩
  clear hA
  go_in
  go_upto_region 2 with fail
  try rw [hW]
  clear hW
  have HN1 := zh (dNum W w.heap.size w.heap.size (bs, false) 1099511627776 HD0.out)
  have hb1 := rdn_le 1099511627776 (bs, false)
  obtain ⟨s1, hs1⟩ : ∃ z, (rdn 1099511627776 (bs, false)).2 = z := ⟨_, rfl⟩
  obtain ⟨x1, hx1⟩ : ∃ z, (rdn 1099511627776 (bs, false)).1 = z := ⟨_, rfl⟩
  have HSX1 : Hid ((rdn 1099511627776 (bs, false)).2 = s1 ∧ (rdn 1099511627776 (bs, false)).1 = x1) := zh ⟨hs1, hx1⟩
  rw [hx1] at hb1 HN1
  rw [hs1] at HN1
  have hw1 : IntKind.i64.wrap (x1 : Int) = (x1 : Int) := IntWalk.i64_in _ (by omega)
  clear hs1 hx1
  go_wp2_with fail
  refine HN1.out.mono ?_
  rintro e w1 ⟨rfl, hd, f⟩
  have HD1 := zh hd
  have HF1 : Hid (Fresh w w1) := zh (HF0.out.trans' f (fun k hk e => by omega))
  clear hd f HN1
  have HN2 := zh (dNum w1 w.heap.size w.heap.size s1 28629151 HD1.out)
  have hb2 := rdn_le 28629151 s1
  obtain ⟨s2, hs2⟩ : ∃ z, (rdn 28629151 s1).2 = z := ⟨_, rfl⟩
  obtain ⟨x2, hx2⟩ : ∃ z, (rdn 28629151 s1).1 = z := ⟨_, rfl⟩
  have HSX2 : Hid ((rdn 28629151 s1).2 = s2 ∧ (rdn 28629151 s1).1 = x2) := zh ⟨hs2, hx2⟩
  rw [hx2] at hb2 HN2
  rw [hs2] at HN2
  have hw2 : IntKind.i64.wrap (x2 : Int) = (x2 : Int) := IntWalk.i64_in _ (by omega)
  clear hs2 hx2
  go_wp2_with fail
  refine HN2.out.mono ?_
  rintro e w2 ⟨rfl, hd, f⟩
  have HD2 := zh hd
  have HF2 : Hid (Fresh w w2) := zh (HF1.out.trans' f (fun k hk e => by omega))
  clear hd f HN2
  obtain ⟨V2, hV2⟩ : ∃ V2, w2.alloc (.cells #[.int .i64 (x1 : Int), .int .i64 (x2 : Int), .slice none 0 0, .slice none 0 0] 61) = V2 := ⟨_, rfl⟩
  have HFa : Hid (Fresh w V2) := zh (by rw [← hV2]; exact HF2.out.alloc _)
  have HDa : Hid (DocAt V2 w.heap.size w.heap.size s2) := zh (by rw [← hV2]; exact HD2.out.fresh ((Frm.refl _ _).alloc _))
  have HGE : Hid (w.heap.size ≤ w2.heap.size) := zh HF2.out.size
  have hbk : Blk V2 w2.heap.size 61 #[.int .i64 (x1 : Int), .int .i64 (x2 : Int), .slice none 0 0, .slice none 0 0] := by rw [← hV2]; exact Blk.new _ _ _
  have HBKa : Hid (BookAt V2 w.heap.size w2.heap.size ⟨(x1 : Int), (x2 : Int), none, 0, [], none, 0, []⟩) := zh ⟨hbk, HGE.out, Sl.nil _ _ _ _, Sl.nil _ _ _ _, (fun p hp => by cases hp), (fun p hp => by cases hp)⟩
  have HV2 := zh hV2
  clear HD2 HF2 hbk hV2
  go_upto_region 3 with fail
  try rw [HV2.out]
  clear HV2
  obtain ⟨b, hb⟩ : ∃ b, w2.heap.size = b := ⟨_, rfl⟩
  rw [hb] at HGE HBKa ⊢
  clear hb
  have HD2 := HDa
  have HF2 := HFa
  have HBK2 := HBKa
  clear HDa HFa HBKa
  have HN3 := zh (dNum V2 w.heap.size w.heap.size s2 8 HD2.out)
  have hb3 := rdn_le 8 s2
  obtain ⟨s3, hs3⟩ : ∃ z, (rdn 8 s2).2 = z := ⟨_, rfl⟩
  obtain ⟨x3, hx3⟩ : ∃ z, (rdn 8 s2).1 = z := ⟨_, rfl⟩
  have HSX3 : Hid ((rdn 8 s2).2 = s3 ∧ (rdn 8 s2).1 = x3) := zh ⟨hs3, hx3⟩
  rw [hx3] at hb3 HN3
  rw [hs3] at HN3
  have hw3 : IntKind.i64.wrap (x3 : Int) = (x3 : Int) := IntWalk.i64_in _ (by omega)
  clear hs3 hx3
  go_wp2_with fail
  refine HN3.out.mono ?_
  rintro e w3 ⟨rfl, hd, f⟩
  have HD3 := zh hd
  have HF3 : Hid (Fresh w w3) := zh (HF2.out.trans' f (fun k hk e => by omega))
  have HBK3 := zh (HBK2.out.rdr HD2.out.blk.choose_spec f)
  clear hd f HN3
  have HQN : Hid ((rdn 8 (rdn 28629151 (rdn 1099511627776 (bs, false)).2).2).1 = x3 ∧ (rdn 8 (rdn 28629151 (rdn 1099511627776 (bs, false)).2).2).2 = s3) := zh (by
    rw [HSX1.out.1, HSX2.out.1]
    exact ⟨HSX3.out.2, HSX3.out.1⟩)
  obtain ⟨now, hnow⟩ : ∃ now : Int, (x1 : Int) = now := ⟨_, rfl⟩
  obtain ⟨nxt, hnxt⟩ : ∃ nxt : Int, (x2 : Int) = nxt := ⟨_, rfl⟩
  try dsimp only at HBK3
  rw [hnow, hnxt] at HBK3
  rw [hnow, hnxt]
  clear hnow hnxt HD2 HF2 HBK2 hw1 hw2 hw3 HD0 HF0 HD1 HF1 hb1 hb2 HSX1 HSX2 HSX3
  have hx8 : x3 ≤ 8 := hb3
  clear hb3
  go_wp2_with fail
  go_loopw [7] (fun v7 wr => ∃ (i : Nat) (z : RS) (FA : Option Addr) (fc : Nat) (fs : List PlD), i ≤ x3 ∧ v7 = .int .u64 (i : Int) ∧ BookAt wr w.heap.size b ⟨now, nxt, FA, fc, fs, none, 0, []⟩ ∧ fs.length = i ∧ loadQ i s3 = some (fs.map PlD.ws, z) ∧ (∀ p ∈ fs, p.m.hs.length ≤ 600 ∧ p.ws.length ≤ 200) ∧ DocAt wr w.heap.size w.heap.size z ∧ Fresh w wr) (fun v7 _ => x3 - (RowKit.intOf v7).toNat)
  case atStart => exact ⟨0, s3, none, 0, [], by omega, rfl, HBK3.out, rfl, rfl, (fun p hp => by cases hp), HD3.out, HF3.out⟩
  case round =>
    clear HD3 HF3 HBK3
    obtain ⟨i, s3', FA, fc, fs, hin, rfl, hbk, hfl, hlq, hsz, hd, hf⟩ := hrel
    have HD3 := zh hd
    have HF3 := zh hf
    have HBK3 := zh hbk
    have HLQ := zh hlq
    have HSZ := zh hsz
    have HFLN : Hid (fs.length = i ∧ i ≤ x3) := zh ⟨hfl, hin⟩
    have hi0 : (0 : Int) ≤ (i : Int) := by omega
    clear hbk hfl hlq hsz hd hf
    by_cases hlt : i < x3
    · have hlti : (i : Int) < (x3 : Int) := by omega
      have HT1 := zh (dText wr w.heap.size w.heap.size s3' 65536 (by omega) HD3.out)
      have hl1 := rdt_le (most := 65536) (by omega) s3'
      obtain ⟨s4, hs4⟩ : ∃ z, (rdt 65536 s3').2 = z := ⟨_, rfl⟩
      obtain ⟨tx, htx⟩ : ∃ z, (rdt 65536 s3').1 = z := ⟨_, rfl⟩
      rw [htx] at hl1 HT1
      rw [hs4] at HT1
      have HS4 := zh hs4
      clear hs4 htx
      go_wp2_with fail
      refine HT1.out.mono ?_
      rintro e w4 ⟨v4, rfl, ht4, hd4, f4⟩
      obtain ⟨A4, c4, rfl, hle4, hm4, _⟩ := ht4.shape
      have HD4 := zh hd4
      have HF4 : Hid (Fresh w w4) := zh (HF3.out.trans' f4 (fun k hk e => by omega))
      have HBK4 := zh (HBK3.out.rdr HD3.out.blk.choose_spec f4)
      have HDE := zh (decode15_any w4 A4 c4 tx ht4.rd (by omega) hle4 hm4)
      clear ht4 hd4 f4 HT1 hle4 hm4 HD3 HBK3
      go_wp2_with fail
      refine HDE.out.mono ?_
      rintro e w5 ⟨f5, h5⟩
      have HF5 := zh (HF4.out.trans f5)
      have HD5 := zh (HD4.out.fresh f5)
      have HBK5 := zh (HBK4.out.fresh f5)
      have h5' : ∃ (fv : Value) (k5 : Int), e = .returned (.tuple #[fv, .int .i64 k5]) ∧ (k5 = 0 → ∃ f m, fv = .pointer (some ⟨f, 0, none⟩) ∧ FlAt w5 w4.heap.size f m ∧ DocFl m ∧ w4.heap.size ≤ f) := by
        rcases h5 with h5 | ⟨f, m, h5, h6, h7, h8⟩
        · exact ⟨_, 6, h5, fun h => by cases h⟩
        · exact ⟨_, 0, h5, fun _ => ⟨f, m, rfl, h6, h7, h8⟩⟩
      obtain ⟨fv, k5, rfl, hk5⟩ := h5'
      have HK5 := zh hk5
      clear h5 hk5 f5 HDE
      have HT2 := zh (dText w5 w.heap.size w.heap.size s4 65536 (by omega) HD5.out)
      have hl2 := rdt_le (most := 65536) (by omega) s4
      obtain ⟨s5, hs5⟩ : ∃ z, (rdt 65536 s4).2 = z := ⟨_, rfl⟩
      obtain ⟨ty, hty⟩ : ∃ z, (rdt 65536 s4).1 = z := ⟨_, rfl⟩
      rw [hty] at hl2 HT2
      rw [hs5] at HT2
      have HS5 := zh (And.intro hs5 hty)
      clear hs5 hty
      go_wp2_with fail
      refine HT2.out.mono ?_
      rintro e w6 ⟨v6, rfl, ht6, hd6, f6⟩
      obtain ⟨A6, c6, rfl, hle6, hm6, _⟩ := ht6.shape
      have HD6 := zh hd6
      have HF6 : Hid (Fresh w w6) := zh (HF5.out.trans' f6 (fun k hk e => by omega))
      have HBK6 := zh (HBK5.out.rdr HD5.out.blk.choose_spec f6)
      have HK6 : Hid (k5 = 0 → ∃ f m, fv = .pointer (some ⟨f, 0, none⟩) ∧ FlAt w6 w.heap.size f m ∧ DocFl m ∧ w.heap.size ≤ f) := zh (fun hk => by
        obtain ⟨f, m, e1, e2, e3, e4⟩ := HK5.out hk
        have e5 := e2.rdr HD5.out.blk.choose_spec f6
        exact ⟨f, m, e1, ⟨e5.blk, e5.gsl.less HF4.out.size, e5.lsl.less HF4.out.size, e5.hsl.less HF4.out.size, fun x hx => (e5.ssl x hx).less HF4.out.size⟩, e3, Nat.le_trans HF4.out.size e4⟩)
      have HDQ := zh (refDecode_any w6 A6 c6 ty ht6.rd (by omega) hle6 hm6)
      clear ht6 hd6 f6 HT2 hle6 hm6 HD5 HBK5 HK5 HF5 HD4 HBK4 HF4 HF3
      go_wp2_with fail
      refine HDQ.out.mono ?_
      rintro e w7 h7
      have h7' : ∃ (qv : Value) (k7 : Int), e = .returned (.tuple #[qv, .int .i64 k7]) ∧ Fresh w6 w7 ∧ (k7 = 0 → ∃ q u ws, qv = .pointer (some ⟨q, 0, none⟩) ∧ QueueM.decR ty = some ws ∧ IsR w7 w6.heap.size q u ws) := by
        unfold RefDecPost at h7
        cases hdr : QueueM.decR ty with
        | none => rw [hdr] at h7; exact ⟨_, 6, h7.1, h7.2, fun h => by cases h⟩
        | some l =>
          rw [hdr] at h7
          obtain ⟨c, u, e1, e2, e3⟩ := h7
          exact ⟨_, 0, e1, e3, fun _ => ⟨c, u, l, rfl, rfl, e2⟩⟩
      obtain ⟨qv, k7, rfl, f7, hk7⟩ := h7'
      have HF7 := zh (HF6.out.trans f7)
      have HD7 := zh (HD6.out.fresh f7)
      have HBK7 := zh (HBK6.out.fresh f7)
      have HK7 : Hid (k7 = 0 → ∃ q u ws, qv = .pointer (some ⟨q, 0, none⟩) ∧ QueueM.decR ty = some ws ∧ IsR w7 w.heap.size q u ws ∧ ws.length ≤ 200) := zh (fun hk => by
        obtain ⟨q, u, ws, e1, e2, e3⟩ := hk7 hk
        exact ⟨q, u, ws, e1, e2, ⟨e3.blk, Nat.le_trans HF6.out.size e3.ge, e3.sl.less HF6.out.size⟩, (QueueM.decR_inv e2).1.few⟩)
      have HK8 : Hid (k5 = 0 → ∃ f m, fv = .pointer (some ⟨f, 0, none⟩) ∧ FlAt w7 w.heap.size f m ∧ DocFl m ∧ w.heap.size ≤ f) := zh (fun hk => by
        obtain ⟨f, m, e1, e2, e3⟩ := HK6.out hk
        exact ⟨f, m, e1, e2.fresh f7, e3⟩)
      have c2 : w7.cell? ⟨w.heap.size, 2, none⟩ = some (.bool s5.2) := HD7.out.am
      clear h7 hk7 f7 HDQ HK6 HBK6 HD6 HF6
      obtain ⟨am, ham⟩ : ∃ am, s5.2 = am := ⟨_, rfl⟩
      rw [ham] at c2
      have HAM := zh ham
      clear ham
      cases am with
      | true =>
        go_wp2_with fail
        go_ret2
        exact ⟨HF7.out, .inl rfl⟩
      | false =>
        by_cases hk5 : k5 = 0
        rotate_left 1
        · have d1 : (k5 != 0) = true := by simpa using hk5
          have d1' : decide (k5 = 0) = false := decide_eq_false hk5
          go_wp2_with fail
          go_ret2
          exact ⟨HF7.out, .inl rfl⟩
        obtain ⟨f, m, rfl, hfm, hdf, hfg⟩ := HK8.out hk5
        subst hk5
        by_cases hk7 : k7 = 0
        rotate_left 1
        · have d1 : (k7 != 0) = true := by simpa using hk7
          have d1' : decide (k7 = 0) = false := decide_eq_false hk7
          clear hfm hdf hfg
          go_wp2_with fail
          go_ret2
          exact ⟨HF7.out, .inl rfl⟩
        obtain ⟨q, u, ws, rfl, hdr, hqr, hws⟩ := HK7.out hk7
        subst hk7
        have HP := zh (And.intro hfm (And.intro hdf (And.intro hfg (And.intro hqr (And.intro hdr hws)))))
        have hh6 := hdf.hs
        have HH6 := zh hh6
        clear hfm hdf hfg hqr hdr hws HK8 HK7 hh6
        have y2 : w7.cell? ⟨b, 2, none⟩ = some (.slice FA fs.length fc) := HBK7.out.blk.cell 2
        have hfl9 : fs.length ≤ 8 := by have := HFLN.out; omega
        have HSA : Hid (Sl (w7.alloc (.cells #[.pointer (some ⟨f, 0, none⟩), .pointer (some ⟨q, 0, none⟩)] 67)) w.heap.size 67 2 (.slice FA fs.length fc) fs.length (fs.flatMap pcel)) := zh (HBK7.out.fsl.fresh ((Frm.refl _ _).alloc _))
        have HRA : Hid (Rd (w7.alloc (.cells #[.pointer (some ⟨f, 0, none⟩), .pointer (some ⟨q, 0, none⟩)] 67)) (w7.heap.size + 1) (some ⟨w7.heap.size, 0, none⟩) [.pointer (some ⟨f, 0, none⟩), .pointer (some ⟨q, 0, none⟩)]) := zh (rd_new w7 _ _)
        have HSZA : Hid (w.heap.size ≤ (w7.alloc (.cells #[.pointer (some ⟨f, 0, none⟩), .pointer (some ⟨q, 0, none⟩)] 67)).heap.size) := zh (HF7.out.alloc (.cells #[.pointer (some ⟨f, 0, none⟩), .pointer (some ⟨q, 0, none⟩)] 67)).size
        go_wp2_with (at_builtin; refine wpList_append_sl _ rfl (.tmp 62) (.tmp 66) _ rfl w.heap.size 67 ip _ 2 16 Tryz.underlying58 hip hp0' hp1' hp2' rfl (by omega) _ fs.length _ rfl HSA.out _ _ 1 _ _ rfl (by rfl) HRA.out (by intro u hu; simp at hu; rcases hu with rfl | rfl <;> rfl) (by unfold maxLen; omega) (by omega) HSZA.out ?_; intro v8 w8 hs8 hf8 ha8; have HS8 := zh hs8; have HF8 := zh hf8; clear hs8 hf8 ha8; obtain ⟨A8, c8, rfl, _⟩ := HS8.out.shape; have g8 : w8.cell? ⟨b, 2, none⟩ = some (.slice FA fs.length fc) := ((HBK7.out.fresh ((Frm.refl _ _).alloc _)).blk.frm HF8.out (HSA.out.apart (HBK7.out.fresh ((Frm.refl _ _).alloc _)).blk (by decide))).cell 2; have g8' : w8.frozen? ⟨b, 2, none⟩ = false := ((HBK7.out.fresh ((Frm.refl _ _).alloc _)).blk.frm HF8.out (HSA.out.apart (HBK7.out.fresh ((Frm.refl _ _).alloc _)).blk (by decide))).frozen _)
        have hal : Fresh w7 (w7.alloc (.cells #[.pointer (some ⟨f, 0, none⟩), .pointer (some ⟨q, 0, none⟩)] 67)) := (Frm.refl _ _).alloc _
        have hb9 := (HBK7.out.fresh hal).addPl ⟨f, m, q, u, ws⟩ (HP.out.1.fresh hal) HP.out.2.2.1 (HP.out.2.2.2.1.frm hal (fun f => f) (fun _ _ f => f)) HS8.out HF8.out
        have hd8 := (HD7.out.fresh hal).frm HF8.out (fun e => by obtain ⟨cs, hc⟩ := (HD7.out.fresh hal).blk; exact HSA.out.apart hc (by decide) e) (fun k hk e => by have := (HSA.out.lt k e).1; omega)
        have hbb := (HBK7.out.fresh hal).blk.frm HF8.out (HSA.out.apart (HBK7.out.fresh hal).blk (by decide))
        have G9 : Frm (fun k => k = b) w8 (w8.setCell ⟨b, 2, none⟩ (.slice A8 (fs.length + 1) c8)) := (Frm.refl (fun k => k = b) w8).setCell (p := ⟨b, 2, none⟩) (fun _ => rfl) _
        have HFIN : Hid (BookAt (w8.setCell ⟨b, 2, none⟩ (.slice A8 (fs.length + 1) c8)) w.heap.size b ⟨now, nxt, A8, c8, fs ++ [⟨f, m, q, u, ws⟩], none, 0, []⟩ ∧ (fs ++ [(⟨f, m, q, u, ws⟩ : PlD)]).length = i + 1 ∧ loadQ (i + 1) s3 = some ((fs ++ [(⟨f, m, q, u, ws⟩ : PlD)]).map PlD.ws, s5) ∧ (∀ p ∈ fs ++ [(⟨f, m, q, u, ws⟩ : PlD)], p.m.hs.length ≤ 600 ∧ p.ws.length ≤ 200) ∧ DocAt (w8.setCell ⟨b, 2, none⟩ (.slice A8 (fs.length + 1) c8)) w.heap.size w.heap.size s5 ∧ Fresh w (w8.setCell ⟨b, 2, none⟩ (.slice A8 (fs.length + 1) c8))) := zh (by
          refine ⟨hb9, by simp [HFLN.out.1], ?_, fun p hp => ?_, hd8.frm G9 (fun e => by obtain ⟨cs, hc⟩ := hd8.blk; exact hc.apart hbb (by decide) e) (fun k hk e => by have := HGE.out; omega), ((HF7.out.trans hal).trans' HF8.out (fun k hk e => by have := (HSA.out.lt k e).1; omega)).trans' G9 (fun k hk e => by have := HGE.out; omega)⟩
          · have := loadQ_snoc i s3 _ s3' ws HLQ.out (by rw [HS4.out, HS5.out.1]; exact HAM.out) (by rw [HS4.out, HS5.out.2]; exact HP.out.2.2.2.2.1)
            rw [HS4.out, HS5.out.1] at this
            rw [List.map_append]
            exact this
          · rcases List.mem_append.1 hp with hp | hp
            · exact HSZ.out p hp
            · rw [List.mem_singleton] at hp; rw [hp]; exact ⟨HH6.out, HP.out.2.2.2.2.2⟩)
        clear hb9 hd8 hbb G9 hal
        go_wp2_with fail
        go_roundw
        case rel => first | exact ⟨i + 1, s5, A8, c8, _, by omega, by go_num, HFIN.out.1, HFIN.out.2.1, HFIN.out.2.2.1, HFIN.out.2.2.2.1, HFIN.out.2.2.2.2.1, HFIN.out.2.2.2.2.2⟩ | trace_state
        case measure => simp [RowKit.intOf]; omega
    · have hlti : ¬ (i : Int) < (x3 : Int) := by omega
      have HIE : Hid (i = x3) := zh (by omega)
      obtain ⟨V3, hV3⟩ : ∃ V3, wr = V3 := ⟨_, rfl⟩
      rw [hV3] at HD3 HF3 HBK3 ⊢
      clear hV3
      have HN4 := zh (dNum V3 w.heap.size w.heap.size s3' 300 HD3.out)
      have hb4 := rdn_le 300 s3'
      obtain ⟨s4, hs4⟩ : ∃ z, (rdn 300 s3').2 = z := ⟨_, rfl⟩
      obtain ⟨x4, hx4⟩ : ∃ z, (rdn 300 s3').1 = z := ⟨_, rfl⟩
      have HSX4 : Hid ((rdn 300 s3').2 = s4 ∧ (rdn 300 s3').1 = x4) := zh ⟨hs4, hx4⟩
      rw [hx4] at hb4 HN4
      rw [hs4] at HN4
      have hw4 : IntKind.i64.wrap (x4 : Int) = (x4 : Int) := IntWalk.i64_in _ (by omega)
      clear hs4 hx4
      go_wp2_with fail
      refine HN4.out.mono ?_
      rintro e w4 ⟨rfl, hd, f⟩
      have HD4 := zh hd
      have HF4 : Hid (Fresh w w4) := zh (HF3.out.trans' f (fun k hk e => by omega))
      have HBK4 := zh (HBK3.out.rdr HD3.out.blk.choose_spec f)
      clear hd f HN4
      have hx300 : x4 ≤ 300 := hb4
      have HZZ : Hid (∃ z, loadQ (rdn 8 (rdn 28629151 (rdn 1099511627776 (bs, false)).2).2).1 (rdn 8 (rdn 28629151 (rdn 1099511627776 (bs, false)).2).2).2 = some (fs.map PlD.ws, z)) := zh ⟨s3', by rw [HQN.out.1, HQN.out.2, ← HIE.out]; exact HLQ.out⟩
      clear HD3 HF3 HBK3 hw4 hb4 HSX4 HLQ HQN hlt hlti
      go_wp2_with fail
      go_loopw [12] (fun v12 wr => ∃ (i : Nat) (z : RS) (LA : Option Addr) (lc : Nat) (l : List BkR), i ≤ x4 ∧ v12 = .int .u64 (i : Int) ∧ BookAt wr w.heap.size b ⟨now, nxt, FA, fc, fs, LA, lc, l⟩ ∧ l.length ≤ i ∧ DocAt wr w.heap.size w.heap.size z ∧ Fresh w wr) (fun v12 _ => x4 - (RowKit.intOf v12).toNat)
      case atStart => exact ⟨0, s4, none, 0, [], by omega, rfl, HBK4.out, by simp, HD4.out, HF4.out⟩
      case round =>
        clear HD4 HF4 HBK4
        obtain ⟨i, s10, LA, lc, l, hin, rfl, hbk, hll, hd, hf⟩ := hrel
        have HD10 := zh hd
        have HF10 := zh hf
        have HBK10 := zh hbk
        have HLN : Hid (l.length ≤ i ∧ i ≤ x4) := zh ⟨hll, hin⟩
        have hi0 : (0 : Int) ≤ (i : Int) := by omega
        clear hbk hll hd hf
        by_cases hlt : i < x4
        · have hlti : (i : Int) < (x4 : Int) := by omega
          have HN11 := zh (dNum wr w.heap.size w.heap.size s10 28629151 HD10.out)
          have hb11 := rdn_le 28629151 s10
          obtain ⟨s11, hs11⟩ : ∃ z, (rdn 28629151 s10).2 = z := ⟨_, rfl⟩
          obtain ⟨x11, hx11⟩ : ∃ z, (rdn 28629151 s10).1 = z := ⟨_, rfl⟩
          have HSX11 : Hid ((rdn 28629151 s10).2 = s11 ∧ (rdn 28629151 s10).1 = x11) := zh ⟨hs11, hx11⟩
          rw [hx11] at hb11 HN11
          rw [hs11] at HN11
          have hw11 : IntKind.i64.wrap (x11 : Int) = (x11 : Int) := IntWalk.i64_in _ (by omega)
          clear hs11 hx11
          go_wp2_with fail
          refine HN11.out.mono ?_
          rintro e w11 ⟨rfl, hd, f⟩
          have HD11 := zh hd
          have HF11 : Hid (Fresh w w11) := zh (HF10.out.trans' f (fun k hk e => by omega))
          have HBK11 := zh (HBK10.out.rdr HD10.out.blk.choose_spec f)
          clear hd f HN11
          have HN12 := zh (dNum w11 w.heap.size w.heap.size s11 9999 HD11.out)
          have hb12 := rdn_le 9999 s11
          obtain ⟨s12, hs12⟩ : ∃ z, (rdn 9999 s11).2 = z := ⟨_, rfl⟩
          obtain ⟨x12, hx12⟩ : ∃ z, (rdn 9999 s11).1 = z := ⟨_, rfl⟩
          have HSX12 : Hid ((rdn 9999 s11).2 = s12 ∧ (rdn 9999 s11).1 = x12) := zh ⟨hs12, hx12⟩
          rw [hx12] at hb12 HN12
          rw [hs12] at HN12
          have hw12 : IntKind.i64.wrap (x12 : Int) = (x12 : Int) := IntWalk.i64_in _ (by omega)
          clear hs12 hx12
          go_wp2_with fail
          refine HN12.out.mono ?_
          rintro e w12 ⟨rfl, hd, f⟩
          have HD12 := zh hd
          have HF12 : Hid (Fresh w w12) := zh (HF11.out.trans' f (fun k hk e => by omega))
          have HBK12 := zh (HBK11.out.rdr HD11.out.blk.choose_spec f)
          clear hd f HN12
          have HN13 := zh (dNum w12 w.heap.size w.heap.size s12 9999 HD12.out)
          have hb13 := rdn_le 9999 s12
          obtain ⟨s13, hs13⟩ : ∃ z, (rdn 9999 s12).2 = z := ⟨_, rfl⟩
          obtain ⟨x13, hx13⟩ : ∃ z, (rdn 9999 s12).1 = z := ⟨_, rfl⟩
          have HSX13 : Hid ((rdn 9999 s12).2 = s13 ∧ (rdn 9999 s12).1 = x13) := zh ⟨hs13, hx13⟩
          rw [hx13] at hb13 HN13
          rw [hs13] at HN13
          have hw13 : IntKind.i64.wrap (x13 : Int) = (x13 : Int) := IntWalk.i64_in _ (by omega)
          clear hs13 hx13
          go_wp2_with fail
          refine HN13.out.mono ?_
          rintro e w13 ⟨rfl, hd, f⟩
          have HD13 := zh hd
          have HF13 : Hid (Fresh w w13) := zh (HF12.out.trans' f (fun k hk e => by omega))
          have HBK13 := zh (HBK12.out.rdr HD12.out.blk.choose_spec f)
          clear hd f HN13
          have HN14 := zh (dNum w13 w.heap.size w.heap.size s13 9999 HD13.out)
          have hb14 := rdn_le 9999 s13
          obtain ⟨s14, hs14⟩ : ∃ z, (rdn 9999 s13).2 = z := ⟨_, rfl⟩
          obtain ⟨x14, hx14⟩ : ∃ z, (rdn 9999 s13).1 = z := ⟨_, rfl⟩
          have HSX14 : Hid ((rdn 9999 s13).2 = s14 ∧ (rdn 9999 s13).1 = x14) := zh ⟨hs14, hx14⟩
          rw [hx14] at hb14 HN14
          rw [hs14] at HN14
          have hw14 : IntKind.i64.wrap (x14 : Int) = (x14 : Int) := IntWalk.i64_in _ (by omega)
          clear hs14 hx14
          go_wp2_with fail
          refine HN14.out.mono ?_
          rintro e w14 ⟨rfl, hd, f⟩
          have HD14 := zh hd
          have HF14 : Hid (Fresh w w14) := zh (HF13.out.trans' f (fun k hk e => by omega))
          have HBK14 := zh (HBK13.out.rdr HD13.out.blk.choose_spec f)
          clear hd f HN14
          obtain ⟨V3, hV3⟩ : ∃ V3, w14.alloc (.cells #[.int .i64 (x11 : Int), .int .i64 (x12 : Int), .int .i64 (x13 : Int), .int .i64 (x14 : Int), .int .i64 0, .int .i64 0] 113) = V3 := ⟨_, rfl⟩
          have fv3 : Fresh w14 V3 := by rw [← hV3]; exact (Frm.refl _ _).alloc _
          have HFv : Hid (Fresh w V3) := zh (HF14.out.trans fv3)
          have HDv := zh (HD14.out.fresh fv3)
          have HBv := zh (HBK14.out.fresh fv3)
          have HN8 : Hid (w.heap.size ≤ w14.heap.size) := zh HF14.out.size
          have HBX : Hid (Blk V3 w14.heap.size 113 #[.int .i64 (x11 : Int), .int .i64 (x12 : Int), .int .i64 (x13 : Int), .int .i64 (x14 : Int), .int .i64 0, .int .i64 0]) := zh (by rw [← hV3]; exact Blk.new _ _ _)
          have HNX : Hid ((Value.slice LA l.length lc).ownBlock ≠ some w14.heap.size) := zh (fun e => by have := (HBK14.out.lsl.lt _ e).2; omega)
          have HV3 := zh hV3
          clear fv3 hV3 HD14 HF14 HBK14 HD13 HF13 HBK13 HD12 HF12 HBK12 HD11 HF11 HBK11 HD10 HF10 HBK10
          go_upto_region 17 with fail
          rw [HV3.out]
          clear HV3
          obtain ⟨n8, hn8⟩ : ∃ n8, w14.heap.size = n8 := ⟨_, rfl⟩
          rw [hn8] at HN8 HBX HNX ⊢
          clear hn8
          have HD14 := HDv
          have HF14 := HFv
          have HBK14 := HBv
          clear HDv HFv HBv
          have HN15 := zh (dNum V3 w.heap.size w.heap.size s14 3 HD14.out)
          have hb15 := rdn_le 3 s14
          obtain ⟨s15, hs15⟩ : ∃ z, (rdn 3 s14).2 = z := ⟨_, rfl⟩
          obtain ⟨x15, hx15⟩ : ∃ z, (rdn 3 s14).1 = z := ⟨_, rfl⟩
          have HSX15 : Hid ((rdn 3 s14).2 = s15 ∧ (rdn 3 s14).1 = x15) := zh ⟨hs15, hx15⟩
          rw [hx15] at hb15 HN15
          rw [hs15] at HN15
          have hw15 : IntKind.i64.wrap (x15 : Int) = (x15 : Int) := IntWalk.i64_in _ (by omega)
          clear hs15 hx15
          go_wp2_with fail
          refine HN15.out.mono ?_
          rintro e w15 ⟨rfl, hd, f⟩
          have HD15 := zh hd
          have HF15 : Hid (Fresh w w15) := zh (HF14.out.trans' f (fun k hk e => by omega))
          have HBK15 := zh (HBK14.out.rdr HD14.out.blk.choose_spec f)
          have HFR15 := zh f
          clear hd f HN15
          have hbx15 := HBX.out.frm HFR15.out (fun e => by obtain ⟨cs, hc⟩ := HD14.out.blk; exact HBX.out.apart hc (by decide) e)
          have q4 : w15.cell? ⟨n8, 4, none⟩ = some (.int .i64 0) := hbx15.cell 4
          have q4' : w15.frozen? ⟨n8, 4, none⟩ = false := hbx15.frozen _
          obtain ⟨V5, hV5⟩ : ∃ V5, w15.setCell ⟨n8, 4, none⟩ (.int .i64 (x15 : Int)) = V5 := ⟨_, rfl⟩
          have G5 : Frm (fun k => k = n8) w15 V5 := by rw [← hV5]; exact (Frm.refl (fun k => k = n8) w15).setCell (p := ⟨n8, 4, none⟩) (fun _ => rfl) _
          have HBX5 : Hid (Blk V5 n8 113 #[.int .i64 (x11 : Int), .int .i64 (x12 : Int), .int .i64 (x13 : Int), .int .i64 (x14 : Int), .int .i64 (x15 : Int), .int .i64 0]) := zh (by rw [← hV5]; exact hbx15.set 4 _)
          have HBK5 := zh (HBK15.out.box hbx15 HNX.out G5)
          have HD5 : Hid (DocAt V5 w.heap.size w.heap.size s15) := zh (HD15.out.frm G5 (fun e => by obtain ⟨cs, hc⟩ := HD15.out.blk; exact hc.apart hbx15 (by decide) e) (fun k hk e => by have := HN8.out; omega))
          have HF5 : Hid (Fresh w V5) := zh (HF15.out.trans' G5 (fun k hk e => by have := HN8.out; omega))
          have HV5 := zh hV5
          clear hbx15 G5 HBX HD15 HF15 HBK15 HFR15 hV5
          go_upto_region 18 with fail
          rw [HV5.out]
          clear HV5 q4 q4'
          have HN16 := zh (dNum V5 w.heap.size w.heap.size s15 1099511627776 HD5.out)
          have hb16 := rdn_le 1099511627776 s15
          obtain ⟨s16, hs16⟩ : ∃ z, (rdn 1099511627776 s15).2 = z := ⟨_, rfl⟩
          obtain ⟨x16, hx16⟩ : ∃ z, (rdn 1099511627776 s15).1 = z := ⟨_, rfl⟩
          have HSX16 : Hid ((rdn 1099511627776 s15).2 = s16 ∧ (rdn 1099511627776 s15).1 = x16) := zh ⟨hs16, hx16⟩
          rw [hx16] at hb16 HN16
          rw [hs16] at HN16
          have hw16 : IntKind.i64.wrap (x16 : Int) = (x16 : Int) := IntWalk.i64_in _ (by omega)
          clear hs16 hx16
          go_wp2_with fail
          refine HN16.out.mono ?_
          rintro e w16 ⟨rfl, hd, f⟩
          have HD16 := zh hd
          have HF16 : Hid (Fresh w w16) := zh (HF5.out.trans' f (fun k hk e => by omega))
          have HBK16 := zh (HBK5.out.rdr HD5.out.blk.choose_spec f)
          have HFR16 := zh f
          clear hd f HN16
          have hbx16 := HBX5.out.frm HFR16.out (fun e => by obtain ⟨cs, hc⟩ := HD5.out.blk; exact HBX5.out.apart hc (by decide) e)
          have q5 : w16.cell? ⟨n8, 5, none⟩ = some (.int .i64 0) := hbx16.cell 5
          have q5' : w16.frozen? ⟨n8, 5, none⟩ = false := hbx16.frozen _
          obtain ⟨V6, hV6⟩ : ∃ V6, w16.setCell ⟨n8, 5, none⟩ (.int .i64 (x16 : Int)) = V6 := ⟨_, rfl⟩
          have G6 : Frm (fun k => k = n8) w16 V6 := by rw [← hV6]; exact (Frm.refl (fun k => k = n8) w16).setCell (p := ⟨n8, 5, none⟩) (fun _ => rfl) _
          have HBX6 : Hid (Blk V6 n8 113 #[.int .i64 (x11 : Int), .int .i64 (x12 : Int), .int .i64 (x13 : Int), .int .i64 (x14 : Int), .int .i64 (x15 : Int), .int .i64 (x16 : Int)]) := zh (by rw [← hV6]; exact hbx16.set 5 _)
          have HB6 := zh (HBK16.out.box hbx16 HNX.out G6)
          have HD6 : Hid (DocAt V6 w.heap.size w.heap.size s16) := zh (HD16.out.frm G6 (fun e => by obtain ⟨cs, hc⟩ := HD16.out.blk; exact hc.apart hbx16 (by decide) e) (fun k hk e => by have := HN8.out; omega))
          have HF6 : Hid (Fresh w V6) := zh (HF16.out.trans' G6 (fun k hk e => by have := HN8.out; omega))
          have HV6 := zh hV6
          have HS19 : Hid (∀ w', Fresh V6 w' → w'.rangeAt n8 0 [.int .i64 (x11 : Int), .int .i64 (x12 : Int), .int .i64 (x13 : Int), .int .i64 (x14 : Int), .int .i64 (x15 : Int), .int .i64 (x16 : Int)]) := zh fun w' F => range_of' (HBX6.out.frm F (fun f => f))
          have hll : l.length ≤ 300 := by have := HLN.out; omega
          clear hbx16 G6 HBX5 HD16 HF16 HBK16 HFR16 hV6 HD5 HF5 HBK5 HD14 HF14 HBK14
          go_upto_region 19 with fail
          rw [HV6.out]
          clear HV6 q5 q5'
          have hb5 : V6.cell? ⟨b, 3, none⟩ = some (.slice LA l.length lc) := HB6.out.blk.cell 3
          refine wp_region_held_drew (S := fun w' => w'.rangeAt n8 0 [.int .i64 (x11 : Int), .int .i64 (x12 : Int), .int .i64 (x13 : Int), .int .i64 (x14 : Int), .int .i64 (x15 : Int), .int .i64 (x16 : Int)]) (by kernel_rfl) (HS19.out _ (Frm.refl _ _).drew) (fun hHeld => ?_)
          iterate 4 ((first | refine ztn (v := ?_) (zo rfl) ?_ | refine ztz (v := ?_) (zo rfl) ?_); try simp only [Act.put, zT, zZ, zS])
          refine wpAnyH_take (i := 5) (v := .agg #[.int .i64 (x11 : Int), .int .i64 (x12 : Int), .int .i64 (x13 : Int), .int .i64 (x14 : Int), .int .i64 (x15 : Int), .int .i64 (x16 : Int)]) (zo rfl) (by kernel_rfl) (by kernel_rfl) (by kernel_rfl) (fun _ _ _ h => by first | exact h | cases h.1) (yieldsIf_load_mid (by rfl) 113 (.tmp 13) rfl n8 0 rfl [.int .i64 (x11 : Int), .int .i64 (x12 : Int), .int .i64 (x13 : Int), .int .i64 (x14 : Int), .int .i64 (x15 : Int), .int .i64 (x16 : Int)] _ (fun w' hS => hS) Tryz.underlying113 rfl (by kernel_rfl)) (by assumption) ?_
          try simp only [Act.put, zT, zZ, zS]
          refine zr2 4 6 (zo rfl) (zo rfl) (fun K hK => ?_) (fun K hK => ?_)
          · go_simp
            refine hK.out _ _ (HS19.out _ (Frm.refl _ _).drew) (fun hHeld => ?_)
            clear hK K
            try simp only [Act.put, zT, zZ, zS]
            refine zr1 6 (zo rfl) (fun K hK => ?_)
            go_simp
            obtain ⟨U, hU⟩ : ∃ U, (V6.alloc (.cells #[.int .i64 (x11 : Int), .int .i64 (x12 : Int), .int .i64 (x13 : Int), .int .i64 (x14 : Int), .int .i64 (x15 : Int), .int .i64 (x16 : Int)] 113)).drew = U := ⟨_, rfl⟩
            have HFU : Hid (Fresh V6 U) := zh (by rw [← hU]; exact ((Frm.refl _ _).alloc _).drew)
            have HRU : Hid (Rd U (V6.heap.size + 1) (some ⟨V6.heap.size, 0, none⟩) [.int .i64 (x11 : Int), .int .i64 (x12 : Int), .int .i64 (x13 : Int), .int .i64 (x14 : Int), .int .i64 (x15 : Int), .int .i64 (x16 : Int)]) := zh (by rw [← hU]; exact rd_new V6 [.int .i64 (x11 : Int), .int .i64 (x12 : Int), .int .i64 (x13 : Int), .int .i64 (x14 : Int), .int .i64 (x15 : Int), .int .i64 (x16 : Int)] 113)
            rw [hU]
            clear hU
            have hbU : U.cell? ⟨b, 3, none⟩ = some (.slice LA l.length lc) := (HB6.out.fresh HFU.out).blk.cell 3
            refine hK.out _ _ (HS19.out _ HFU.out) (fun hHeld => ?_)
            clear hK K
            try simp only [Act.put, zT, zZ, zS]
            refine zr1 7 (zo rfl) (fun K hK => ?_)
            refine step_app2 (by rfl) (.tmp 102) (.tmp 104) _ (by rfl) w.heap.size 113 ib _ 6 48 Tryz.underlying59 hib hb0' hb1' hb2' rfl (by omega) (.slice LA l.length lc) l.length (l.flatMap bcel) (by simp [Act.eval, Act.put]) (HB6.out.fresh HFU.out).lsl (V6.heap.size + 1) (some ⟨V6.heap.size, 0, none⟩) 1 1 [.int .i64 (x11 : Int), .int .i64 (x12 : Int), .int .i64 (x13 : Int), .int .i64 (x14 : Int), .int .i64 (x15 : Int), .int .i64 (x16 : Int)] (by simp [Act.eval, Act.put]) (by rfl) HRU.out (by intro u hu; simp at hu; rcases hu with rfl | rfl | rfl | rfl | rfl | rfl <;> rfl) (by omega) (by omega) (by have := HF6.out.size; have := HFU.out.size; omega) ?_
            intro v7 w7 hs7 hf7
            obtain ⟨A7, c7, rfl, _⟩ := hs7.shape
            have HB7 := zh ((HB6.out.fresh HFU.out).addBk ⟨(x11 : Int), (x12 : Int), (x13 : Int), (x14 : Int), (x15 : Int), (x16 : Int)⟩ hs7 hf7)
            have HF7 : Hid (Fresh w w7) := zh ((HF6.out.trans HFU.out).trans' hf7 (fun k hk e => by have := ((HB6.out.fresh HFU.out).lsl.lt k e).1; omega))
            have HD7 := zh ((HD6.out.fresh HFU.out).frm hf7 (fun e => by obtain ⟨cs, hc⟩ := (HD6.out.fresh HFU.out).blk; exact (HB6.out.fresh HFU.out).lsl.apart hc (by decide) e) (fun k hk e => by have := ((HB6.out.fresh HFU.out).lsl.lt k e).1; omega))
            have hb6 := ((HB6.out.fresh HFU.out).blk.frm hf7 ((HB6.out.fresh HFU.out).lsl.apart (HB6.out.fresh HFU.out).blk (by decide)))
            have hx6 := ((HBX6.out.frm HFU.out (fun f => f)).frm hf7 (fun e => HNX.out e))
            have HS7 : Hid (w7.cell? ⟨b, 3, none⟩ = some (.slice LA l.length lc) ∧ w7.frozen? ⟨b, 3, none⟩ = false) := zh ⟨hb6.cell 3, hb6.frozen _⟩
            have HX7 := zh hx6
            have HBB7 := zh hb6
            clear hs7 hf7 hb6 hx6
            refine hK.out _ _ (range_of' HX7.out) (fun hHeld => ?_)
            clear hK K
            try simp only [Act.put, zT, zZ, zS]
            iterate 2 (refine ztn (v := ?_) (zo rfl) ?_; try simp only [Act.put, zT, zZ, zS])
            refine zr1 10 (zo rfl) (fun K hK => ?_)
            obtain ⟨g1, g2⟩ := HS7.out
            go_simp
            refine hK.out _ _ (range_of' (HX7.out.frm ((Frm.refl (fun k => k = b) w7).setCell (p := ⟨b, 3, none⟩) (fun _ => rfl) _) (HX7.out.apart HBB7.out (by decide)))) (fun hHeld => ?_)
            clear hK K
            try simp only [Act.put, zT, zZ, zS]
            refine wpAnyH_done (by kernel_rfl) ?_ _
            obtain ⟨V8, hV8⟩ : ∃ V8, w7.setCell ⟨b, 3, none⟩ (.slice A7 (l.length + 1) c7) = V8 := ⟨_, rfl⟩
            have hb8 := HB7.out
            have G8 : Frm (fun k => k = b) w7 V8 := by rw [← hV8]; exact (Frm.refl (fun k => k = b) w7).setCell (p := ⟨b, 3, none⟩) (fun _ => rfl) _
            rw [hV8] at hb8 ⊢
            have HB8 := zh hb8
            have HD8 : Hid (DocAt V8 w.heap.size w.heap.size s16) := zh (HD7.out.frm G8 (fun e => by obtain ⟨cs, hc⟩ := HD7.out.blk; exact hc.apart HBB7.out (by decide) e) (fun k hk e => by have := HGE.out; omega))
            have HF8 : Hid (Fresh w V8) := zh (HF7.out.trans' G8 (fun k hk e => by have := HGE.out; omega))
            clear hb8 G8 hV8 HB7 HD7 HF7 HBB7 HX7 HS7
            go_wp2_with fail
            go_roundw
            case rel => first | exact ⟨i + 1, s16, A7, c7, _, by omega, by go_num, HB8.out, by have := HLN.out; simp; omega, HD8.out, HF8.out⟩ | trace_state
            case measure => simp [RowKit.intOf]; omega
          · go_simp
            obtain ⟨U, hU⟩ : ∃ U, (V6.alloc (.cells #[.int .i64 (x11 : Int), .int .i64 (x12 : Int), .int .i64 (x13 : Int), .int .i64 (x14 : Int), .int .i64 (x15 : Int), .int .i64 (x16 : Int)] 113)).drew = U := ⟨_, rfl⟩
            have HFU : Hid (Fresh V6 U) := zh (by rw [← hU]; exact ((Frm.refl _ _).alloc _).drew)
            have HRU : Hid (Rd U (V6.heap.size + 1) (some ⟨V6.heap.size, 0, none⟩) [.int .i64 (x11 : Int), .int .i64 (x12 : Int), .int .i64 (x13 : Int), .int .i64 (x14 : Int), .int .i64 (x15 : Int), .int .i64 (x16 : Int)]) := zh (by rw [← hU]; exact rd_new V6 [.int .i64 (x11 : Int), .int .i64 (x12 : Int), .int .i64 (x13 : Int), .int .i64 (x14 : Int), .int .i64 (x15 : Int), .int .i64 (x16 : Int)] 113)
            rw [hU]
            clear hU
            have hbU : U.cell? ⟨b, 3, none⟩ = some (.slice LA l.length lc) := (HB6.out.fresh HFU.out).blk.cell 3
            refine hK.out _ _ (HS19.out _ HFU.out) (fun hHeld => ?_)
            clear hK K
            try simp only [Act.put, zT, zZ, zS]
            refine zr1 4 (zo rfl) (fun K hK => ?_)
            go_simp
            refine hK.out _ _ (HS19.out _ HFU.out) (fun hHeld => ?_)
            clear hK K
            try simp only [Act.put, zT, zZ, zS]
            refine zr1 7 (zo rfl) (fun K hK => ?_)
            refine step_app2 (by rfl) (.tmp 102) (.tmp 104) _ (by rfl) w.heap.size 113 ib _ 6 48 Tryz.underlying59 hib hb0' hb1' hb2' rfl (by omega) (.slice LA l.length lc) l.length (l.flatMap bcel) (by simp [Act.eval, Act.put]) (HB6.out.fresh HFU.out).lsl (V6.heap.size + 1) (some ⟨V6.heap.size, 0, none⟩) 1 1 [.int .i64 (x11 : Int), .int .i64 (x12 : Int), .int .i64 (x13 : Int), .int .i64 (x14 : Int), .int .i64 (x15 : Int), .int .i64 (x16 : Int)] (by simp [Act.eval, Act.put]) (by rfl) HRU.out (by intro u hu; simp at hu; rcases hu with rfl | rfl | rfl | rfl | rfl | rfl <;> rfl) (by omega) (by omega) (by have := HF6.out.size; have := HFU.out.size; omega) ?_
            intro v7 w7 hs7 hf7
            obtain ⟨A7, c7, rfl, _⟩ := hs7.shape
            have HB7 := zh ((HB6.out.fresh HFU.out).addBk ⟨(x11 : Int), (x12 : Int), (x13 : Int), (x14 : Int), (x15 : Int), (x16 : Int)⟩ hs7 hf7)
            have HF7 : Hid (Fresh w w7) := zh ((HF6.out.trans HFU.out).trans' hf7 (fun k hk e => by have := ((HB6.out.fresh HFU.out).lsl.lt k e).1; omega))
            have HD7 := zh ((HD6.out.fresh HFU.out).frm hf7 (fun e => by obtain ⟨cs, hc⟩ := (HD6.out.fresh HFU.out).blk; exact (HB6.out.fresh HFU.out).lsl.apart hc (by decide) e) (fun k hk e => by have := ((HB6.out.fresh HFU.out).lsl.lt k e).1; omega))
            have hb6 := ((HB6.out.fresh HFU.out).blk.frm hf7 ((HB6.out.fresh HFU.out).lsl.apart (HB6.out.fresh HFU.out).blk (by decide)))
            have hx6 := ((HBX6.out.frm HFU.out (fun f => f)).frm hf7 (fun e => HNX.out e))
            have HS7 : Hid (w7.cell? ⟨b, 3, none⟩ = some (.slice LA l.length lc) ∧ w7.frozen? ⟨b, 3, none⟩ = false) := zh ⟨hb6.cell 3, hb6.frozen _⟩
            have HX7 := zh hx6
            have HBB7 := zh hb6
            clear hs7 hf7 hb6 hx6
            refine hK.out _ _ (range_of' HX7.out) (fun hHeld => ?_)
            clear hK K
            try simp only [Act.put, zT, zZ, zS]
            iterate 2 (refine ztn (v := ?_) (zo rfl) ?_; try simp only [Act.put, zT, zZ, zS])
            refine zr1 10 (zo rfl) (fun K hK => ?_)
            obtain ⟨g1, g2⟩ := HS7.out
            go_simp
            refine hK.out _ _ (range_of' (HX7.out.frm ((Frm.refl (fun k => k = b) w7).setCell (p := ⟨b, 3, none⟩) (fun _ => rfl) _) (HX7.out.apart HBB7.out (by decide)))) (fun hHeld => ?_)
            clear hK K
            try simp only [Act.put, zT, zZ, zS]
            refine wpAnyH_done (by kernel_rfl) ?_ _
            obtain ⟨V8, hV8⟩ : ∃ V8, w7.setCell ⟨b, 3, none⟩ (.slice A7 (l.length + 1) c7) = V8 := ⟨_, rfl⟩
            have hb8 := HB7.out
            have G8 : Frm (fun k => k = b) w7 V8 := by rw [← hV8]; exact (Frm.refl (fun k => k = b) w7).setCell (p := ⟨b, 3, none⟩) (fun _ => rfl) _
            rw [hV8] at hb8 ⊢
            have HB8 := zh hb8
            have HD8 : Hid (DocAt V8 w.heap.size w.heap.size s16) := zh (HD7.out.frm G8 (fun e => by obtain ⟨cs, hc⟩ := HD7.out.blk; exact hc.apart HBB7.out (by decide) e) (fun k hk e => by have := HGE.out; omega))
            have HF8 : Hid (Fresh w V8) := zh (HF7.out.trans' G8 (fun k hk e => by have := HGE.out; omega))
            clear hb8 G8 hV8 HB7 HD7 HF7 HBB7 HX7 HS7
            go_wp2_with fail
            go_roundw
            case rel => first | exact ⟨i + 1, s16, A7, c7, _, by omega, by go_num, HB8.out, by have := HLN.out; simp; omega, HD8.out, HF8.out⟩ | trace_state
            case measure => simp [RowKit.intOf]; omega
        · have hlti : ¬ (i : Int) < (x4 : Int) := by omega
          have HWH := zh (dWhole wr w.heap.size w.heap.size s10 HD10.out)
          have HSZ2 : Hid (fs.length ≤ 8 ∧ l.length ≤ 300) := zh ⟨by have := HFLN.out; omega, by have := HLN.out; omega⟩
          go_wp2_with fail
          refine HWH.out.mono ?_
          rintro e wh ⟨rfl, nh, hwh⟩
          have HFW2 : Hid (Fresh w wh) := zh (by rw [hwh]; exact Frm.drewN HF10.out nh)
          have HBW : Hid (BookAt wh w.heap.size b ⟨now, nxt, FA, fc, fs, LA, lc, l⟩) := zh (by rw [hwh]; exact HBK10.out.fresh (Frm.drewN (Frm.refl _ _) nh))
          have HMY := zh (may18_any wh w.heap.size b _ HBW.out HSZ2.out.1 HSZ2.out.2 HSZ.out)
          clear hwh HWH
          obtain ⟨bw, hbw⟩ : ∃ bw, wholeS s10 = bw := ⟨_, rfl⟩
          rw [hbw]
          clear hbw
          cases bw with
          | false =>
            go_wp2_with fail
            go_ret2
            exact ⟨HFW2.out, .inl rfl⟩
          | true =>
            go_wp2_with fail
            refine HMY.out.mono ?_
            rintro e wm ⟨β, rfl, fm⟩
            have HFM := zh fm
            clear fm
            cases β with
            | false =>
              go_wp2_with fail
              go_ret2
              exact ⟨HFW2.out.trans HFM.out, .inl rfl⟩
            | true =>
              go_wp2_with fail
              go_ret2
              obtain ⟨z, hz⟩ := HZZ.out
              exact ⟨HFW2.out.trans HFM.out, .inr ⟨b, _, z, rfl, HBW.out.fresh HFM.out, HSZ2.out.1, hz, fun p hp => (HSZ.out p hp).2⟩⟩
end
section
open Go.RowKit ReadM
open QueueM (Wt)
theorem rdn_num {n most : Nat} (h : n < 18446744073709551616) (hm : n ≤ most) (rest : List UInt8) : rdn most (FieldM.num n ++ rest, false) = (n, (rest, false)) := by
  unfold rdn rd1
  dsimp only
  rw [if_neg (by simp), numRes_num h hm rest]
theorem rdt_text {b : List UInt8} {most : Int} (h : b.length < 18446744073709551616) (hm : (b.length : Int) ≤ most) (rest : List UInt8) : rdt most (FieldM.text b ++ rest, false) = (b, (rest, false)) := by
  unfold rdt rd1
  dsimp only
  rw [if_neg (by simp), textRes_text h hm rest]
theorem rdt_long {b : List UInt8} {most : Int} (h : b.length < 18446744073709551616) (hm : ¬ (b.length : Int) ≤ most) (rest : List UInt8) : (rdt most (FieldM.text b ++ rest, false)).2.2 = true := by
  have e : textRes most (FieldM.text b ++ rest) = none := by
    unfold textRes FieldM.text
    rw [List.append_assoc, dec_num h]
    dsimp only
    rw [if_neg (fun k => hm k.2.1)]
  unfold rdt rd1
  dsimp only
  rw [if_neg (by simp), e]
theorem rdt_bad (most : Int) {s : RS} (h : s.2 = true) : (rdt most s).2.2 = true := by
  unfold rdt rd1
  rw [if_pos h]
  exact h
theorem loadQ_place2 : ∀ (ps : List (List UInt8 × List Wt)) (rest : List UInt8) (qs : List (List Wt)) (z : RS), (∀ p ∈ ps, p.1.length < 18446744073709551616 ∧ QueueM.Good p.2 ∧ Words p.2) →
    loadQ ps.length (ps.flatMap place2 ++ rest, false) = some (qs, z) → qs = ps.map Prod.snd
  | [], rest, qs, z, _, h => by
    unfold loadQ at h
    injection h with h
    injection h with e1 e2
    exact e1.symm
  | p :: r, rest, qs, z, hp, h => by
    obtain ⟨h1, hg, hw⟩ := hp p (List.mem_cons_self ..)
    have he := enc_le hg hw
    have e : (p :: r).flatMap place2 ++ rest = FieldM.text p.1 ++ (FieldM.text (QueueM.enc p.2) ++ (r.flatMap place2 ++ rest)) := by
      rw [List.flatMap_cons]
      unfold place2
      simp only [List.append_assoc]
    rw [e, List.length_cons] at h
    unfold loadQ at h
    by_cases hl : (p.1.length : Int) ≤ 65536
    · rw [rdt_text h1 hl] at h
      dsimp only at h
      rw [rdt_text (by omega) (by omega)] at h
      dsimp only at h
      rw [if_neg (by decide), QueueM.decR_enc hg hw] at h
      dsimp only at h
      obtain ⟨x, hx, hxe⟩ := Option.map_eq_some_iff.1 h
      obtain ⟨x1, x2⟩ := x
      injection hxe with e1 e2
      dsimp only at e1 e2
      have := loadQ_place2 r rest x1 x2 (fun q hq => hp q (List.mem_cons_of_mem _ hq)) hx
      rw [← e1, this]
      rfl
    · rw [if_pos (rdt_bad _ (rdt_long h1 hl _))] at h
      cases h
theorem load_save {tm nx : Int} {ps : List (List UInt8 × List Wt)} {tl : List UInt8} {qs : List (List Wt)} {z : RS} (ht : 0 ≤ tm ∧ tm ≤ 1099511627776) (hn : 1 ≤ nx ∧ nx ≤ 28629151) (h8 : ps.length ≤ 8) (hp : ∀ p ∈ ps, p.1.length < 18446744073709551616 ∧ QueueM.Good p.2 ∧ Words p.2)
    (h : loadQ (rdn 8 (rdn 28629151 (rdn 1099511627776 (saveB tm nx ps tl, false)).2).2).1 (rdn 8 (rdn 28629151 (rdn 1099511627776 (saveB tm nx ps tl, false)).2).2).2 = some (qs, z)) : qs = ps.map Prod.snd := by
  have e : saveB tm nx ps tl = FieldM.num tm.toNat ++ (FieldM.num nx.toNat ++ (FieldM.num ps.length ++ (ps.flatMap place2 ++ tl))) := by
    unfold saveB ncodes
    simp [List.flatMap_cons, List.append_assoc]
  rw [e, rdn_num (by omega) (by omega)] at h
  dsimp only at h
  rw [rdn_num (by omega) (by omega)] at h
  dsimp only at h
  rw [rdn_num (by omega) (by omega)] at h
  dsimp only at h
  exact loadQ_place2 ps tl qs z hp h
end
end Go.Proofs.YtbeaoddjomdlcaaGreatDoor

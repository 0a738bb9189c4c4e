/- Proved here, for the statement TopFairCardSaid: laws that its walk leans on. It holds with no condition. (Put together and shortened by a program out of many texts: To60, To61.) -/
import Derived.Test.YtbeaoddjomdlcaaGreatDoorZ42
set_option linter.unusedVariables false
set_option linter.unusedSimpArgs false
set_option maxRecDepth 100000
set_option maxHeartbeats 64000000
namespace Go.Proofs.YtbeaoddjomdlcaaGreatDoor
section
open Go.RowKit
theorem range_of {w : World} {q : Nat} {t : TypeId} {cs : List Value} (h : Blk w q t cs.toArray) : w.rangeAt q 0 cs := fun j u hu => by
  rw [h.cell, Nat.zero_add]
  simpa using hu
def Dec15Post (w : World) (e : Ending) (w' : World) : Prop :=
  Fresh w w' ∧ (e = .returned (.tuple #[.pointer none, .int .i64 6]) ∨ ∃ f m, e = .returned (.tuple #[.pointer (some ⟨f, 0, none⟩), .int .i64 0]) ∧ FlAt w' w.heap.size f m ∧ DocFl m ∧ w.heap.size ≤ f)
theorem decode15_any (w : World) (A : Option Addr) (cap : Nat) (bs : List UInt8) (hA : Rd w w.heap.size A (bs.map bv)) (hl : bs.length ≤ 100000) (hc : bs.length ≤ cap) (hm : cap ≤ maxLen) :
    Calls Tryz.prog 40 #[.slice A bs.length cap] w fun e w' => Dec15Post w e w' := by
  obtain ⟨ih, hih, hh0, hh1, hh2⟩ := info_parts info_h
  obtain ⟨W, hW⟩ : ∃ W, w.alloc (.cells #[.slice A bs.length cap, .int .i64 0, .bool false] 104) = W := ⟨_, rfl⟩
  have HF0 : Hid (Fresh w W) := zh (by rw [← hW]; exact (Frm.refl _ w).alloc _)
  have HWS : Hid (W.heap.size = w.heap.size + 1) := zh (by rw [← hW]; exact Array.size_push _)
  have HD0 : Hid (DocAt W w.heap.size w.heap.size (bs, false)) := zh ⟨bs, 0, ⟨A, cap, by rw [← hW]; exact Blk.new w _ _, hA.fresh (Nat.le_refl _) HF0.out, hc, hm, Nat.le_refl _⟩, by omega, by omega, fun _ => by simp⟩
  have HN1 := zh (dNum W w.heap.size w.heap.size (bs, false) 9999 HD0.out)
  have hb1 := rdn_le 9999 (bs, false)
  obtain ⟨s1, hs1⟩ : ∃ s1, (rdn 9999 (bs, false)).2 = s1 := ⟨_, rfl⟩
  obtain ⟨x1, hx1⟩ : ∃ x1, (rdn 9999 (bs, false)).1 = x1 := ⟨_, rfl⟩
  rw [hx1] at hb1 HN1
  rw [hs1] at HN1
  have hw1 : IntKind.i64.wrap (x1 : Int) = (x1 : Int) := IntWalk.i64_in _ (by omega)
  clear hA hs1 hx1
  go_in
  go_wp2_with fail
  try rw [hW]
  clear hW
  refine HN1.out.mono ?_
  rintro e w1 ⟨rfl, hd1, f1⟩
  have HD1 := zh hd1
  have HF1 : Hid (Fresh w w1) := zh (HF0.out.trans' f1 (fun k hk e => by omega))
  have HN2 := zh (dNum w1 w.heap.size w.heap.size s1 60 hd1)
  have hb2 := rdn_le 60 s1
  obtain ⟨s2, hs2⟩ : ∃ s2, (rdn 60 s1).2 = s2 := ⟨_, rfl⟩
  obtain ⟨x2, hx2⟩ : ∃ x2, (rdn 60 s1).1 = x2 := ⟨_, rfl⟩
  rw [hx2] at hb2 HN2
  rw [hs2] at HN2
  have hw2 : IntKind.i64.wrap (x2 : Int) = (x2 : Int) := IntWalk.i64_in _ (by omega)
  clear hd1 f1 hs2 hx2 HN1
  go_wp2_with fail
  refine HN2.out.mono ?_
  rintro e w2 ⟨rfl, hd2, f2⟩
  obtain ⟨V2, hV2⟩ : ∃ V2, w2.alloc (.cells #[.int .i64 (x1 : Int), .int .i64 (x2 : Int), .slice none 0 0, .slice none 0 0, .slice none 0 0] 167) = V2 := ⟨_, rfl⟩
  have HFa : Hid (Fresh w V2) := zh (by rw [← hV2]; exact (HF1.out.trans' f2 (fun k hk e => by omega)).alloc _)
  have HDa : Hid (DocAt V2 w.heap.size w.heap.size s2) := zh (by rw [← hV2]; exact hd2.fresh ((Frm.refl _ _).alloc _))
  obtain ⟨f, hf⟩ : ∃ f, w2.heap.size = f := ⟨_, rfl⟩
  have HGE : Hid (w.heap.size ≤ f) := zh (by rw [← hf]; have := HF1.out.size; have := f2.size; omega)
  have HFLa : Hid (FlAt V2 w.heap.size f ⟨(x1 : Int), (x2 : Int), none, 0, [], none, 0, [], none, 0, []⟩) := zh (by
    have hblk : Blk V2 f 167 #[.int .i64 (x1 : Int), .int .i64 (x2 : Int), .slice none 0 0, .slice none 0 0, .slice none 0 0] := by rw [← hV2, ← hf]; exact Blk.new _ _ _
    exact ⟨hblk, Sl.nil _ _ _ _, Sl.nil _ _ _ _, Sl.nil _ _ _ _, fun x hx => by cases hx⟩)
  have HLG := zh (list15_any V2 w.heap.size w.heap.size s2 4 10 (by omega) (by omega) HDa.out)
  clear hd2 f2 HN2 HD0 HF0 HD1
  go_upto_region 3 with fail
  first | rw [hV2, hf] | rw [hf] | skip
  clear hV2 hf
  go_wp2_with fail
  refine HLG.out.mono ?_
  rintro e w3 ⟨v3, gs, s3, rfl, hgl, hgb, hg3, hd3, f3⟩
  obtain ⟨GA, gc, rfl, _⟩ := hg3.shape
  have hfl3 := HFLa.out.rdr HDa.out.blk.choose_spec f3
  have hfl3g := hfl3.setG (hg3.less HFa.out.size)
  have q2 : w3.cell? ⟨f, 2, none⟩ = some (.slice none 0 0) := hfl3.blk.cell 2
  have q2' : w3.frozen? ⟨f, 2, none⟩ = false := hfl3.blk.frozen _
  obtain ⟨V3, hV3⟩ : ∃ V3, w3.setCell ⟨f, 2, none⟩ (.slice GA gs.length gc) = V3 := ⟨_, rfl⟩
  have G3 : Frm (fun k => k = f) w3 V3 := by rw [← hV3]; exact (Frm.refl (fun k => k = f) w3).setCell (p := ⟨f, 2, none⟩) (fun _ => rfl) _
  rw [hV3] at hfl3g
  have HFLb := zh hfl3g
  have HDb : Hid (DocAt V3 w.heap.size w.heap.size s3) := zh (hd3.frm G3 (fun e => by obtain ⟨cs, hc⟩ := hd3.blk; exact hc.apart hfl3.blk (by decide) e) (fun k hk e => by have := HGE.out; omega))
  have HFb : Hid (Fresh w V3) := zh ((HFa.out.trans' f3 (fun k hk e => by omega)).trans' G3 (fun k hk e => by have := HGE.out; omega))
  have HGB : Hid (small gs) := zh ⟨by omega, fun g hg => by have := hgb g hg; omega⟩
  have HLL := zh (list15_any V3 w.heap.size w.heap.size s3 8 10000 (by omega) (by omega) HDb.out)
  clear hgl hgb hg3 hd3 f3 hfl3 hfl3g G3 HLG HFLa HDa HFa
  go_upto_region 4 with fail
  try rw [hV3]
  clear hV3 q2 q2'
  go_wp2_with fail
  refine HLL.out.mono ?_
  rintro e w4 ⟨v4, lims, s4, rfl, hll, hlb, hg4, hd4, f4⟩
  obtain ⟨LA, lc, rfl, _⟩ := hg4.shape
  have hfl4 := HFLb.out.rdr HDb.out.blk.choose_spec f4
  have hfl4g := hfl4.setLm (hg4.less HFb.out.size)
  have q3 : w4.cell? ⟨f, 3, none⟩ = some (.slice none 0 0) := hfl4.blk.cell 3
  have q3' : w4.frozen? ⟨f, 3, none⟩ = false := hfl4.blk.frozen _
  obtain ⟨V4, hV4⟩ : ∃ V4, w4.setCell ⟨f, 3, none⟩ (.slice LA lims.length lc) = V4 := ⟨_, rfl⟩
  have G4 : Frm (fun k => k = f) w4 V4 := by rw [← hV4]; exact (Frm.refl (fun k => k = f) w4).setCell (p := ⟨f, 3, none⟩) (fun _ => rfl) _
  rw [hV4] at hfl4g
  have HFLc := zh hfl4g
  have HDc : Hid (DocAt V4 w.heap.size w.heap.size s4) := zh (hd4.frm G4 (fun e => by obtain ⟨cs, hc⟩ := hd4.blk; exact hc.apart hfl4.blk (by decide) e) (fun k hk e => by have := HGE.out; omega))
  have HFc : Hid (Fresh w V4) := zh ((HFb.out.trans' f4 (fun k hk e => by omega)).trans' G4 (fun k hk e => by have := HGE.out; omega))
  have HLB : Hid (lims.length ≤ 8) := zh hll
  have HN5 := zh (dNum V4 w.heap.size w.heap.size s4 600 HDc.out)
  have hn6 := rdn_le 600 s4
  obtain ⟨s5, hs5⟩ : ∃ s5, (rdn 600 s4).2 = s5 := ⟨_, rfl⟩
  obtain ⟨n, hn⟩ : ∃ n, (rdn 600 s4).1 = n := ⟨_, rfl⟩
  rw [hn] at hn6 HN5
  rw [hs5] at HN5
  clear hll hlb hg4 hd4 f4 hfl4 hfl4g G4 HLL HFLb HDb HFb hs5 hn
  go_upto_region 5 with fail
  try rw [hV4]
  clear hV4 q3 q3'
  go_wp2_with fail
  refine HN5.out.mono ?_
  rintro e w5 ⟨rfl, hd5, f5⟩
  have HD5 := zh hd5
  have HF5 : Hid (Fresh w w5) := zh (HFc.out.trans' f5 (fun k hk e => by omega))
  have HFL5 := zh (HFLc.out.rdr HDc.out.blk.choose_spec f5)
  have HXX : Hid ((x1 : Int) ≤ 9999 ∧ (x2 : Int) ≤ 60) := zh ⟨by omega, by omega⟩
  obtain ⟨num, hnum⟩ : ∃ num : Int, (x1 : Int) = num := ⟨_, rfl⟩
  obtain ⟨rows, hrows⟩ : ∃ rows : Int, (x2 : Int) = rows := ⟨_, rfl⟩
  have HNR : Hid ((0 ≤ num ∧ num ≤ 9999) ∧ 0 ≤ rows ∧ rows ≤ 60) := zh (by have := HXX.out; omega)
  try dsimp only at HFL5
  rw [hnum, hrows] at HFL5
  rw [hnum, hrows]
  clear hd5 f5 HN5 HFLc HDc HFc hb1 hb2 hw1 hw2 HXX hnum hrows
  go_wp2_with fail
  go_loopw [7] (fun v7 wr => ∃ (i : Nat) (z : RS) (HA : Option Addr) (hc : Nat) (hs : List Hd), i ≤ n ∧ v7 = .int .u64 (i : Int) ∧ FlAt wr w.heap.size f ⟨num, rows, GA, gc, gs, LA, lc, lims, HA, hc, hs⟩ ∧ hs.length ≤ i ∧ (∀ x ∈ hs, (0 ≤ x.ow ∧ x.ow ≤ 28629151) ∧ (0 ≤ x.cl ∧ x.cl ≤ 8) ∧ (0 ≤ x.mn ∧ x.mn ≤ 600) ∧ x.st.length ≤ 600) ∧ DocAt wr w.heap.size w.heap.size z ∧ Fresh w wr) (fun v7 _ => n - (RowKit.intOf v7).toNat)
  case atStart => exact ⟨0, s5, none, 0, [], by omega, rfl, HFL5.out, by simp, (fun x hx => by cases hx), HD5.out, HF5.out⟩
  case round =>
    clear HD5 HF5 HFL5
    obtain ⟨i, s5, HA, hc, hs, hin, rfl, hfl, hhl, hhb, hd, hf⟩ := hrel
    have HD := zh hd
    have hok : DocFl ⟨num, rows, GA, gc, gs, LA, lc, lims, HA, hc, hs⟩ := ⟨HNR.out.1, HNR.out.2, HGB.out, HLB.out, by show hs.length ≤ 600; omega, hhb⟩
    have hi0 : (0 : Int) ≤ (i : Int) := by omega
    have c2 : wr.cell? ⟨w.heap.size, 2, none⟩ = some (.bool s5.2) := hd.am
    clear hd
    by_cases hlt : i < n
    rotate_left 1
    · have hlti : ¬ (i : Int) < (n : Int) := by omega
      have dlt : decide ((i : Int) < (n : Int)) = false := decide_eq_false hlti
      clear c2
      have HWH := zh (dWhole wr w.heap.size w.heap.size s5 HD.out)
      have HDF := zh hok
      have HFLx := zh hfl
      have HFx := zh hf
      clear hok hfl hf
      go_wp2_with fail
      refine HWH.out.mono ?_
      rintro e wh ⟨rfl, nh, hwh⟩
      have HFW2 : Hid (Fresh w wh) := zh (by rw [hwh]; exact Frm.drewN HFx.out nh)
      have HFLw : Hid (FlAt wh w.heap.size f ⟨num, rows, GA, gc, gs, LA, lc, lims, HA, hc, hs⟩) := zh (by rw [hwh]; exact HFLx.out.fresh (Frm.drewN (Frm.refl _ _) nh))
      have HMY := zh (may15_any wh w.heap.size f HFW2.out.size _ HFLw.out HDF.out)
      clear hwh HWH
      obtain ⟨bw, hbw⟩ : ∃ bw, wholeS s5 = bw := ⟨_, rfl⟩
      rw [hbw]
      clear hbw
      cases bw with
      | false =>
        go_wp2_with fail
        go_ret2
        exact ⟨HFW2.out, .inl rfl⟩
      | true =>
        go_wp2_with fail
        refine HMY.out.mono ?_
        rintro e wm ⟨β, rfl, fm⟩
        have HFM := zh fm
        clear fm
        cases β with
        | false =>
          go_wp2_with fail
          go_ret2
          exact ⟨HFW2.out.trans HFM.out, .inl rfl⟩
        | true =>
          go_wp2_with fail
          go_ret2
          exact ⟨HFW2.out.trans HFM.out, .inr ⟨f, _, rfl, HFLw.out.fresh HFM.out, HDF.out, HGE.out⟩⟩
    have hlti : (i : Int) < (n : Int) := by omega
    have dlt : decide ((i : Int) < (n : Int)) = true := decide_eq_true hlti
    obtain ⟨am, ham⟩ : ∃ am, s5.2 = am := ⟨_, rfl⟩
    rw [ham] at c2
    clear ham
    cases am with
    | true =>
      have HWH := zh (dWhole wr w.heap.size w.heap.size s5 HD.out)
      have HDF := zh hok
      have HFLx := zh hfl
      have HFx := zh hf
      clear hok hfl hf
      go_wp2_with fail
      refine HWH.out.mono ?_
      rintro e wh ⟨rfl, nh, hwh⟩
      have HFW2 : Hid (Fresh w wh) := zh (by rw [hwh]; exact Frm.drewN HFx.out nh)
      have HFLw : Hid (FlAt wh w.heap.size f ⟨num, rows, GA, gc, gs, LA, lc, lims, HA, hc, hs⟩) := zh (by rw [hwh]; exact HFLx.out.fresh (Frm.drewN (Frm.refl _ _) nh))
      have HMY := zh (may15_any wh w.heap.size f HFW2.out.size _ HFLw.out HDF.out)
      clear hwh HWH
      obtain ⟨bw, hbw⟩ : ∃ bw, wholeS s5 = bw := ⟨_, rfl⟩
      rw [hbw]
      clear hbw
      cases bw with
      | false =>
        go_wp2_with fail
        go_ret2
        exact ⟨HFW2.out, .inl rfl⟩
      | true =>
        go_wp2_with fail
        refine HMY.out.mono ?_
        rintro e wm ⟨β, rfl, fm⟩
        have HFM := zh fm
        clear fm
        cases β with
        | false =>
          go_wp2_with fail
          go_ret2
          exact ⟨HFW2.out.trans HFM.out, .inl rfl⟩
        | true =>
          go_wp2_with fail
          go_ret2
          exact ⟨HFW2.out.trans HFM.out, .inr ⟨f, _, rfl, HFLw.out.fresh HFM.out, HDF.out, HGE.out⟩⟩
    | false =>
      have HFL := zh hfl
      have HF := zh hf
      have HHB : Hid (hs.length ≤ i ∧ (∀ x ∈ hs, (0 ≤ x.ow ∧ x.ow ≤ 28629151) ∧ (0 ≤ x.cl ∧ x.cl ≤ 8) ∧ (0 ≤ x.mn ∧ x.mn ≤ 600) ∧ x.st.length ≤ 600)) := zh ⟨hhl, hhb⟩
      clear hfl hf hhl hhb hok
      have HN1 := zh (dNum wr w.heap.size w.heap.size s5 28629151 HD.out)
      have hb1 := rdn_le 28629151 s5
      obtain ⟨s1, hs1⟩ : ∃ s1, (rdn 28629151 s5).2 = s1 := ⟨_, rfl⟩
      obtain ⟨x1, hx1⟩ : ∃ x1, (rdn 28629151 s5).1 = x1 := ⟨_, rfl⟩
      rw [hx1] at hb1 HN1
      rw [hs1] at HN1
      have hw1 : IntKind.i64.wrap (x1 : Int) = (x1 : Int) := IntWalk.i64_in _ (by omega)
      clear hs1 hx1
      go_wp2_with fail
      refine HN1.out.mono ?_
      rintro e w1 ⟨rfl, hd, f⟩
      have HD1 := zh hd
      have HF1 : Hid (Fresh w w1) := zh (HF.out.trans' f (fun k hk e => by omega))
      have HFL1 := zh (HFL.out.rdr HD.out.blk.choose_spec f)
      clear hd f HN1
      have HN2 := zh (dNum w1 w.heap.size w.heap.size s1 8 HD1.out)
      have hb2 := rdn_le 8 s1
      obtain ⟨s2, hs2⟩ : ∃ s2, (rdn 8 s1).2 = s2 := ⟨_, rfl⟩
      obtain ⟨x2, hx2⟩ : ∃ x2, (rdn 8 s1).1 = x2 := ⟨_, rfl⟩
      rw [hx2] at hb2 HN2
      rw [hs2] at HN2
      have hw2 : IntKind.i64.wrap (x2 : Int) = (x2 : Int) := IntWalk.i64_in _ (by omega)
      clear hs2 hx2
      go_wp2_with fail
      refine HN2.out.mono ?_
      rintro e w2 ⟨rfl, hd, f⟩
      have HD2 := zh hd
      have HF2 : Hid (Fresh w w2) := zh (HF1.out.trans' f (fun k hk e => by omega))
      have HFL2 := zh (HFL1.out.rdr HD1.out.blk.choose_spec f)
      clear hd f HN2
      have HN3 := zh (dNum w2 w.heap.size w.heap.size s2 600 HD2.out)
      have hb3 := rdn_le 600 s2
      obtain ⟨s3, hs3⟩ : ∃ s3, (rdn 600 s2).2 = s3 := ⟨_, rfl⟩
      obtain ⟨x3, hx3⟩ : ∃ x3, (rdn 600 s2).1 = x3 := ⟨_, rfl⟩
      rw [hx3] at hb3 HN3
      rw [hs3] at HN3
      have hw3 : IntKind.i64.wrap (x3 : Int) = (x3 : Int) := IntWalk.i64_in _ (by omega)
      clear hs3 hx3
      go_wp2_with fail
      refine HN3.out.mono ?_
      rintro e w3 ⟨rfl, hd, f⟩
      have HD3 := zh hd
      have HF3 : Hid (Fresh w w3) := zh (HF2.out.trans' f (fun k hk e => by omega))
      have HFL3 := zh (HFL2.out.rdr HD2.out.blk.choose_spec f)
      clear hd f HN3
      obtain ⟨V3, hV3⟩ : ∃ V3, w3.alloc (.cells #[.int .i64 (x1 : Int), .int .i64 (x2 : Int), .int .i64 (x3 : Int), .slice none 0 0] 139) = V3 := ⟨_, rfl⟩
      have fv3 : Fresh w3 V3 := by rw [← hV3]; exact (Frm.refl _ _).alloc _
      have HFv : Hid (Fresh w V3) := zh (HF3.out.trans fv3)
      have HDv := zh (HD3.out.fresh fv3)
      have HFLv := zh (HFL3.out.fresh fv3)
      have HN8 : Hid (w.heap.size ≤ w3.heap.size) := zh HF3.out.size
      have HBX : Hid (Blk V3 w3.heap.size 139 #[.int .i64 (x1 : Int), .int .i64 (x2 : Int), .int .i64 (x3 : Int), .slice none 0 0]) := zh (by rw [← hV3]; exact Blk.new _ _ _)
      have HNX0 : Hid ((Value.slice HA hs.length hc).ownBlock ≠ some w3.heap.size) := zh (fun e => by have := (HFL3.out.hsl.lt _ e).2; omega)
      have HLS := zh (list15_any V3 w.heap.size w.heap.size s3 600 600 (by omega) (by omega) HDv.out)
      have HV3 := zh hV3
      clear fv3 HD3 HFL3 HF3 HFL HF HD hV3
      go_upto_region 10 with fail
      rw [HV3.out]
      clear HV3
      obtain ⟨n8, hn8⟩ : ∃ n8, w3.heap.size = n8 := ⟨_, rfl⟩
      rw [hn8] at HN8 HBX HNX0 ⊢
      clear hn8
      go_wp2_with fail
      refine HLS.out.mono ?_
      rintro e w4 ⟨v4, st, s4, rfl, hsl, hsb, hs4, hd4, f4⟩
      obtain ⟨SA, sc, rfl, _⟩ := hs4.shape
      have hbx4 := HBX.out.frm f4 (fun e => by obtain ⟨cs, hc⟩ := HDv.out.blk; exact HBX.out.apart hc (by decide) e)
      have hfl4 := HFLv.out.rdr HDv.out.blk.choose_spec f4
      have q3 : w4.cell? ⟨n8, 3, none⟩ = some (.slice none 0 0) := hbx4.cell 3
      have q3' : w4.frozen? ⟨n8, 3, none⟩ = false := hbx4.frozen _
      obtain ⟨V5, hV5⟩ : ∃ V5, w4.setCell ⟨n8, 3, none⟩ (.slice SA st.length sc) = V5 := ⟨_, rfl⟩
      have G5 : Frm (fun k => k = n8) w4 V5 := by rw [← hV5]; exact (Frm.refl (fun k => k = n8) w4).setCell (p := ⟨n8, 3, none⟩) (fun _ => rfl) _
      have HBX5 : Hid (Blk V5 n8 139 #[.int .i64 (x1 : Int), .int .i64 (x2 : Int), .int .i64 (x3 : Int), .slice SA st.length sc]) := zh (by rw [← hV5]; exact hbx4.set 3 _)
      have HFL5 : Hid (FlAt V5 w.heap.size f ⟨num, rows, GA, gc, gs, LA, lc, lims, HA, hc, hs⟩) := zh (by
        have hg := hfl4.gsl
        have hlm := hfl4.lsl
        refine ⟨hfl4.blk.frm G5 (hfl4.blk.apart hbx4 (by decide)), hfl4.gsl.frm G5 (fun k hk e => by subst e; exact hfl4.gsl.apart hbx4 (by decide) hk), hfl4.lsl.frm G5 (fun k hk e => by subst e; exact hfl4.lsl.apart hbx4 (by decide) hk), hfl4.hsl.frm G5 (fun k hk e => by subst e; exact HNX0.out hk), fun x hx => (hfl4.ssl x hx).frm G5 (fun k hk e => by subst e; exact (hfl4.ssl x hx).apart hbx4 (by decide) hk)⟩)
      have HD5 : Hid (DocAt V5 w.heap.size w.heap.size s4) := zh (hd4.frm G5 (fun e => by obtain ⟨cs, hc⟩ := hd4.blk; exact hc.apart hbx4 (by decide) e) (fun k hk e => by have := HN8.out; omega))
      have HF5 : Hid (Fresh w V5) := zh ((HFv.out.trans' f4 (fun k hk e => by omega)).trans' G5 (fun k hk e => by have := HN8.out; omega))
      have HSX : Hid (Sl V5 w.heap.size 3 1 (.slice SA st.length sc) st.length (ivs st)) := zh ((hs4.less HFv.out.size).frm G5 (fun k hk e => by subst e; exact hs4.apart hbx4 (by decide) hk))
      have HSTL : Hid (st.length ≤ 600) := zh hsl
      have HNX := HNX0
      have HS11 : Hid (∀ w', Fresh V5 w' → w'.rangeAt n8 0 [.int .i64 (x1 : Int), .int .i64 (x2 : Int), .int .i64 (x3 : Int), .slice SA st.length sc]) := zh fun w' F => range_of (HBX5.out.frm F (fun f => f))
      have hhs : hs.length ≤ 600 := by have := HHB.out.1; omega
      clear hsl hsb hs4 hd4 f4 hbx4 hfl4 G5 HLS HBX HFLv HDv HFv HNX0 c2
      go_upto_region 11 with fail
      try rw [hV5]
      clear hV5 q3 q3'
      have hb5 : V5.cell? ⟨f, 4, none⟩ = some (.slice HA hs.length hc) := HFL5.out.blk.cell 4
      refine wp_region_held_drew (S := fun w' => w'.rangeAt n8 0 [.int .i64 (x1 : Int), .int .i64 (x2 : Int), .int .i64 (x3 : Int), .slice SA st.length sc]) (by kernel_rfl) (HS11.out _ (Frm.refl _ _).drew) (fun hHeld => ?_)
      iterate 4 ((first | refine ztn (v := ?_) (zo rfl) ?_ | refine ztz (v := ?_) (zo rfl) ?_); try simp only [Act.put, zT, zZ, zS])
      refine wpAnyH_take (i := 5) (v := .agg #[.int .i64 (x1 : Int), .int .i64 (x2 : Int), .int .i64 (x3 : Int), .slice SA st.length sc]) (zo rfl) (by kernel_rfl) (by kernel_rfl) (by kernel_rfl) (fun _ _ _ h => by first | exact h | cases h.1) (yieldsIf_load_mid (by rfl) 139 (.tmp 8) rfl n8 0 rfl [.int .i64 (x1 : Int), .int .i64 (x2 : Int), .int .i64 (x3 : Int), .slice SA st.length sc] _ (fun w' hS => hS) Tryz.underlying139 rfl (by kernel_rfl)) (by assumption) ?_
      try simp only [Act.put, zT, zZ, zS]
      refine zr2 4 6 (zo rfl) (zo rfl) (fun K hK => ?_) (fun K hK => ?_)
      · go_simp
        refine hK.out _ _ (HS11.out _ (Frm.refl _ _).drew) (fun hHeld => ?_)
        clear hK K
        try simp only [Act.put, zT, zZ, zS]
        refine zr1 6 (zo rfl) (fun K hK => ?_)
        go_simp
        obtain ⟨U, hU⟩ : ∃ U, (V5.alloc (.cells #[.int .i64 (x1 : Int), .int .i64 (x2 : Int), .int .i64 (x3 : Int), .slice SA st.length sc] 139)).drew = U := ⟨_, rfl⟩
        have HFU : Hid (Fresh V5 U) := zh (by rw [← hU]; exact ((Frm.refl _ _).alloc _).drew)
        have HRU : Hid (Rd U (V5.heap.size + 1) (some ⟨V5.heap.size, 0, none⟩) [.int .i64 (x1 : Int), .int .i64 (x2 : Int), .int .i64 (x3 : Int), .slice SA st.length sc]) := zh (by rw [← hU]; exact rd_new V5 [.int .i64 (x1 : Int), .int .i64 (x2 : Int), .int .i64 (x3 : Int), .slice SA st.length sc] 139)
        rw [hU]
        clear hU
        have hbU : U.cell? ⟨f, 4, none⟩ = some (.slice HA hs.length hc) := (HFL5.out.fresh HFU.out).blk.cell 4
        refine hK.out _ _ (HS11.out _ HFU.out) (fun hHeld => ?_)
        clear hK K
        try simp only [Act.put, zT, zZ, zS]
        refine zr1 7 (zo rfl) (fun K hK => ?_)
        refine step_app2 (by rfl) (.tmp 65) (.tmp 67) _ (by rfl) w.heap.size 139 ih _ 4 48 Tryz.underlying165 hih hh0 hh1 hh2 rfl (by omega) (.slice HA hs.length hc) hs.length (hs.flatMap hcel) (by simp [Act.eval, Act.put]) (HFL5.out.hsl.fresh HFU.out) (V5.heap.size + 1) (some ⟨V5.heap.size, 0, none⟩) 1 1 [.int .i64 (x1 : Int), .int .i64 (x2 : Int), .int .i64 (x3 : Int), .slice SA st.length sc] (by simp [Act.eval, Act.put]) (by rfl) HRU.out (by intro u hu; simp at hu; rcases hu with rfl | rfl | rfl | rfl <;> rfl) (by omega) (by omega) (by have := HF5.out.size; have := HFU.out.size; omega) ?_
        intro v6 w6 hs6 hf6
        obtain ⟨A6, c6, rfl, _⟩ := hs6.shape
        have HFL6 := zh ((HFL5.out.fresh HFU.out).appH ⟨(x1 : Int), (x2 : Int), (x3 : Int), SA, sc, st⟩ (HSX.out.fresh HFU.out) hs6 hf6)
        have HF6 : Hid (Fresh w w6) := zh ((HF5.out.trans HFU.out).trans' hf6 (fun k hk e => by have := ((HFL5.out.fresh HFU.out).hsl.lt k e).1; omega))
        have HD6 := zh ((HD5.out.fresh HFU.out).frm hf6 (fun e => by obtain ⟨cs, hc⟩ := (HD5.out.fresh HFU.out).blk; exact (HFL5.out.fresh HFU.out).hsl.apart hc (by decide) e) (fun k hk e => by have := ((HFL5.out.fresh HFU.out).hsl.lt k e).1; omega))
        have hb6 := ((HFL5.out.fresh HFU.out).blk.frm hf6 ((HFL5.out.fresh HFU.out).hsl.apart (HFL5.out.fresh HFU.out).blk (by decide)))
        have hx6 := ((HBX5.out.frm HFU.out (fun f => f)).frm hf6 (fun e => HNX.out e))
        have HS6 : Hid (w6.cell? ⟨f, 4, none⟩ = some (.slice HA hs.length hc) ∧ w6.frozen? ⟨f, 4, none⟩ = false) := zh ⟨hb6.cell 4, hb6.frozen _⟩
        have HX6 := zh hx6
        have HB6 := zh hb6
        clear hs6 hf6 hb6 hx6
        refine hK.out _ _ (range_of HX6.out) (fun hHeld => ?_)
        clear hK K
        try simp only [Act.put, zT, zZ, zS]
        iterate 2 (refine ztn (v := ?_) (zo rfl) ?_; try simp only [Act.put, zT, zZ, zS])
        refine zr1 10 (zo rfl) (fun K hK => ?_)
        obtain ⟨g1, g2⟩ := HS6.out
        go_simp
        refine hK.out _ _ (range_of (HX6.out.frm ((Frm.refl (fun k => k = f) w6).setCell (p := ⟨f, 4, none⟩) (fun _ => rfl) _) (HX6.out.apart HB6.out (by decide)))) (fun hHeld => ?_)
        clear hK K
        try simp only [Act.put, zT, zZ, zS]
        refine wpAnyH_done (by kernel_rfl) ?_ _
        obtain ⟨V7, hV7⟩ : ∃ V7, w6.setCell ⟨f, 4, none⟩ (.slice A6 (hs.length + 1) c6) = V7 := ⟨_, rfl⟩
        have hfl7 := HFL6.out
        have G7 : Frm (fun k => k = f) w6 V7 := by rw [← hV7]; exact (Frm.refl (fun k => k = f) w6).setCell (p := ⟨f, 4, none⟩) (fun _ => rfl) _
        rw [hV7] at hfl7 ⊢
        have HFL7 := zh hfl7
        have HD7 : Hid (DocAt V7 w.heap.size w.heap.size s4) := zh (HD6.out.frm G7 (fun e => by obtain ⟨cs, hc⟩ := HD6.out.blk; exact hc.apart HB6.out (by decide) e) (fun k hk e => by have := HGE.out; omega))
        have HF7 : Hid (Fresh w V7) := zh (HF6.out.trans' G7 (fun k hk e => by have := HGE.out; omega))
        have HHB7 : Hid ((hs ++ [(⟨(x1 : Int), (x2 : Int), (x3 : Int), SA, sc, st⟩ : Hd)]).length ≤ i + 1 ∧ ∀ x ∈ hs ++ [(⟨(x1 : Int), (x2 : Int), (x3 : Int), SA, sc, st⟩ : Hd)], (0 ≤ x.ow ∧ x.ow ≤ 28629151) ∧ (0 ≤ x.cl ∧ x.cl ≤ 8) ∧ (0 ≤ x.mn ∧ x.mn ≤ 600) ∧ x.st.length ≤ 600) := zh ⟨by have := HHB.out.1; simp; omega, fun x hx => by
          rcases List.mem_append.1 hx with hx | hx
          · exact HHB.out.2 x hx
          · rw [List.mem_singleton] at hx; rw [hx]; exact ⟨⟨by show (0 : Int) ≤ (x1 : Int); omega, by show (x1 : Int) ≤ 28629151; omega⟩, ⟨by show (0 : Int) ≤ (x2 : Int); omega, by show (x2 : Int) ≤ 8; omega⟩, ⟨by show (0 : Int) ≤ (x3 : Int); omega, by show (x3 : Int) ≤ 600; omega⟩, HSTL.out⟩⟩
        clear hfl7 G7 hV7 HFL6 HD6 HF6 HB6 HX6 HS6
        go_wp2_with fail
        go_roundw
        case rel => first | exact ⟨i + 1, s4, A6, c6, _, by omega, by go_num, HFL7.out, HHB7.out.1, HHB7.out.2, HD7.out, HF7.out⟩ | trace_state
        case measure => simp [RowKit.intOf]; omega
      · go_simp
        obtain ⟨U, hU⟩ : ∃ U, (V5.alloc (.cells #[.int .i64 (x1 : Int), .int .i64 (x2 : Int), .int .i64 (x3 : Int), .slice SA st.length sc] 139)).drew = U := ⟨_, rfl⟩
        have HFU : Hid (Fresh V5 U) := zh (by rw [← hU]; exact ((Frm.refl _ _).alloc _).drew)
        have HRU : Hid (Rd U (V5.heap.size + 1) (some ⟨V5.heap.size, 0, none⟩) [.int .i64 (x1 : Int), .int .i64 (x2 : Int), .int .i64 (x3 : Int), .slice SA st.length sc]) := zh (by rw [← hU]; exact rd_new V5 [.int .i64 (x1 : Int), .int .i64 (x2 : Int), .int .i64 (x3 : Int), .slice SA st.length sc] 139)
        rw [hU]
        clear hU
        have hbU : U.cell? ⟨f, 4, none⟩ = some (.slice HA hs.length hc) := (HFL5.out.fresh HFU.out).blk.cell 4
        refine hK.out _ _ (HS11.out _ HFU.out) (fun hHeld => ?_)
        clear hK K
        try simp only [Act.put, zT, zZ, zS]
        refine zr1 4 (zo rfl) (fun K hK => ?_)
        go_simp
        refine hK.out _ _ (HS11.out _ HFU.out) (fun hHeld => ?_)
        clear hK K
        try simp only [Act.put, zT, zZ, zS]
        refine zr1 7 (zo rfl) (fun K hK => ?_)
        refine step_app2 (by rfl) (.tmp 65) (.tmp 67) _ (by rfl) w.heap.size 139 ih _ 4 48 Tryz.underlying165 hih hh0 hh1 hh2 rfl (by omega) (.slice HA hs.length hc) hs.length (hs.flatMap hcel) (by simp [Act.eval, Act.put]) (HFL5.out.hsl.fresh HFU.out) (V5.heap.size + 1) (some ⟨V5.heap.size, 0, none⟩) 1 1 [.int .i64 (x1 : Int), .int .i64 (x2 : Int), .int .i64 (x3 : Int), .slice SA st.length sc] (by simp [Act.eval, Act.put]) (by rfl) HRU.out (by intro u hu; simp at hu; rcases hu with rfl | rfl | rfl | rfl <;> rfl) (by omega) (by omega) (by have := HF5.out.size; have := HFU.out.size; omega) ?_
        intro v6 w6 hs6 hf6
        obtain ⟨A6, c6, rfl, _⟩ := hs6.shape
        have HFL6 := zh ((HFL5.out.fresh HFU.out).appH ⟨(x1 : Int), (x2 : Int), (x3 : Int), SA, sc, st⟩ (HSX.out.fresh HFU.out) hs6 hf6)
        have HF6 : Hid (Fresh w w6) := zh ((HF5.out.trans HFU.out).trans' hf6 (fun k hk e => by have := ((HFL5.out.fresh HFU.out).hsl.lt k e).1; omega))
        have HD6 := zh ((HD5.out.fresh HFU.out).frm hf6 (fun e => by obtain ⟨cs, hc⟩ := (HD5.out.fresh HFU.out).blk; exact (HFL5.out.fresh HFU.out).hsl.apart hc (by decide) e) (fun k hk e => by have := ((HFL5.out.fresh HFU.out).hsl.lt k e).1; omega))
        have hb6 := ((HFL5.out.fresh HFU.out).blk.frm hf6 ((HFL5.out.fresh HFU.out).hsl.apart (HFL5.out.fresh HFU.out).blk (by decide)))
        have hx6 := ((HBX5.out.frm HFU.out (fun f => f)).frm hf6 (fun e => HNX.out e))
        have HS6 : Hid (w6.cell? ⟨f, 4, none⟩ = some (.slice HA hs.length hc) ∧ w6.frozen? ⟨f, 4, none⟩ = false) := zh ⟨hb6.cell 4, hb6.frozen _⟩
        have HX6 := zh hx6
        have HB6 := zh hb6
        clear hs6 hf6 hb6 hx6
        refine hK.out _ _ (range_of HX6.out) (fun hHeld => ?_)
        clear hK K
        try simp only [Act.put, zT, zZ, zS]
        iterate 2 (refine ztn (v := ?_) (zo rfl) ?_; try simp only [Act.put, zT, zZ, zS])
        refine zr1 10 (zo rfl) (fun K hK => ?_)
        obtain ⟨g1, g2⟩ := HS6.out
        go_simp
        refine hK.out _ _ (range_of (HX6.out.frm ((Frm.refl (fun k => k = f) w6).setCell (p := ⟨f, 4, none⟩) (fun _ => rfl) _) (HX6.out.apart HB6.out (by decide)))) (fun hHeld => ?_)
        clear hK K
        try simp only [Act.put, zT, zZ, zS]
        refine wpAnyH_done (by kernel_rfl) ?_ _
        obtain ⟨V7, hV7⟩ : ∃ V7, w6.setCell ⟨f, 4, none⟩ (.slice A6 (hs.length + 1) c6) = V7 := ⟨_, rfl⟩
        have hfl7 := HFL6.out
        have G7 : Frm (fun k => k = f) w6 V7 := by rw [← hV7]; exact (Frm.refl (fun k => k = f) w6).setCell (p := ⟨f, 4, none⟩) (fun _ => rfl) _
        rw [hV7] at hfl7 ⊢
        have HFL7 := zh hfl7
        have HD7 : Hid (DocAt V7 w.heap.size w.heap.size s4) := zh (HD6.out.frm G7 (fun e => by obtain ⟨cs, hc⟩ := HD6.out.blk; exact hc.apart HB6.out (by decide) e) (fun k hk e => by have := HGE.out; omega))
        have HF7 : Hid (Fresh w V7) := zh (HF6.out.trans' G7 (fun k hk e => by have := HGE.out; omega))
        have HHB7 : Hid ((hs ++ [(⟨(x1 : Int), (x2 : Int), (x3 : Int), SA, sc, st⟩ : Hd)]).length ≤ i + 1 ∧ ∀ x ∈ hs ++ [(⟨(x1 : Int), (x2 : Int), (x3 : Int), SA, sc, st⟩ : Hd)], (0 ≤ x.ow ∧ x.ow ≤ 28629151) ∧ (0 ≤ x.cl ∧ x.cl ≤ 8) ∧ (0 ≤ x.mn ∧ x.mn ≤ 600) ∧ x.st.length ≤ 600) := zh ⟨by have := HHB.out.1; simp; omega, fun x hx => by
          rcases List.mem_append.1 hx with hx | hx
          · exact HHB.out.2 x hx
          · rw [List.mem_singleton] at hx; rw [hx]; exact ⟨⟨by show (0 : Int) ≤ (x1 : Int); omega, by show (x1 : Int) ≤ 28629151; omega⟩, ⟨by show (0 : Int) ≤ (x2 : Int); omega, by show (x2 : Int) ≤ 8; omega⟩, ⟨by show (0 : Int) ≤ (x3 : Int); omega, by show (x3 : Int) ≤ 600; omega⟩, HSTL.out⟩⟩
        clear hfl7 G7 hV7 HFL6 HD6 HF6 HB6 HX6 HS6
        go_wp2_with fail
        go_roundw
        case rel => first | exact ⟨i + 1, s4, A6, c6, _, by omega, by go_num, HFL7.out, HHB7.out.1, HHB7.out.2, HD7.out, HF7.out⟩ | trace_state
        case measure => simp [RowKit.intOf]; omega
end
section
open Go.RowKit QueueM
def TS (T : TypeId → Bool) (B : Nat) (w : World) (k : Nat) : Prop := B ≤ k ∧ ∃ t cs, Blk w k t cs ∧ T t = true
def FT (T : TypeId → Bool) (B : Nat) (w w' : World) : Prop := Frm (TS T B w) w w'
section
variable {T : TypeId → Bool} {B : Nat} {w w' w'' : World}
theorem FT.refl (T : TypeId → Bool) (B : Nat) (w : World) : FT T B w w := Frm.refl _ _
theorem FT.trans (h : FT T B w w') (k : FT T B w' w'') : FT T B w w'' := by
  refine Frm.trans' h k (fun i hi ht => ?_)
  obtain ⟨h1, t, cs, h2, h3⟩ := ht
  by_cases hs : TS T B w i
  · exact hs
  · exact ⟨h1, t, cs, (h.block i hi hs).symm.trans h2, h3⟩
theorem FT.size (h : FT T B w w') : w.heap.size ≤ w'.heap.size := Frm.size h
theorem FT.blk {g : Nat} {t : TypeId} {cs : Array Value} (h : FT T B w w') (hb : Blk w g t cs) (ht : T t = false) : Blk w' g t cs := by
  refine Blk.frm hb h (fun hs => ?_)
  obtain ⟨_, t', cs', h2, h3⟩ := hs
  by_cases e : t = t'
  · subst e; rw [ht] at h3; cases h3
  · exact hb.apart h2 e rfl
theorem FT.sl {B' e size n : Nat} {v : Value} {xs : List Value} (h : FT T B w w') (hs : Sl w B' e size v n xs) (ht : T e = false) : Sl w' B' e size v n xs := by
  refine Sl.frm hs h (fun k hk hS => ?_)
  obtain ⟨_, t', cs', h2, h3⟩ := hS
  by_cases ee : e = t'
  · subst ee; rw [ht] at h3; cases h3
  · exact hs.apart h2 ee hk
theorem FT.low {k : Nat} (h : FT T B w w') (hk : k < B) (hw : k < w.heap.size) : w'.heap[k]? = w.heap[k]? := Frm.block h k hw (fun hs => by have := hs.1; omega)
theorem FT.rd {A : Option Addr} {xs : List Value} (h : FT T B w w') (hB : B ≤ w.heap.size) (hr : Rd w B A xs) : Rd w' B A xs :=
  Rd.frm hr hB h (fun p _ hp hs => by have := hs.1; omega)
theorem FT.less {B' : Nat} (h : FT T B w w') (hB : B' ≤ B) : FT T B' w w' := Frm.mono h (fun k _ hs => ⟨by have := hs.1; omega, hs.2⟩)
theorem FT.more {T' : TypeId → Bool} (h : FT T B w w') (hT : ∀ t, T t = true → T' t = true) : FT T' B w w' := Frm.mono h (fun k _ hs => by
  obtain ⟨h1, t, cs, h2, h3⟩ := hs
  exact ⟨h1, t, cs, h2, hT t h3⟩)
end
theorem flat_get {α : Type} (f : α → List Value) (size : Nat) (hf : ∀ a, (f a).length = size) : ∀ (l : List α) (i : Nat) (h : i < l.length) (j : Nat), j < size → (l.flatMap f)[i * size + j]? = (f l[i])[j]?
  | x :: l, 0, _, j, hj => by
    rw [List.flatMap_cons, Nat.zero_mul, Nat.zero_add, List.getElem?_append_left (by rw [hf]; exact hj)]
    rfl
  | x :: l, i + 1, h, j, hj => by
    rw [List.flatMap_cons, List.getElem?_append_right (by rw [hf, Nat.add_mul]; omega), hf, show (i + 1) * size + j - size = i * size + j by rw [Nat.add_mul]; omega]
    exact flat_get f size hf l i (by simpa using h) j hj
theorem flat_len {α : Type} (f : α → List Value) (size : Nat) (hf : ∀ a, (f a).length = size) : ∀ (l : List α), (l.flatMap f).length = l.length * size
  | [] => by simp
  | x :: r => by rw [List.flatMap_cons, List.length_append, hf, flat_len f size hf r, List.length_cons, Nat.add_mul]; omega
theorem rd_flat {α : Type} {w : World} {B : Nat} {A : Option Addr} {l : List α} (f : α → List Value) (size : Nat) (hf : ∀ a, (f a).length = size) (hs : 0 < size) (h : Rd w B A (l.flatMap f)) {i : Nat} (hi : i < l.length) :
    ∃ b o, A = some ⟨b, o, none⟩ ∧ b < B ∧ ∀ j u, (f l[i])[j]? = some u → w.cell? ⟨b, o + i * size + j, none⟩ = some u := by
  have hne : l.flatMap f ≠ [] := fun e => by
    have h1 := flat_len f size hf l
    have h2 : 0 < l.length * size := Nat.mul_pos (by omega) hs
    rw [e] at h1
    simp only [List.length_nil] at h1
    omega
  obtain ⟨b, o, hA, hb, hc⟩ := h hne
  refine ⟨b, o, hA, hb, fun j u hu => ?_⟩
  have hj : j < size := by
    have := (List.getElem?_eq_some_iff.1 hu).1
    rwa [hf] at this
  rw [Nat.add_assoc]
  exact hc _ u (by rw [flat_get f size hf l i hi j hj]; exact hu)
def posOf {α : Type} (g : α → Int) (v : Int) : List α → Nat → Int
  | [], _ => -1
  | x :: r, i => if g x = v then (i : Int) else posOf g v r (i + 1)
theorem posOf_step {α : Type} (g : α → Int) (v : Int) {l : List α} {i : Nat} (h : i < l.length) : posOf g v (l.drop i) i = if g l[i] = v then (i : Int) else posOf g v (l.drop (i + 1)) (i + 1) := by
  rw [List.drop_eq_getElem_cons h, posOf]
theorem posOf_map {α β : Type} (g : β → Int) (k : α → β) (v : Int) : ∀ (l : List α) (i : Nat), posOf g v (l.map k) i = posOf (fun x => g (k x)) v l i
  | [], _ => rfl
  | x :: r, i => by rw [List.map_cons, posOf, posOf, posOf_map g k v r]
theorem posOf_cases {α : Type} (g : α → Int) (v : Int) : ∀ (l : List α) (i : Nat), (posOf g v l i = -1 ∧ ∀ x ∈ l, g x ≠ v) ∨ ∃ (k : Nat) (h : k < l.length), posOf g v l i = ((i + k : Nat) : Int) ∧ g l[k] = v
  | [], _ => .inl ⟨rfl, fun x hx => by cases hx⟩
  | x :: r, i => by
    rw [posOf]
    by_cases hx : g x = v
    · rw [if_pos hx]; exact .inr ⟨0, by simp, rfl, hx⟩
    · rw [if_neg hx]
      rcases posOf_cases g v r (i + 1) with ⟨h1, h2⟩ | ⟨k, h1, h2, h3⟩
      · refine .inl ⟨h1, fun y hy => ?_⟩
        rcases List.mem_cons.1 hy with rfl | hy
        · exact hx
        · exact h2 y hy
      · exact .inr ⟨k + 1, by simp; omega, by rw [h2]; congr 1; omega, by simpa using h3⟩
structure BkR where
  id : Int
  fl : Int
  cl : Int
  mn : Int
  st : Int
  un : Int
def bcel (x : BkR) : List Value := [.int .i64 x.id, .int .i64 x.fl, .int .i64 x.cl, .int .i64 x.mn, .int .i64 x.st, .int .i64 x.un]
structure PlD where
  f : Nat
  m : FlM
  q : Nat
  v : Value
  ws : List Wt
def pcel (p : PlD) : List Value := [.pointer (some ⟨p.f, 0, none⟩), .pointer (some ⟨p.q, 0, none⟩)]
structure PlR where
  f : Fl
  q : List Wt
def PlD.abs (p : PlD) : PlR := ⟨p.m.abs, p.ws⟩
structure BkD where
  now : Int
  next : Int
  FA : Option Addr
  fc : Nat
  fs : List PlD
  LA : Option Addr
  lc : Nat
  l : List BkR
structure BookR where
  now : Int
  next : Int
  fs : List PlR
  l : List BkR
def BkD.abs (M : BkD) : BookR := ⟨M.now, M.next, M.fs.map PlD.abs, M.l⟩
def bkcel (M : BkD) : Array Value := #[.int .i64 M.now, .int .i64 M.next, .slice M.FA M.fs.length M.fc, .slice M.LA M.l.length M.lc]
structure BookAt (w : World) (B b : Nat) (M : BkD) : Prop where
  blk : Blk w b 61 (bkcel M)
  ge : B ≤ b
  fsl : Sl w B 67 2 (.slice M.FA M.fs.length M.fc) M.fs.length (M.fs.flatMap pcel)
  lsl : Sl w B 113 6 (.slice M.LA M.l.length M.lc) M.l.length (M.l.flatMap bcel)
  fl : ∀ p ∈ M.fs, FlAt w B p.f p.m ∧ B ≤ p.f
  qu : ∀ p ∈ M.fs, IsR w B p.q p.v p.ws
theorem IsR.frm {w w' : World} {B b : Nat} {v : Value} {l : List Wt} {S : Nat → Prop} (h : IsR w B b v l) (F : Frm S w w') (h1 : ¬ S b) (h2 : ∀ k, v.ownBlock = some k → ¬ S k) : IsR w' B b v l := ⟨h.blk.frm F h1, h.ge, h.sl.frm F h2⟩
theorem BookAt.fresh {w w' : World} {B b : Nat} {M : BkD} (h : BookAt w B b M) (F : Fresh w w') : BookAt w' B b M :=
  ⟨h.blk.frm F (fun f => f), h.ge, h.fsl.fresh F, h.lsl.fresh F, fun p hp => ⟨(h.fl p hp).1.fresh F, (h.fl p hp).2⟩, fun p hp => (h.qu p hp).frm F (fun f => f) (fun _ _ f => f)⟩
theorem BookAt.cells {w : World} {B b : Nat} {M : BkD} (h : BookAt w B b M) : w.cell? ⟨b, 0, none⟩ = some (.int .i64 M.now) ∧ w.cell? ⟨b, 1, none⟩ = some (.int .i64 M.next) ∧ w.cell? ⟨b, 2, none⟩ = some (.slice M.FA M.fs.length M.fc) ∧ w.cell? ⟨b, 3, none⟩ = some (.slice M.LA M.l.length M.lc) :=
  ⟨h.blk.cell 0, h.blk.cell 1, h.blk.cell 2, h.blk.cell 3⟩
theorem BookAt.place {w : World} {B b : Nat} {M : BkD} (h : BookAt w B b M) {k : Nat} (hk : k < M.fs.length) : ∃ g o, M.FA = some ⟨g, o, none⟩ ∧ g < w.heap.size ∧ w.cell? ⟨g, o + k * 2, none⟩ = some (.pointer (some ⟨M.fs[k].f, 0, none⟩)) ∧ w.cell? ⟨g, o + k * 2 + 1, none⟩ = some (.pointer (some ⟨M.fs[k].q, 0, none⟩)) := by
  obtain ⟨g, o, hA, hb, hc⟩ := rd_flat pcel 2 (fun _ => rfl) (by omega) h.fsl.rd hk
  exact ⟨g, o, hA, hb, hc 0 _ rfl, hc 1 _ rfl⟩
def SixB (w : World) (g o : Nat) (x : BkR) : Prop := w.cell? ⟨g, o, none⟩ = some (.int .i64 x.id) ∧ w.cell? ⟨g, o + 1, none⟩ = some (.int .i64 x.fl) ∧ w.cell? ⟨g, o + 2, none⟩ = some (.int .i64 x.cl) ∧ w.cell? ⟨g, o + 3, none⟩ = some (.int .i64 x.mn) ∧ w.cell? ⟨g, o + 4, none⟩ = some (.int .i64 x.st) ∧ w.cell? ⟨g, o + 5, none⟩ = some (.int .i64 x.un)
theorem BookAt.bk {w : World} {B b : Nat} {M : BkD} (h : BookAt w B b M) {k : Nat} (hk : k < M.l.length) : ∃ g o, M.LA = some ⟨g, o, none⟩ ∧ g < w.heap.size ∧ SixB w g (o + k * 6) M.l[k] := by
  obtain ⟨g, o, hA, hb, hc⟩ := rd_flat bcel 6 (fun _ => rfl) (by omega) h.lsl.rd hk
  exact ⟨g, o, hA, hb, hc 0 _ rfl, hc 1 _ rfl, hc 2 _ rfl, hc 3 _ rfl, hc 4 _ rfl, hc 5 _ rfl⟩
def flightA (n : Int) (x : BookR) : Int := posOf (fun p : PlR => p.f.num) n x.fs 0
theorem flightA_eq (n : Int) (M : BkD) : flightA n M.abs = posOf (fun p : PlD => p.m.num) n M.fs 0 := by
  unfold flightA BkD.abs
  exact posOf_map _ _ _ _ _
theorem flight18_any (w : World) (B b : Nat) (M : BkD) (n : Int) (h : BookAt w B b M) (hl : M.fs.length ≤ 8) :
    Calls Tryz.prog 84 #[.pointer (some ⟨b, 0, none⟩), .int .i64 n] w fun e w' => e = .returned (.int .i64 (flightA n M.abs)) ∧ w' = w := by
  rw [flightA_eq]
  obtain ⟨_, _, y2, _⟩ := h.cells
  have HP : Hid (∀ k (hk : k < M.fs.length), ∃ g o, M.FA = some ⟨g, o, none⟩ ∧ w.cell? ⟨g, o + k * 2, none⟩ = some (.pointer (some ⟨M.fs[k].f, 0, none⟩)) ∧ w.cell? ⟨M.fs[k].f, 0, none⟩ = some (.int .i64 M.fs[k].m.num)) := zh fun k hk => by
    obtain ⟨g, o, hA, _, h1, _⟩ := h.place hk
    exact ⟨g, o, hA, h1, (h.fl _ (List.getElem_mem hk)).1.blk.cell 0⟩
  generalize M.FA = FA at y2 HP
  generalize M.fc = fc at y2
  generalize M.fs = fs at y2 HP hl ⊢
  clear h
  go_in
  go_wp2_with fail
  go_loopw [5] (fun v5 wr => ∃ i : Nat, i ≤ fs.length ∧ v5 = .int .i64 (i : Int) ∧ posOf (fun p : PlD => p.m.num) n fs 0 = posOf (fun p : PlD => p.m.num) n (fs.drop i) i ∧ wr = w) (fun v5 _ => fs.length - (RowKit.intOf v5).toNat)
  case atStart => exact ⟨0, by omega, rfl, rfl, rfl⟩
  case round =>
    obtain ⟨i, hi, rfl, hp, rfl⟩ := hrel
    have hi0 : (0 : Int) ≤ (i : Int) := by omega
    have HQ := zh hp
    clear hp
    by_cases hlt : i < fs.length
    · have hlti : (i : Int) < (fs.length : Int) := by omega
      obtain ⟨g, o, rfl, c0, c1⟩ := HP.out i hlt
      have HST : Hid (posOf (fun p : PlD => p.m.num) n fs 0 = if fs[i].m.num = n then (i : Int) else posOf (fun p : PlD => p.m.num) n (fs.drop (i + 1)) (i + 1)) := zh (by rw [HQ.out, posOf_step _ _ hlt])
      generalize fs[i].m.num = x at c1 HST
      generalize fs[i].f = f at c0 c1
      by_cases hx : x = n
      · have d1 : (x == n) = true := by rw [hx]; simp
        have HV : Hid (posOf (fun p : PlD => p.m.num) n fs 0 = (i : Int)) := zh (by rw [HST.out, if_pos hx])
        clear hx
        go_wp2_with fail
        go_ret
        exact ⟨ret_z HV.out.symm, rfl⟩
      · have d1 : (x == n) = false := by rw [beq_eq_false_iff_ne]; exact hx
        have HV : Hid (posOf (fun p : PlD => p.m.num) n fs 0 = posOf (fun p : PlD => p.m.num) n (fs.drop (i + 1)) (i + 1)) := zh (by rw [HST.out, if_neg hx])
        clear hx
        go_wp2_with fail
        go_roundw
        case rel => exact ⟨i + 1, by omega, by go_num, HV.out, by first | rfl | trivial⟩
        case measure => simp [RowKit.intOf]; omega
    · have hlti : ¬ (i : Int) < (fs.length : Int) := by omega
      have HV : Hid (posOf (fun p : PlD => p.m.num) n fs 0 = -1) := zh (by rw [HQ.out, List.drop_eq_nil_of_le (by omega)]; rfl)
      go_wp2_with fail
      go_ret
      exact ⟨ret_z HV.out.symm, rfl⟩
end
end Go.Proofs.YtbeaoddjomdlcaaGreatDoor

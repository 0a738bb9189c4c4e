/- Proved here, for the statement TopFairCardSaid: laws that its walk leans on. It holds with no condition. (Put together and shortened by a program out of many texts: To27, To28, To29, To30, To31.) -/
import Derived.Test.YtbeaoddjomdlcaaGreatDoorZ25
import Derived.Laws.EntriesVeiled
set_option linter.unusedVariables false
set_option linter.unusedSimpArgs false
set_option maxRecDepth 100000
set_option maxHeartbeats 64000000
namespace Go.Proofs.YtbeaoddjomdlcaaGreatDoor
section
open Go.RowKit
def FEncPost (w : World) (e : Ending) (w' : World) : Prop :=
  ∃ (v : Value) (bs : List UInt8), e = .returned v ∧ bs.length ≤ 2800000000000 ∧ Sl w' w.heap.size 5 1 v bs.length (bs.map bv) ∧ Fresh w w'
theorem encodeF_any (w : World) (B : Nat) (M : FM) (h : FlP w B M) :
    Calls Tryz.prog 47 #[.pointer (some ⟨M.f, 0, none⟩)] w fun e w' => FEncPost w e w' := by
  obtain ⟨w1, hw1⟩ : ∃ w1, w.alloc (.cells #[.slice none 0 0] 56) = w1 := ⟨_, rfl⟩
  have hsz1 : w1.heap.size = w.heap.size + 1 := by rw [← hw1]; simp
  have F1 : Fresh w w1 := by rw [← hw1]; exact fresh_alloc _ _
  have HO1 : OutB w1 w.heap.size w.heap.size (.slice none 0 0) [] := ⟨by rw [← hw1]; exact Blk.new _ _ _, Nat.le_refl _, Sl.nil _ _ _ _⟩
  obtain ⟨wa, hwa⟩ : ∃ wa, w1.alloc (.cells #[.nilFunc] 118) = wa := ⟨_, rfl⟩
  have HBA : Hid (Blk wa (w.heap.size + 1) 118 #[.nilFunc]) := zh (by rw [← hwa, ← hsz1]; exact Blk.new _ _ _)
  have FA : Fresh w1 wa := by rw [← hwa]; exact fresh_alloc _ _
  have ya : wa.cell? ⟨w.heap.size + 1, 0, none⟩ = some .nilFunc := HBA.out.cell 0
  have za : wa.frozen? ⟨w.heap.size + 1, 0, none⟩ = false := HBA.out.frozen 0
  obtain ⟨w2, hw2⟩ : ∃ w2, wa.setCell ⟨w.heap.size + 1, 0, none⟩ (.func (.func 88) #[] #[.pointer (some ⟨w.heap.size, 0, none⟩)]) = w2 := ⟨_, rfl⟩
  have F2 : Fresh w1 w2 := by
    rw [← hw2]
    exact FA.setCell (p := ⟨w.heap.size + 1, 0, none⟩) (fun h => by dsimp only at h; omega) _
  have HC2 : Hid (PutC w2 (w.heap.size + 1) w.heap.size) := zh (by rw [← hw2]; exact HBA.out.set 0 _)
  have HO2 := zh (HO1.fresh F2)
  have HFW := zh (F1.trans F2)
  have HM := zh (h.fresh (F1.trans F2))
  have HSZ : Hid (w.heap.size ≤ w2.heap.size) := zh (F1.trans F2).size
  obtain ⟨DD, hD1, hD2, hD3, hD4, _⟩ := HM.out.hm.keys
  have kl := HM.out.hm.size_le HM.out.hkb hD1 hD3 hD2
  obtain ⟨nk, hnk⟩ : ∃ nk, nk = Maps.size DD := ⟨_, rfl⟩
  obtain ⟨A2, c2, hv2, _, _, _⟩ := HM.out.g.shape
  obtain ⟨A1, c1, hv1, _, _, _⟩ := HM.out.l.shape
  have HP : Hid (∀ w' v bs D A cap (l : List Int) n, OutF w.heap.size w2 w' → OutB w' w.heap.size w.heap.size v bs → Sl w' D 3 1 (.slice A l.length cap) l.length (ivs l) → l.length ≤ 100000 → bs.length + 9 * l.length ≤ n → n ≤ 10000000000000 →
      Calls Tryz.prog 88 #[.slice A l.length cap, .pointer (some ⟨w.heap.size, 0, none⟩)] w' fun e w'' => PutPost w' w.heap.size w.heap.size n e w'') := zh fun w' v bs D A cap l n F ho hs hl hn hm =>
    put_any w' w.heap.size w.heap.size (Nat.le_trans HSZ.out (Frm.size F)) v bs ho D A cap l hs hl n hn hm
  have HQ : Hid (∀ w' v bs D A cap (l : List Int) n, OutF w.heap.size w2 w' → OutB w' w.heap.size w.heap.size v bs → Sl w' D 3 1 (.slice A l.length cap) l.length (ivs l) → l.length ≤ 100000 → bs.length + 9 * (l.length + 1) ≤ n → n ≤ 10000000000000 →
      Calls Tryz.prog 89 #[.slice A l.length cap, .pointer (some ⟨w.heap.size + 1, 0, none⟩)] w' fun e w'' => PutPost w' w.heap.size w.heap.size n e w'') := zh fun w' v bs D A cap l n F ho hs hl hn hm =>
    putl_any w' w.heap.size w.heap.size (w.heap.size + 1) (Nat.le_trans HSZ.out (Frm.size F)) (HC2.out.outF F) v bs ho D A cap l hs hl n hn hm
  have HCELL : Hid (∀ w', OutF w.heap.size w2 w' → w'.cell? ⟨w.heap.size + 1, 0, none⟩ = some (.func (.func 88) #[] #[.pointer (some ⟨w.heap.size, 0, none⟩)]) ∧ w'.cell? ⟨M.f, 0, none⟩ = some (.int .i64 M.num) ∧ w'.cell? ⟨M.f, 1, none⟩ = some (.int .i64 M.rows) ∧ w'.cell? ⟨M.f, 5, none⟩ = some (.map (some M.hb)) ∧ w'.cell? ⟨M.f, 2, none⟩ = some (.slice A2 M.gs.length c2) ∧ w'.cell? ⟨M.f, 3, none⟩ = some (.slice A1 M.ls.length c1) ∧ ∀ ty, (Builtin.len_ #[130] ty #[.map (some M.hb)]).run Tryz.prog w' = .ok (.int .i64 (nk : Int)) w') := zh fun w' F => by
    have hb := (F.flP HM.out).blk
    refine ⟨(HC2.out.outF F).cell 0, hb.cell 0, hb.cell 1, hb.cell 5, by rw [← hv2]; exact hb.cell 2, by rw [← hv1]; exact hb.cell 3, fun ty => ?_⟩
    have hlt := HM.out.hm.lt
    have e := Frm.block F M.hb hlt (fun t => by
      rcases t.1 with ⟨cs2, hd⟩ | ⟨cs2, hd⟩
      · exact HM.out.hm.not_cells hd rfl
      · exact HM.out.hm.not_cells hd rfl)
    rw [(OM.same hD1 e).len Tryz.underlying130 ty, hnk]
  rw [← hnk] at kl
  have HG : Hid (∀ w', OutF w.heap.size w2 w' → Sl w' B 3 1 (.slice A2 M.gs.length c2) M.gs.length (ivs M.gs) ∧ Sl w' B 3 1 (.slice A1 M.ls.length c1) M.ls.length (ivs M.ls)) := zh fun w' F => by
    have hq := F.flP HM.out
    have h1 := hq.g
    have h2 := hq.l
    rw [hv2] at h1
    rw [hv1] at h2
    exact ⟨h1, h2⟩
  have hgl := HM.out.gs.1
  have hll := HM.out.ll
  clear F1 HO1 F2 FA h hD1 hD2 hD3 hD4 hnk hv1 hv2
  go_in
  go_wp2_with fail
  obtain ⟨W4, hW4⟩ : ∃ W4, w2.drew.alloc (.cells #[.int .i64 M.num, .int .i64 M.rows] 3) = W4 := ⟨_, rfl⟩
  have F4 : Fresh w2 W4 := by rw [← hW4]; exact (Frm.refl _ _).drew.alloc _
  have HF4 := zh F4
  have S4 : Sl W4 w2.heap.size 3 1 (.slice (some ⟨w2.heap.size, 0, none⟩) 2 2) 2 (ivs [M.num, M.rows]) := by
    rw [← hW4]; exact sl_new w2.drew w2.heap.size [.int .i64 M.num, .int .i64 M.rows] 3 (Nat.le_refl _) (by simp [maxLen])
  have HP4 := zh (HP.out W4 _ _ _ (some ⟨w2.heap.size, 0, none⟩) 2 [M.num, M.rows] 18 (OutF.of F4) (HO2.out.fresh F4) S4 (by simp) (by simp) (by omega))
  clear F4 S4
  go_region_held3 (fun w' => w'.cell? ⟨w.heap.size + 1, 0, none⟩ = some (.func (.func 88) #[] #[.pointer (some ⟨w.heap.size, 0, none⟩)]) ∧ w'.cell? ⟨M.f, 0, none⟩ = some (.int .i64 M.num) ∧ w'.cell? ⟨M.f, 1, none⟩ = some (.int .i64 M.rows))
    (first
      | (have q := HCELL.out w2.drew (OutF.of (Frm.refl _ _).drew); exact ⟨q.1, q.2.1, q.2.2.1⟩)
      | (have q := HCELL.out w2 (OutF.of (Frm.refl _ _)); exact ⟨q.1, q.2.1, q.2.2.1⟩)
      | (have q := HCELL.out W4 (OutF.of HF4.out); first | exact ⟨q.1, q.2.1, q.2.2.1⟩ | (rw [hW4]; exact ⟨q.1, q.2.1, q.2.2.1⟩))
      | (have q := HCELL.out w5 HF5.out; exact ⟨q.1, q.2.1, q.2.2.1⟩))
    (first
      | (go_at_call 88; (try rw [hW4]); show Calls _ _ #[.slice (some ⟨w2.heap.size, 0, none⟩) 2 2, .pointer (some ⟨w.heap.size, 0, none⟩)] W4 _; refine HP4.out.mono ?_; rintro e w5 ⟨rfl, v5, bs5, ho5, hl5, hf5⟩; have HF5 : Hid (OutF w.heap.size w2 w5) := zh ((OutF.of HF4.out).trans hf5); have HO5 := zh ho5; clear ho5 hf5))
  have HQ5 := zh (HQ.out w5 v5 bs5 B A2 c2 M.gs 200 HF5.out HO5.out (HG.out w5 HF5.out).1 (by omega) (by omega) (by omega))
  have q5 := (HCELL.out w5 HF5.out).2.2.2.2.1
  go_wp2_with fail
  refine HQ5.out.mono ?_
  rintro e w6 ⟨rfl, v6, bs6, ho6, hl6, hf6⟩
  have HF6 : Hid (OutF w.heap.size w2 w6) := zh (HF5.out.trans hf6)
  have HQ6 := zh (HQ.out w6 v6 bs6 B A1 c1 M.ls 300 HF6.out ho6 (HG.out w6 HF6.out).2 (by omega) (by omega) (by omega))
  have q6 := (HCELL.out w6 HF6.out).2.2.2.2.2.1
  clear ho6 hf6 HP4 HO5 HF5 HO2 HC2
  go_wp2_with fail
  refine HQ6.out.mono ?_
  rintro e w7 ⟨rfl, v7, bs7, ho7, hl7, hf7⟩
  have HF7 : Hid (OutF w.heap.size w2 w7) := zh (HF6.out.trans hf7)
  have HO7 := zh ho7
  clear ho7 hf7
  go_wp2_with fail
  obtain ⟨W8, hW8⟩ : ∃ W8, w7.drew.alloc (.cells #[.int .i64 (nk : Int)] 3) = W8 := ⟨_, rfl⟩
  have F8 : Fresh w7 W8 := by rw [← hW8]; exact (Frm.refl _ _).drew.alloc _
  have HF8 : Hid (OutF w.heap.size w2 W8) := zh (HF7.out.trans (OutF.of F8))
  have S8 : Sl W8 w7.heap.size 3 1 (.slice (some ⟨w7.heap.size, 0, none⟩) 1 1) 1 (ivs [(nk : Int)]) := by
    rw [← hW8]; exact sl_new w7.drew w7.heap.size [.int .i64 (nk : Int)] 3 (Nat.le_refl _) (by simp [maxLen])
  have HP8 := zh (HP.out W8 _ _ _ (some ⟨w7.heap.size, 0, none⟩) 1 [(nk : Int)] 400 HF8.out (HO7.out.fresh F8) S8 (by simp) (by simp; omega) (by omega))
  clear F8 S8
  go_region_held3 (fun w' => w'.cell? ⟨w.heap.size + 1, 0, none⟩ = some (.func (.func 88) #[] #[.pointer (some ⟨w.heap.size, 0, none⟩)]) ∧ w'.cell? ⟨M.f, 5, none⟩ = some (.map (some M.hb)) ∧ ∀ ty, (Builtin.len_ #[130] ty #[.map (some M.hb)]).run Tryz.prog w' = .ok (.int .i64 (nk : Int)) w')
    (first
      | (have q := HCELL.out w7.drew (HF7.out.trans (OutF.of (Frm.refl _ _).drew)); exact ⟨q.1, q.2.2.2.1, q.2.2.2.2.2.2⟩)
      | (have q := HCELL.out w7 HF7.out; exact ⟨q.1, q.2.2.2.1, q.2.2.2.2.2.2⟩)
      | (have q := HCELL.out W8 HF8.out; first | exact ⟨q.1, q.2.2.2.1, q.2.2.2.2.2.2⟩ | (rw [hW8]; exact ⟨q.1, q.2.2.2.1, q.2.2.2.2.2.2⟩))
      | (have q := HCELL.out w9 HF9.out; exact ⟨q.1, q.2.2.2.1, q.2.2.2.2.2.2⟩))
    (first
      | (go_at_call 88; (try rw [hW8]); show Calls _ _ #[.slice (some ⟨w7.heap.size, 0, none⟩) 1 1, .pointer (some ⟨w.heap.size, 0, none⟩)] W8 _; refine HP8.out.mono ?_; rintro e w9 ⟨rfl, v9, bs9, ho9, hl9, hf9⟩; have HF9 : Hid (OutF w.heap.size w2 w9) := zh (HF8.out.trans hf9); have HO9 := zh ho9; clear ho9 hf9))
  have HHO := zh (holds_any w9 B M (HF9.out.flP HM.out))
  clear HP8 HO7 HF8 HF7 HF6
  go_wp2_with fail
  refine HHO.out.mono ?_
  rintro e w10 ⟨vh, hs, rfl, hlh, hsh, hdh, f10⟩
  have HF10 : Hid (OutF w.heap.size w2 w10) := zh (HF9.out.trans (OutF.of f10))
  have HO10 := zh (HO9.out.fresh f10)
  obtain ⟨Ah, ch, rfl, _, _, _⟩ := hsh.shape
  have HSH := zh hsh
  have HDH := zh hdh
  clear hsh hdh f10 HO9 HHO
  go_wp2_with fail
  go_loopw [46] (fun v46 wr => ∃ (i : Nat) (v' : Value) (bs' : List UInt8), i ≤ hs.length ∧ v46 = .int .i64 (i : Int) ∧ OutB wr w.heap.size w.heap.size v' bs' ∧ bs'.length ≤ 400 + 90050 * i ∧ OutF w.heap.size w2 wr ∧ OutF w.heap.size w10 wr) (fun v46 _ => hs.length - (RowKit.intOf v46).toNat)
  case atStart => exact ⟨0, v9, bs9, by omega, rfl, HO10.out, by omega, HF10.out, OutF.refl _ _⟩
  case round =>
    obtain ⟨i, v', bs', hi, rfl, ho, hbl, hf, hf2⟩ := hrel
    have hi0 : (0 : Int) ≤ (i : Int) := by omega
    have HO := zh ho
    have HF := zh hf
    have HFX := zh hf2
    have hsl := hf2.sl HSH.out (by decide) (by decide)
    clear ho hf hf2
    by_cases hlt : i < hs.length
    · have hlti : (i : Int) < (hs.length : Int) := by omega
      obtain ⟨b, o, rfl, _, k0, k1, k2, k3⟩ := hold_at hsl.rd hlt
      have hxd := HDH.out hs[i] (List.getElem_mem hlt)
      generalize hs[i] = x at k0 k1 k2 k3 hxd
      clear hsl
      obtain ⟨d1, d2, d3, d4, d5, d6⟩ := hxd
      have HD6 := zh (HFX.out.sl d6 (by decide) (by decide))
      clear d6
      obtain ⟨W1, hW1⟩ : ∃ W1, wr.alloc (.cells #[.int .i64 x.ow, .int .i64 x.cl, .int .i64 x.mn, .slice x.A x.st.length x.c] 139) = W1 := ⟨_, rfl⟩
      have FW1 : Fresh wr W1 := by rw [← hW1]; exact fresh_alloc _ _
      have HB1 : Hid (Blk W1 wr.heap.size 139 #[.int .i64 x.ow, .int .i64 x.cl, .int .i64 x.mn, .slice x.A x.st.length x.c]) := zh (by rw [← hW1]; exact Blk.new _ _ _)
      have hFW1 : OutF w.heap.size w2 W1 := HF.out.trans (OutF.of FW1)
      have y1 : W1.cell? ⟨w.heap.size + 1, 0, none⟩ = some (.func (.func 88) #[] #[.pointer (some ⟨w.heap.size, 0, none⟩)]) := (HCELL.out W1 hFW1).1
      have y2 : W1.cell? ⟨wr.heap.size, 0, none⟩ = some (.int .i64 x.ow) := HB1.out.cell 0
      have y3 : W1.cell? ⟨wr.heap.size, 1, none⟩ = some (.int .i64 x.cl) := HB1.out.cell 1
      have y4 : W1.cell? ⟨wr.heap.size, 2, none⟩ = some (.int .i64 x.mn) := HB1.out.cell 2
      obtain ⟨W2, hW2⟩ : ∃ W2, W1.alloc (.cells #[.int .i64 x.ow, .int .i64 x.cl, .int .i64 x.mn] 3) = W2 := ⟨_, rfl⟩
      have FW2 : Fresh W1 W2 := by rw [← hW2]; exact fresh_alloc _ _
      have S2 : Sl W2 W1.heap.size 3 1 (.slice (some ⟨W1.heap.size, 0, none⟩) 3 3) 3 (ivs [x.ow, x.cl, x.mn]) := by
        rw [← hW2]; exact sl_new W1 W1.heap.size [.int .i64 x.ow, .int .i64 x.cl, .int .i64 x.mn] 3 (Nat.le_refl _) (by simp [maxLen])
      have HFW2 : Hid (OutF w.heap.size w2 W2 ∧ OutF w.heap.size wr W2 ∧ OutF w.heap.size w10 W2 ∧ OutF w.heap.size W1 W2) := zh ⟨hFW1.trans (OutF.of FW2), OutF.of (FW1.trans FW2), HFX.out.trans (OutF.of (FW1.trans FW2)), OutF.of FW2⟩
      have HP1 := zh (HP.out W2 _ _ _ (some ⟨W1.heap.size, 0, none⟩) 3 [x.ow, x.cl, x.mn] (400 + 90050 * i + 27) HFW2.out.1 (HO.out.fresh (FW1.trans FW2)) S2 (by simp) (by simp; omega) (by omega))
      clear FW1 FW2 S2 hFW1
      go_wp2_with fail
      refine HP1.out.mono ?_
      rintro e w11 ⟨rfl, v11, bs11, ho11, hl11, hf11⟩
      have HF11 : Hid (OutF w.heap.size w2 w11 ∧ OutF w.heap.size wr w11 ∧ OutF w.heap.size w10 w11) := zh ⟨HFW2.out.1.trans hf11, HFW2.out.2.1.trans hf11, HFW2.out.2.2.1.trans hf11⟩
      have HB11 : Hid (Blk w11 wr.heap.size 139 #[.int .i64 x.ow, .int .i64 x.cl, .int .i64 x.mn, .slice x.A x.st.length x.c]) := zh ((HFW2.out.2.2.2.trans hf11).blk HB1.out (by decide) (by decide))
      have z3 : w11.cell? ⟨wr.heap.size, 3, none⟩ = some (.slice x.A x.st.length x.c) := HB11.out.cell 3
      have HQ1 := zh (HQ.out w11 v11 bs11 w9.heap.size x.A x.c x.st (400 + 90050 * i + 90050) HF11.out.1 ho11 (HF11.out.2.1.sl HD6.out (by decide) (by decide)) (by omega) (by omega) (by omega))
      clear ho11 hf11 HP1
      go_wp2_with fail
      refine HQ1.out.mono ?_
      rintro e w12 ⟨rfl, v12, bs12, ho12, hl12, hf12⟩
      have HR12 : Hid (OutB w12 w.heap.size w.heap.size v12 bs12 ∧ OutF w.heap.size w2 w12 ∧ OutF w.heap.size w10 w12) := zh ⟨ho12, HF11.out.1.trans hf12, HF11.out.2.2.trans hf12⟩
      have HLX : Hid (bs12.length ≤ 400 + 90050 * (i + 1)) := zh (Nat.le_trans hl12 (Nat.le_of_eq (by rw [Nat.mul_add, Nat.mul_one, Nat.add_assoc])))
      clear ho12 hf12
      go_wp2_with fail
      go_roundw
      case rel => exact ⟨i + 1, v12, bs12, by omega, by go_num, HR12.out.1, HLX.out, HR12.out.2⟩
      case measure => simp [RowKit.intOf]; omega
    · have hlti : ¬ (i : Int) < (hs.length : Int) := by omega
      have HFI : Hid (Fresh w wr) := zh (HFW.out.trans' (T := fun k => w.heap.size ≤ k) (Frm.mono (S := fun k => TB w2 k ∧ w.heap.size ≤ k) HF.out (fun i hi t => t.2)) (fun i hi t => Nat.not_lt.2 t hi))
      obtain ⟨Av, cv, rfl, _, _, _⟩ := HO.out.2.2.shape
      have q1 : wr.cell? ⟨w.heap.size, 0, none⟩ = some (.slice Av bs'.length cv) := HO.out.1.cell 0
      go_wp2_with fail
      go_ret
      exact ⟨_, bs', rfl, by omega, HO.out.2.2, HFI.out⟩
def TW (w : World) (k : Nat) : Prop := (∃ cs, Blk w k 117 cs) ∨ ∃ cs, Blk w k 5 cs
def OutW (B : Nat) (w w' : World) : Prop := Frm (fun k => TW w k ∧ B ≤ k) w w'
theorem OutW.refl (B : Nat) (w : World) : OutW B w w := Frm.refl _ _
theorem OutW.of {B : Nat} {w w' : World} (F : Fresh w w') : OutW B w w' := F.frm
theorem OutW.trans {B : Nat} {a b c : World} (h : OutW B a b) (k : OutW B b c) : OutW B a c := by
  refine ⟨Eq.trans (Frm.os k) (Frm.os h), Eq.trans (Frm.tape k) (Frm.tape h), Eq.trans (Frm.output k) (Frm.output h), Nat.le_trans (Frm.size h) (Frm.size k), fun i hi hn => ?_⟩
  have e := Frm.block h i hi hn
  refine (Frm.block k i (Nat.lt_of_lt_of_le hi (Frm.size h)) (fun t => hn ⟨?_, t.2⟩)).trans e
  rcases t.1 with ⟨cs, hc⟩ | ⟨cs, hc⟩
  · exact .inl ⟨cs, e.symm.trans hc⟩
  · exact .inr ⟨cs, e.symm.trans hc⟩
theorem OutW.sl {B D : Nat} {w w' : World} {e size : Nat} {v : Value} {n : Nat} {xs : List Value} (F : OutW B w w') (h : Sl w D e size v n xs) (h1 : e ≠ 117) (h2 : e ≠ 5) : Sl w' D e size v n xs :=
  h.frm F (fun k hk t => by
    obtain ⟨_, cs, hc⟩ := own_type h hk
    rcases t.1 with ⟨cs2, hd⟩ | ⟨cs2, hd⟩
    · exact hc.apart hd h1 rfl
    · exact hc.apart hd h2 rfl)
theorem OutW.blk {B : Nat} {w w' : World} {g : Nat} {t : TypeId} {cs : Array Value} (F : OutW B w w') (h : Blk w g t cs) (h1 : t ≠ 117) (h2 : t ≠ 5) : Blk w' g t cs :=
  h.frm F (fun t => by
    rcases t.1 with ⟨cs2, hd⟩ | ⟨cs2, hd⟩
    · exact h.apart hd h1 rfl
    · exact h.apart hd h2 rfl)
theorem OutW.fresh {B : Nat} {w w' : World} (F : OutW B w w') (h : w.heap.size ≤ B) : Fresh w w' := Frm.mono F (fun i hi t => by have := t.2; omega)
theorem OutW.flP {B D : Nat} {w w' : World} {M : FM} (F : OutW B w w') (h : FlP w D M) : FlP w' D M :=
  h.frm F (fun k hk t => by
    rcases h.own_kind hk with (rfl | rfl) | ⟨t', cs, hc, e⟩
    · rcases t.1 with ⟨cs2, hd⟩ | ⟨cs2, hd⟩
      · exact h.hm.not_cells hd rfl
      · exact h.hm.not_cells hd rfl
    · rcases t.1 with ⟨cs2, hd⟩ | ⟨cs2, hd⟩
      · exact h.om.not_cells hd rfl
      · exact h.om.not_cells hd rfl
    · rcases t.1 with ⟨cs2, hd⟩ | ⟨cs2, hd⟩ <;> rcases e with rfl | rfl | rfl <;> exact hc.apart hd (by decide) rfl)
def WrB (w : World) (B c : Nat) (v : Value) (bs : List UInt8) : Prop := Blk w c 117 #[v] ∧ B ≤ c ∧ Sl w B 5 1 v bs.length (bs.map bv)
theorem WrB.fresh {w w' : World} {B c : Nat} {v : Value} {bs : List UInt8} (h : WrB w B c v bs) (F : Fresh w w') : WrB w' B c v bs := ⟨h.1.frm F (fun f => f), h.2.1, h.2.2.fresh F⟩
theorem WrB.put {w w1 w2 : World} {B c : Nat} {v v2 : Value} {bs cs : List UInt8} (h : WrB w B c v bs) (F : Fresh w w1) (hs : Sl w2 B 5 1 v2 (bs.length + cs.length) (bs.map bv ++ cs.map bv)) (F2 : Frm (fun k => v.ownBlock = some k) w1 w2) :
    WrB (w2.setCell ⟨c, 0, none⟩ v2) B c v2 (bs ++ cs) ∧ OutW B w (w2.setCell ⟨c, 0, none⟩ v2) := by
  have hb1 := h.1.frm F (fun f => f)
  have hc : ¬ v.ownBlock = some c := (h.2.2.fresh F).apart hb1 (by decide)
  have hb2 := hb1.frm F2 hc
  have F3 : Frm (fun k => k = c) w2 (w2.setCell ⟨c, 0, none⟩ v2) := (Frm.refl (fun k => k = c) w2).setCell (p := ⟨c, 0, none⟩) (fun _ => rfl) _
  refine ⟨⟨hb2.set 0 v2, h.2.1, ?_⟩, ?_⟩
  · rw [List.length_append, List.map_append]
    exact hs.frm F3 (fun k hk e => by subst e; exact hs.apart hb2 (by decide) hk)
  · have T : OutW B w w1 := OutW.of F
    refine T.trans (OutW.trans (b := w2) (F2.mono (fun i hi e => ⟨.inr ?_, ?_⟩)) (F3.mono (fun i hi e => ?_)))
    · obtain ⟨_, cs, hcs⟩ := own_type (h.2.2.fresh F) e
      exact ⟨cs, hcs⟩
    · exact (h.2.2.lt i e).1
    · subst e
      exact ⟨.inl ⟨_, hb2⟩, h.2.1⟩
def ncodes (l : List Int) : List UInt8 := l.flatMap fun n => FieldM.num n.toNat
theorem ncodes_take {l : List Int} {i : Nat} (h : i < l.length) : ncodes (l.take (i + 1)) = ncodes (l.take i) ++ FieldM.num l[i].toNat := by
  unfold ncodes
  rw [List.take_succ_eq_append_getElem h, List.flatMap_append]
  simp
theorem ncodes_len (l : List Int) (h : ∀ x ∈ l, x ≤ 9223372036854775807) : (ncodes l).length ≤ 9 * l.length := by
  induction l with
  | nil => simp [ncodes]
  | cons x r ih =>
    have h1 : (FieldM.num x.toNat).length ≤ 9 := num_le9 (by have := h x (List.mem_cons_self ..); omega)
    have h2 := ih (fun y hy => h y (List.mem_cons_of_mem _ hy))
    have e : ncodes (x :: r) = FieldM.num x.toNat ++ ncodes r := by unfold ncodes; rw [List.flatMap_cons]
    rw [e, List.length_append, List.length_cons]
    omega
def WPost (w : World) (B c : Nat) (bs : List UInt8) (e : Ending) (w' : World) : Prop :=
  e = .returned (.tuple #[]) ∧ ∃ v', WrB w' B c v' bs ∧ OutW B w w'
theorem numbersW_any (w : World) (B c : Nat) (hB : B ≤ w.heap.size) (v : Value) (bs : List UInt8) (h : WrB w B c v bs) (D : Nat) (A : Option Addr) (cap : Nat) (l : List Int) (hA : Sl w D 3 1 (.slice A l.length cap) l.length (ivs l)) (hl : l.length ≤ 100000) (hw : ∀ x ∈ l, wf64 x) (hn : bs.length ≤ 100000000000000) :
    Calls Tryz.prog 45 #[.pointer (some ⟨c, 0, none⟩), .slice A l.length cap] w fun e w' => WPost w B c (bs ++ ncodes l) e w' := by
  obtain ⟨i0, hi', hz0, hz1, hz2⟩ := info_parts info_u8
  have HH := zh h
  have HA := zh hA
  clear h hA
  go_in
  go_wp2_with fail
  go_loopw [8] (fun v8 wr => ∃ (i : Nat) (v' : Value), i ≤ l.length ∧ v8 = .int .i64 (i : Int) ∧ WrB wr B c v' (bs ++ ncodes (l.take i)) ∧ OutW B w wr) (fun v8 _ => l.length - (RowKit.intOf v8).toNat)
  case atStart => exact ⟨0, v, by omega, rfl, by rw [List.take_zero]; simpa [ncodes] using HH.out, OutW.refl _ _⟩
  case round =>
    obtain ⟨i, v', hi, rfl, ho, hf⟩ := hrel
    have hi0 : (0 : Int) ≤ (i : Int) := by omega
    have hsl := hf.sl HA.out (by decide) (by decide)
    by_cases hlt : i < l.length
    · have hlti : (i : Int) < (l.length : Int) := by omega
      obtain ⟨b, o, rfl, _, hc⟩ := hsl.rd.at_ (k := i) (by unfold ivs; simpa using hlt)
      unfold ivs at hc
      rw [List.getElem_map] at hc
      have HNX := zh (ncodes_take hlt)
      have hwx := hw l[i] (List.getElem_mem hlt)
      have hlen : (ncodes (l.take i)).length ≤ 900000 := by
        have := ncodes_len (l.take i) (fun x hx => (hw x (List.mem_of_mem_take hx)).2)
        rw [List.length_take] at this
        omega
      obtain ⟨bs', hbs⟩ : ∃ bs', bs' = bs ++ ncodes (l.take i) := ⟨_, rfl⟩
      have hbig : bs'.length ≤ 100000900000 * 1000 := by rw [hbs, List.length_append]; omega
      rw [← hbs] at ho
      have HE : Hid (bs ++ ncodes (l.take (i + 1)) = bs' ++ FieldM.num l[i].toNat) := zh (by rw [HNX.out, hbs, List.append_assoc])
      have HO := zh ho
      have HF := zh hf
      generalize l[i] = x at hc hwx HE
      clear hsl ho hf HNX hbs hlen
      obtain ⟨m, hm'⟩ : ∃ m, m = x.toNat := ⟨_, rfl⟩
      have hwx2 := hwx.2
      have hmb : m < 18446744073709551616 := by omega
      have HMX : Hid (max x 0 = (m : Int)) := zh (by omega)
      rw [← hm'] at HE
      have HCV : Hid (∀ w, (convert 3 105 (.int .i64 (max x 0))).run Tryz.prog w = .ok (.int .u64 (m : Int)) w) := zh fun w => by rw [HMX.out, conv64 (m : Int) w, show ((m : Int) % 18446744073709551616).toNat = m by omega]
      clear hm' hwx hwx2
      have HN : Hid (∀ w', Calls Tryz.prog 86 #[.int .u64 (m : Int)] w' fun e w2 => ∃ v, e = .returned v ∧ Sl w2 w'.heap.size 5 1 v (FieldM.num m).length ((FieldM.num m).map bv) ∧ Fresh w' w2) := zh fun w' => number_any m hmb w'
      have hcell : ∀ w', Fresh wr w' → w'.cell? ⟨c, 0, none⟩ = some v' ∧ w'.frozen? ⟨c, 0, none⟩ = false := fun w' F => ⟨(HO.out.fresh F).1.cell 0, (HO.out.fresh F).1.frozen 0⟩
      have HC := zh hcell
      clear hcell
      have hl9 := num_le9 hmb
      obtain ⟨cs, hcs⟩ : ∃ cs, cs = FieldM.num m := ⟨_, rfl⟩
      rw [← hcs] at HN hl9 HE
      clear hcs hmb
      have HFIN : Hid (∀ w1 w2 v2, Fresh wr w1 → Sl w2 B 5 1 v2 (bs'.length + cs.length) (bs'.map bv ++ cs.map bv) → Frm (fun k => v'.ownBlock = some k) w1 w2 → WrB (w2.setCell ⟨c, 0, none⟩ v2) B c v2 (bs' ++ cs) ∧ OutW B w (w2.setCell ⟨c, 0, none⟩ v2)) := zh fun w1 w2 v2 F1 hs F2 => by
        have := HO.out.put F1 hs F2
        exact ⟨this.1, HF.out.trans this.2⟩
      have HCL : Hid (∀ w1 w2, Fresh wr w1 → Frm (fun k => v'.ownBlock = some k) w1 w2 → w2.frozen? ⟨c, 0, none⟩ = false ∧ w2.cell? ⟨c, 0, none⟩ = some v') := zh fun w1 w2 F1 F2 => by
        have hb1 := (HO.out.fresh F1).1
        have hb2 := hb1.frm F2 ((HO.out.fresh F1).2.2.apart hb1 (by decide))
        exact ⟨hb2.frozen 0, hb2.cell 0⟩
      have HBW : Hid (B ≤ wr.heap.size) := zh (Nat.le_trans hB HF.out.size)
      go_wp2_with fail
      refine wp_region_held_drew (S := fun w' => True) (by kernel_rfl) trivial (fun hHeld => ?_)
      have e1 := HCV.out
      iterate 4 ((first | refine ztn (v := ?_) (zo rfl) ?_ | refine ztz (v := ?_) (zo rfl) ?_); try simp only [Act.put, zT, zZ, zS])
      (refine zt 5 (v := ?_) (zo rfl) ?_; try simp only [Act.put, zT, zZ, zS])
      iterate 2 (refine ztn (v := ?_) (zo rfl) ?_; try simp only [Act.put, zT, zZ, zS])
      refine zr2 4 8 (zo rfl) (zo rfl) (fun K hK => ?_) (fun K hK => ?_)
      · have q1 := (HC.out wr.drew (Frm.refl _ _).drew).1
        go_simp
        refine hK.out _ _ trivial (fun _ => ?_)
        clear hK K q1
        try simp only [Act.put, zT, zZ, zS]
        refine zr1 8 (zo rfl) (fun K hK => ?_)
        go_simp
        refine (HN.out wr.drew).mono ?_
        rintro e w2 ⟨v2, rfl, hs2, f2⟩
        obtain ⟨A2, c2, rfl, n2, m2, _⟩ := hs2.shape
        have F2 : Fresh wr w2 := (Frm.refl _ _).drew.trans f2
        refine hK.out _ _ trivial (fun _ => ?_)
        clear hK K
        try simp only [Act.put, zT, zZ, zS]
        refine zr1 9 (zo rfl) (fun K hK => ?_)
        refine step_append_sl (by rfl) (.tmp 16) (.tmp 20) 56 (by rfl) B 5 i0 _ 1 1 Tryz.underlying56 hi' hz0 hz1 hz2 rfl (by omega) v' bs'.length (bs'.map bv) (by rfl) (HO.out.fresh F2).2.2 _ A2 cs.length c2 (cs.map bv) (by rfl) (by rw [List.length_map, Nat.mul_one]) hs2.rd (bv_one _) (by unfold maxLen; omega) (by omega) (Nat.le_trans HBW.out F2.size) ?_
        intro v5 w5 hs5 hf5 ha5
        obtain ⟨A5, c5, rfl, _, _, _⟩ := hs5.shape
        have HR := zh (HFIN.out w2 w5 _ F2 hs5 hf5)
        obtain ⟨q2, q3⟩ := HCL.out w2 w5 F2 hf5
        refine hK.out _ _ trivial (fun _ => ?_)
        clear hK K hs2 f2 F2 hs5 hf5 ha5
        try simp only [Act.put, zT, zZ, zS]
        (refine zt 10 (v := ?_) (zo rfl) ?_; try simp only [Act.put, zT, zZ, zS])
        (refine ztn (v := ?_) (zo rfl) ?_; try simp only [Act.put, zT, zZ, zS])
        refine zr1 12 (zo rfl) (fun K hK => ?_)
        go_simp
        refine hK.out _ _ trivial (fun _ => ?_)
        clear hK K
        try simp only [Act.put, zT, zZ, zS]
        refine wpAnyH_done (by kernel_rfl) ?_ _
        go_wp2_with fail
        go_roundw
        case rel => exact ⟨i + 1, _, by omega, by go_num, by rw [HE.out]; exact HR.out.1, HR.out.2⟩
        case measure => simp [RowKit.intOf]; omega
      · go_simp
        refine (HN.out wr.drew).mono ?_
        rintro e w2 ⟨v2, rfl, hs2, f2⟩
        obtain ⟨A2, c2, rfl, n2, m2, _⟩ := hs2.shape
        have F2 : Fresh wr w2 := (Frm.refl _ _).drew.trans f2
        refine hK.out _ _ trivial (fun _ => ?_)
        clear hK K
        try simp only [Act.put, zT, zZ, zS]
        have q1 := (HC.out w2 F2).1
        refine zr1 4 (zo rfl) (fun K hK => ?_)
        go_simp
        refine hK.out _ _ trivial (fun _ => ?_)
        clear hK K q1
        try simp only [Act.put, zT, zZ, zS]
        refine zr1 9 (zo rfl) (fun K hK => ?_)
        refine step_append_sl (by rfl) (.tmp 16) (.tmp 20) 56 (by rfl) B 5 i0 _ 1 1 Tryz.underlying56 hi' hz0 hz1 hz2 rfl (by omega) v' bs'.length (bs'.map bv) (by rfl) (HO.out.fresh F2).2.2 _ A2 cs.length c2 (cs.map bv) (by rfl) (by rw [List.length_map, Nat.mul_one]) hs2.rd (bv_one _) (by unfold maxLen; omega) (by omega) (Nat.le_trans HBW.out F2.size) ?_
        intro v5 w5 hs5 hf5 ha5
        obtain ⟨A5, c5, rfl, _, _, _⟩ := hs5.shape
        have HR := zh (HFIN.out w2 w5 _ F2 hs5 hf5)
        obtain ⟨q2, q3⟩ := HCL.out w2 w5 F2 hf5
        refine hK.out _ _ trivial (fun _ => ?_)
        clear hK K hs2 f2 F2 hs5 hf5 ha5
        try simp only [Act.put, zT, zZ, zS]
        (refine zt 10 (v := ?_) (zo rfl) ?_; try simp only [Act.put, zT, zZ, zS])
        (refine ztn (v := ?_) (zo rfl) ?_; try simp only [Act.put, zT, zZ, zS])
        refine zr1 12 (zo rfl) (fun K hK => ?_)
        go_simp
        refine hK.out _ _ trivial (fun _ => ?_)
        clear hK K
        try simp only [Act.put, zT, zZ, zS]
        refine wpAnyH_done (by kernel_rfl) ?_ _
        go_wp2_with fail
        go_roundw
        case rel => exact ⟨i + 1, _, by omega, by go_num, by rw [HE.out]; exact HR.out.1, HR.out.2⟩
        case measure => simp [RowKit.intOf]; omega
    · have hlti : ¬ (i : Int) < (l.length : Int) := by omega
      have HO := zh ho
      have HF := zh hf
      have e : i = l.length := by omega
      clear ho hf hsl
      go_wp2_with fail
      go_end0
      refine ⟨rfl, v', ?_, HF.out⟩
      have := HO.out
      rw [e, List.take_length] at this
      exact this
theorem textW_any (wr : World) (B c : Nat) (hB : B ≤ wr.heap.size) (v' : Value) (bs' : List UInt8) (h : WrB wr B c v' bs') (A : Option Addr) (cap : Nat) (ts : List UInt8) (hA : Rd wr wr.heap.size A (ts.map bv)) (hl : ts.length ≤ 100000000000000) (hn : bs'.length + (FieldM.text ts).length ≤ 140000000000000) :
    Calls Tryz.prog 46 #[.pointer (some ⟨c, 0, none⟩), .slice A ts.length cap] wr fun e w' => WPost wr B c (bs' ++ FieldM.text ts) e w' := by
  obtain ⟨i0, hi', hz0, hz1, hz2⟩ := info_parts info_u8
  have HO := zh h
  have HN : Hid (∀ w', Fresh wr w' → Calls Tryz.prog 87 #[.slice A ts.length cap] w' fun e w2 => ∃ v, e = .returned v ∧ Sl w2 w'.heap.size 5 1 v (FieldM.text ts).length ((FieldM.text ts).map bv) ∧ Fresh w' w2) := zh fun w' F => text_any A cap ts w' ((hA.fresh (Nat.le_refl _) F).more F.size) (by omega)
  have hcell : ∀ w', Fresh wr w' → w'.cell? ⟨c, 0, none⟩ = some v' ∧ w'.frozen? ⟨c, 0, none⟩ = false := fun w' F => ⟨(HO.out.fresh F).1.cell 0, (HO.out.fresh F).1.frozen 0⟩
  have HC := zh hcell
  obtain ⟨cs, hcs⟩ : ∃ cs, cs = FieldM.text ts := ⟨_, rfl⟩
  rw [← hcs] at HN hn ⊢
  have HFIN : Hid (∀ w1 w2 v2, Fresh wr w1 → Sl w2 B 5 1 v2 (bs'.length + cs.length) (bs'.map bv ++ cs.map bv) → Frm (fun k => v'.ownBlock = some k) w1 w2 → WrB (w2.setCell ⟨c, 0, none⟩ v2) B c v2 (bs' ++ cs) ∧ OutW B wr (w2.setCell ⟨c, 0, none⟩ v2)) := zh fun w1 w2 v2 F1 hs F2 => HO.out.put F1 hs F2
  have HCL : Hid (∀ w1 w2, Fresh wr w1 → Frm (fun k => v'.ownBlock = some k) w1 w2 → w2.frozen? ⟨c, 0, none⟩ = false ∧ w2.cell? ⟨c, 0, none⟩ = some v') := zh fun w1 w2 F1 F2 => by
    have hb1 := (HO.out.fresh F1).1
    have hb2 := hb1.frm F2 ((HO.out.fresh F1).2.2.apart hb1 (by decide))
    exact ⟨hb2.frozen 0, hb2.cell 0⟩
  have HBW : Hid (B ≤ wr.heap.size) := zh hB
  clear h hA hcell hcs
  go_in
  go_wp2_with fail
  refine wp_region_held_drew (S := fun w' => True) (by kernel_rfl) trivial (fun hHeld => ?_)
  iterate 4 ((first | refine ztn (v := ?_) (zo rfl) ?_ | refine ztz (v := ?_) (zo rfl) ?_); try simp only [Act.put, zT, zZ, zS])
  (refine zt 5 (v := ?_) (zo rfl) ?_; try simp only [Act.put, zT, zZ, zS])
  refine zr2 4 6 (zo rfl) (zo rfl) (fun K hK => ?_) (fun K hK => ?_)
  · have q1 := (HC.out wr.drew (Frm.refl _ _).drew).1
    go_simp
    refine hK.out _ _ trivial (fun _ => ?_)
    clear hK K q1
    try simp only [Act.put, zT, zZ, zS]
    refine zr1 6 (zo rfl) (fun K hK => ?_)
    go_simp
    refine (HN.out wr.drew (Frm.refl _ _).drew).mono ?_
    rintro e w2 ⟨v2, rfl, hs2, f2⟩
    obtain ⟨A2, c2, rfl, n2, m2, _⟩ := hs2.shape
    have F2 : Fresh wr w2 := (Frm.refl _ _).drew.trans f2
    refine hK.out _ _ trivial (fun _ => ?_)
    clear hK K
    try simp only [Act.put, zT, zZ, zS]
    refine zr1 7 (zo rfl) (fun K hK => ?_)
    refine step_append_sl (by rfl) (.tmp 8) (.tmp 10) 56 (by rfl) B 5 i0 _ 1 1 Tryz.underlying56 hi' hz0 hz1 hz2 rfl (by omega) v' bs'.length (bs'.map bv) (by rfl) (HO.out.fresh F2).2.2 _ A2 cs.length c2 (cs.map bv) (by rfl) (by rw [List.length_map, Nat.mul_one]) hs2.rd (bv_one _) (by unfold maxLen; omega) (by omega) (Nat.le_trans HBW.out F2.size) ?_
    intro v5 w5 hs5 hf5 ha5
    obtain ⟨A5, c5, rfl, _, _, _⟩ := hs5.shape
    have HR := zh (HFIN.out w2 w5 _ F2 hs5 hf5)
    obtain ⟨q2, q3⟩ := HCL.out w2 w5 F2 hf5
    refine hK.out _ _ trivial (fun _ => ?_)
    clear hK K hs2 f2 F2 hs5 hf5 ha5
    try simp only [Act.put, zT, zZ, zS]
    (refine zt 8 (v := ?_) (zo rfl) ?_; try simp only [Act.put, zT, zZ, zS])
    (refine ztn (v := ?_) (zo rfl) ?_; try simp only [Act.put, zT, zZ, zS])
    refine zr1 10 (zo rfl) (fun K hK => ?_)
    go_simp
    refine hK.out _ _ trivial (fun _ => ?_)
    clear hK K
    try simp only [Act.put, zT, zZ, zS]
    refine wpAnyH_done (by kernel_rfl) ?_ _
    go_wp2_with fail
    go_end0
    exact ⟨rfl, _, HR.out⟩
  · go_simp
    refine (HN.out wr.drew (Frm.refl _ _).drew).mono ?_
    rintro e w2 ⟨v2, rfl, hs2, f2⟩
    obtain ⟨A2, c2, rfl, n2, m2, _⟩ := hs2.shape
    have F2 : Fresh wr w2 := (Frm.refl _ _).drew.trans f2
    refine hK.out _ _ trivial (fun _ => ?_)
    clear hK K
    try simp only [Act.put, zT, zZ, zS]
    have q1 := (HC.out w2 F2).1
    refine zr1 4 (zo rfl) (fun K hK => ?_)
    go_simp
    refine hK.out _ _ trivial (fun _ => ?_)
    clear hK K q1
    try simp only [Act.put, zT, zZ, zS]
    refine zr1 7 (zo rfl) (fun K hK => ?_)
    refine step_append_sl (by rfl) (.tmp 8) (.tmp 10) 56 (by rfl) B 5 i0 _ 1 1 Tryz.underlying56 hi' hz0 hz1 hz2 rfl (by omega) v' bs'.length (bs'.map bv) (by rfl) (HO.out.fresh F2).2.2 _ A2 cs.length c2 (cs.map bv) (by rfl) (by rw [List.length_map, Nat.mul_one]) hs2.rd (bv_one _) (by unfold maxLen; omega) (by omega) (Nat.le_trans HBW.out F2.size) ?_
    intro v5 w5 hs5 hf5 ha5
    obtain ⟨A5, c5, rfl, _, _, _⟩ := hs5.shape
    have HR := zh (HFIN.out w2 w5 _ F2 hs5 hf5)
    obtain ⟨q2, q3⟩ := HCL.out w2 w5 F2 hf5
    refine hK.out _ _ trivial (fun _ => ?_)
    clear hK K hs2 f2 F2 hs5 hf5 ha5
    try simp only [Act.put, zT, zZ, zS]
    (refine zt 8 (v := ?_) (zo rfl) ?_; try simp only [Act.put, zT, zZ, zS])
    (refine ztn (v := ?_) (zo rfl) ?_; try simp only [Act.put, zT, zZ, zS])
    refine zr1 10 (zo rfl) (fun K hK => ?_)
    go_simp
    refine hK.out _ _ trivial (fun _ => ?_)
    clear hK K
    try simp only [Act.put, zT, zZ, zS]
    refine wpAnyH_done (by kernel_rfl) ?_ _
    go_wp2_with fail
    go_end0
    exact ⟨rfl, _, HR.out⟩
def errT (k : Int) : List PanicEntry := [{ v := .iface 25 (.int .i64 k), recovered := false }]
def errC (k : Int) : List PanicEntry := [{ v := .iface 25 (.int .i64 k), recovered := true }]
theorem need_yes (k : Int) (w : World) : Calls Tryz.prog 9 #[.bool true, .int .i64 k] w fun e w' => e = .returned (.tuple #[]) ∧ w' = w := by
  go_in
  go_wp2_with fail
  go_end0
  exact ⟨rfl, rfl⟩
theorem need_no (k : Int) (w : World) : Calls Tryz.prog 9 #[.bool false, .int .i64 k] w fun e w' => e = .panicked (errT k) ∧ w' = w := by
  go_in
  go_wp2_with fail
  exact ⟨rfl, rfl, rfl⟩
theorem must_yes (w : World) : Calls Tryz.prog 22 #[.int .i64 0] w fun e w' => e = .returned (.tuple #[]) ∧ w' = w := by
  go_in
  go_wp2_with fail
  go_end0
  exact ⟨rfl, rfl⟩
theorem must_no (k : Int) (hk : k ≠ 0) (w : World) : Calls Tryz.prog 22 #[.int .i64 k] w fun e w' => e = .panicked (errT k) ∧ w' = w := by
  go_in
  go_wp2_with fail
  exact ⟨rfl, rfl, rfl⟩
def replyC (k : Int) : Array Value := #[.int .i64 k, .string ⟨#[]⟩, .int .i64 0, .int .i64 0, .int .i64 0, .int .i64 0, .int .i64 0, .slice none 0 0, .slice none 0 0]
attribute [-go_sem] storeCells in
theorem caught_panic (p : Nat) (w : World) (k : Int) (cs : Array Value) (hs : cs.size = 9) (hb : Blk w p 29 cs) :
    CallsD Tryz.prog 8 #[.pointer (some ⟨p, 0, none⟩)] (.panicking (errT k)) w fun e u' w' =>
      e = .returned (.tuple #[]) ∧ u' = .panicking (errC k) ∧ Frm (fun j => j = p) w w' ∧ Blk w' p 29 (replyC k) := by
  obtain ⟨xs, hxs⟩ : ∃ xs, xs = (replyC k).toList := ⟨_, rfl⟩
  have hta : ∀ w, (Instr.typeAssert (.iface 25 (.int .i64 k)) 20 25 false).run Tryz.prog w = .ok (.int .i64 k) w := fun w => by kernel_rfl
  have hst : (storeCells ⟨p, 0, none⟩ [.int .i64 k, .string ⟨#[]⟩, .int .i64 0, .int .i64 0, .int .i64 0, .int .i64 0, .int .i64 0, .slice none 0 0, .slice none 0 0]).run Tryz.prog w = .ok () (w.setCells p 0 xs) := by
    have hx9 : xs.length = 9 := by rw [hxs]; rfl
    have := run_storeCells_cells (P := Tryz.prog) p 0 xs 0 w (fun j hj => by
      rw [hb.cell, Array.getElem?_eq_getElem (by omega)]
      rfl) (fun j _ => hb.frozen _) (by rw [hxs]; intro v hv; simp [replyC] at hv; rcases hv with rfl | rfl | rfl | rfl <;> rfl)
    rw [hxs] at this ⊢
    exact this
  have h2 : Frm (fun j => j = p) w (w.setCells p 0 xs) := (frm_setCells p xs 0 w).mono (fun i _ e => e.symm)
  have h3 : Blk (w.setCells p 0 xs) p 29 (replyC k) := by
    have := blk_setAll hb (vs := xs) (by rw [hxs, hs]; rfl)
    rw [hxs] at this ⊢
    exact this
  generalize w.setCells p 0 xs = w' at hst h2 h3
  clear hxs
  refine callsD_of_wpS Tryz.func8 rfl fun c₀ cs hu => ?_
  unfold errT at hu
  apply wpS_seq
  apply wpS_region
  simp [wpOpsS, go_sem, recoverD, hu, Tryz.ntmps8, Exit.thenS]
  apply wpS_seq
  apply wpS_region
  simp [wpOpsS, go_sem, Exit.thenS]
  refine wpS_cond (t := true) (by simp [Act.eval, Array.replicate]) ?_
  simp only [if_true]
  apply wpS_region
  simp [wpOpsS, go_sem, hta, hst]
  simp [bodyPostS, results, Tryz.results8, errC]
  exact ⟨h2, h3⟩
theorem caught_idle (p : Nat) (w : World) :
    CallsD Tryz.prog 8 #[.pointer (some ⟨p, 0, none⟩)] .returning w fun e u' w' => e = .returned (.tuple #[]) ∧ u' = .returning ∧ w' = w := by
  refine callsD_of_wpS Tryz.func8 rfl fun c₀ cs hu => ?_
  apply wpS_seq
  apply wpS_region
  simp [wpOpsS, go_sem, recoverD, hu, Tryz.ntmps8, Exit.thenS]
  apply wpS_seq
  apply wpS_region
  simp [wpOpsS, go_sem, Exit.thenS]
  refine wpS_cond (t := false) (by simp [Act.eval, Array.replicate]) ?_
  simp only [Bool.false_eq_true, if_false]
  refine wpS_of_wp (wp_skip ?_)
  cases c₀
  simp_all [bodyPostS, results, Tryz.results8]
end
end Go.Proofs.YtbeaoddjomdlcaaGreatDoor

/- Encode of the document. (Printed by gen23.py.) -/
import Derived.Test.YthofodjklogfgaaQueue23
import Derived.Test.YthofodjklogfgaaNumR
namespace Go.Proofs.Ythofodjklogfgaa
open Go.RowKit QueueM
attribute [local go_sem] run_store_float

set_option maxRecDepth 100000 in
set_option maxHeartbeats 8000000 in
theorem refEncode_any (w : World) (B b : Nat) (v : Value) (l : List Wt) (h : IsR w B b v l) (hg : QueueM.Good l) (hw : Words l) :
    Calls Try.prog 34 #[.pointer (some ⟨b, 0, none⟩)] w fun e w' => EncPost w l e w' := by
  obtain ⟨i0, hi, hz0, hz1, hz2⟩ := info_parts info_u8
  have HQ := Lib.hid h
  have HG := Lib.hid hg
  have HW := Lib.hid hw
  have hfew := hg.few
  obtain ⟨A1, c1, rfl, _, _, _⟩ := h.sl.shape
  have hc0 : w.cell? ⟨b, 0, none⟩ = some (.slice A1 l.length c1) := h.blk.cell 0
  clear h hg hw
  go_enter Try.func34, Try.ntmps34
  go_wp2_with fail
  refine (refNumber_any l.length (by omega) w).mono ?_
  rintro e w1 ⟨v1, rfl, hs1, f1⟩
  have HS1 := Lib.hid hs1
  have HF1 := Lib.hid f1
  have hc1 : w1.cell? ⟨b, 0, none⟩ = some (.slice A1 l.length c1) := (HQ.out.fresh f1).blk.cell 0
  clear hs1 f1 hc0
  go_wp2_with fail
  clear hc1
  go_loopw [3, 4] (fun v3 v4 wr => ∃ (i : Nat) (P : List UInt8), i ≤ l.length ∧ v4 = .int .i64 (i : Int) ∧ P = FieldM.num l.length ++ (l.take i).flatMap wenc ∧ P.length ≤ 9 + 45 * i ∧ Sl wr w.heap.size 5 1 v3 P.length (P.map bv) ∧ Fresh w wr) (fun _ v4 _ => l.length - (intOf v4).toNat)
  case atStart => exact ⟨0, FieldM.num l.length, by omega, rfl, by simp, num_le (by omega), HS1.out, HF1.out⟩
  case round =>
    clear HS1 HF1
    obtain ⟨i, P, hi1, rfl, hP, hPl, hs, hf⟩ := hrel
    have HP := Lib.hid hP
    have HS := Lib.hid hs
    have HF := Lib.hid hf
    have hi0 : (0 : Int) ≤ (i : Int) := by omega
    clear hP
    have hcb : wr.cell? ⟨b, 0, none⟩ = some (.slice A1 l.length c1) := (HQ.out.fresh hf).blk.cell 0
    by_cases hlt : i < l.length
    · obtain ⟨bl, ol, rfl, _, p5⟩ := five_at ((HQ.out.sl.rd.fresh (Nat.le_refl _) hf).more hf.size) hlt
      have hrt := HG.out.right _ (List.getElem_mem hlt)
      have hwd := HW.out _ (List.getElem_mem hlt)
      have HT := Lib.hid (take_wenc l hlt)
      obtain ⟨x, hx⟩ : ∃ x, x = l[i] := ⟨_, rfl⟩
      rw [← hx] at p5 hrt hwd HT
      clear hx
      have hnl := nums_lt hrt hwd
      have hr8 := (right_iff x).1 hrt
      have HKEY := Lib.hid (fun w => refKey_any x.score hwd w)
      clear hwd hrt
      obtain ⟨xi, xc, xm, xt, xs⟩ := x
      obtain ⟨k0, k1, k2, k3, k4⟩ := p5
      dsimp only at k0 k1 k2 k3 k4 hr8 HKEY
      obtain ⟨ii, rfl⟩ := Int.eq_ofNat_of_zero_le (show 0 ≤ xi by omega)
      obtain ⟨ic, rfl⟩ := Int.eq_ofNat_of_zero_le (show 0 ≤ xc by omega)
      obtain ⟨im, rfl⟩ := Int.eq_ofNat_of_zero_le (show 0 ≤ xm by omega)
      obtain ⟨it, rfl⟩ := Int.eq_ofNat_of_zero_le (show 0 ≤ xt by omega)
      obtain ⟨ns, hns⟩ : ∃ ns, ns = nums ⟨(ii : Int), (ic : Int), (im : Int), (it : Int), xs⟩ := ⟨_, rfl⟩
      have HNS : Hid (ns = [ii, ic, im, it, FareM.key xs]) := Lib.hid hns
      have HNL : Hid (∀ n ∈ ns, n < 18446744073709551616) := Lib.hid (by rw [hns]; exact hnl)
      have HWE : Hid (wenc ⟨(ii : Int), (ic : Int), (im : Int), (it : Int), xs⟩ = ns.flatMap FieldM.num) := Lib.hid (by rw [hns]; rfl)
      have hn5 : ns.length = 5 := by rw [HNS.out]; rfl
      rw [HWE.out] at HT
      have r1 : (ii : Int) ≤ 28629151 := hr8.2.1
      have r2 : (ic : Int) ≤ 7 := hr8.2.2.2.1
      have r3 : (im : Int) ≤ 600 := hr8.2.2.2.2.2.1
      have r4 : (it : Int) ≤ 1099511627776 := hr8.2.2.2.2.2.2.2
      have s1 : (0 : Int) ≤ (ii : Int) := by omega
      have s2 : (0 : Int) ≤ (ic : Int) := by omega
      have s3 : (0 : Int) ≤ (im : Int) := by omega
      have s4 : (0 : Int) ≤ (it : Int) := by omega
      have hlti : (i : Int) < (l.length : Int) := by omega
      clear hnl hns hr8
      go_wp2_with fail
      obtain ⟨W, hW⟩ : ∃ W, wr.alloc (.cells #[.int .i64 (ii : Int), .int .i64 (ic : Int), .int .i64 (im : Int), .int .i64 (it : Int), .float .f64 xs] 28) = W := ⟨_, rfl⟩
      rw [hW]
      have FW : Fresh wr W := by rw [← hW]; exact (Frm.refl _ wr).alloc _
      have CELL : Hid (∀ w', Fresh W w' → w'.cell? ⟨wr.heap.size, 0, none⟩ = some (.int .i64 (ii : Int)) ∧ w'.cell? ⟨wr.heap.size, 1, none⟩ = some (.int .i64 (ic : Int)) ∧ w'.cell? ⟨wr.heap.size, 2, none⟩ = some (.int .i64 (im : Int)) ∧ w'.cell? ⟨wr.heap.size, 3, none⟩ = some (.int .i64 (it : Int)) ∧ w'.cell? ⟨wr.heap.size, 4, none⟩ = some (.float .f64 xs)) := Lib.hid fun w' F => by
        have B1 : Blk W wr.heap.size 28 (wcells ⟨(ii : Int), (ic : Int), (im : Int), (it : Int), xs⟩).toArray := by rw [← hW]; exact Blk.new wr _ _
        have d := five_blk (B1.frm F (fun f => f))
        exact ⟨d.1, d.2.1, d.2.2.1, d.2.2.2.1, d.2.2.2.2⟩
      have HFW := Lib.hid FW
      clear hW FW k0 k1 k2 k3 k4 hs hf hcb
      go_wp2_with fail
      go_region_held3 (fun w' => w'.cell? ⟨wr.heap.size, 0, none⟩ = some (.int .i64 (ii : Int)) ∧ w'.cell? ⟨wr.heap.size, 1, none⟩ = some (.int .i64 (ic : Int)) ∧ w'.cell? ⟨wr.heap.size, 2, none⟩ = some (.int .i64 (im : Int)) ∧ w'.cell? ⟨wr.heap.size, 3, none⟩ = some (.int .i64 (it : Int)) ∧ w'.cell? ⟨wr.heap.size, 4, none⟩ = some (.float .f64 xs))
        (first | exact CELL.out _ (Frm.refl _ _) | exact CELL.out _ ((Frm.refl _ _).drew) | exact CELL.out _ (((Frm.refl _ _).alloc _).drew) | exact CELL.out _ (((Frm.refl _ _).drew).alloc _))
        (first
          | (go_at_call 33; refine (HKEY.out _).mono ?_; rintro e w3 ⟨rfl, rfl⟩))
      obtain ⟨w4, hw4⟩ : ∃ w4, (W.alloc (.cells #[.int .u64 (IntKind.u64.wrap (ii : Int)), .int .u64 (IntKind.u64.wrap (ic : Int)), .int .u64 (IntKind.u64.wrap (im : Int)), .int .u64 (IntKind.u64.wrap (it : Int)), .int .u64 (FareM.key xs : Int)] 71)).drew = w4 := ⟨_, rfl⟩
      rw [hw4]
      have F4 : Fresh W w4 := by rw [← hw4]; exact ((Frm.refl _ W).alloc _).drew
      have R5 : Hid (Blk w4 W.heap.size 71 (ns.map fun n : Nat => Value.int .u64 (n : Int)).toArray) := Lib.hid (by
        rw [← hw4, HNS.out, show IntKind.u64.wrap (ii : Int) = (ii : Int) by rw [IntKind.wrap_u64]; omega, show IntKind.u64.wrap (ic : Int) = (ic : Int) by rw [IntKind.wrap_u64]; omega, show IntKind.u64.wrap (im : Int) = (im : Int) by rw [IntKind.wrap_u64]; omega, show IntKind.u64.wrap (it : Int) = (it : Int) by rw [IntKind.wrap_u64]; omega]
        exact Blk.new W 71 #[.int .u64 (ii : Int), .int .u64 (ic : Int), .int .u64 (im : Int), .int .u64 (it : Int), .int .u64 (FareM.key xs : Int)])
      have HF4 := Lib.hid (HFW.out.trans F4)
      have HS4 := Lib.hid (HS.out.fresh HF4.out)
      have HFF := Lib.hid (HF.out.trans HF4.out)
      clear hw4 F4 HS CELL HKEY r1 r2 r3 r4 s1 s2 s3 s4 HNS
      go_wp2_with fail
      go_loopw [3, 7] (fun v3 v7 wr => ∃ (j : Nat) (Q : List UInt8), j ≤ 5 ∧ v7 = .int .i64 (j : Int) ∧ Q = P ++ (ns.take j).flatMap FieldM.num ∧ Sl wr w.heap.size 5 1 v3 Q.length (Q.map bv) ∧ Blk wr W.heap.size 71 (ns.map fun n : Nat => Value.int .u64 (n : Int)).toArray ∧ Fresh w wr) (fun _ v7 _ => 5 - (intOf v7).toNat)
      case atStart => exact ⟨0, P, by omega, rfl, by simp, HS4.out, R5.out, HFF.out⟩
      case round =>
        obtain ⟨j, Q, hj5, rfl, hQ, hsq, hbq, hfq⟩ := hrel
        have HBQ := Lib.hid hbq
        have HQQ := Lib.hid hQ
        have HSQ := Lib.hid hsq
        have HFQ := Lib.hid hfq
        have hj0 : (0 : Int) ≤ (j : Int) := by omega
        have hQl : Q.length ≤ 9 + 45 * i + 9 * j := by
          rw [hQ, List.length_append]
          have := take_le HNL.out j
          omega
        clear hQ hsq hbq hfq
        by_cases hjl : j < 5
        · have hjn : j < ns.length := by omega
          have hcell : wr.cell? ⟨W.heap.size, j, none⟩ = some (.int .u64 (ns[j] : Int)) := by
            rw [HBQ.out.cell]
            simp [hjn]
          have HTF := Lib.hid (take_flat ns hjn)
          have hnl := HNL.out _ (List.getElem_mem hjn)
          obtain ⟨n, hn⟩ : ∃ n, n = ns[j] := ⟨_, rfl⟩
          rw [← hn] at hcell HTF hnl
          clear hn
          have hnum := num_le hnl
          have hji : (j : Int) < 5 := by omega
          go_wp2_with fail
          refine (refNumber_any n hnl wr).mono ?_
          rintro e w5 ⟨v5, rfl, hs5, f5⟩
          have HS5 := Lib.hid hs5
          have HF5 := Lib.hid f5
          have HSQ5 := Lib.hid (HSQ.out.fresh f5)
          obtain ⟨A5, c5, rfl, hc51, hc52, _⟩ := hs5.shape
          have hszw := (HFQ.out.trans f5).size
          clear hs5 f5 hcell
          go_wp2_with (at_builtin; refine wpList_append_sl _ rfl (.tmp 51) (.tmp 56) _ rfl w.heap.size 5 i0 _ 1 1 Try.underlying50 hi hz0 hz1 hz2 rfl (by omega) _ Q.length _ rfl HSQ5.out w5.heap.size A5 (FieldM.num n).length c5 ((FieldM.num n).map bv) rfl (by rw [List.length_map, Nat.mul_one]) HS5.out.rd (bv_one _) (by unfold maxLen; omega) (by omega) hszw ?_; intro v6 w6 hs6 hf6 ha6)
          have HS6 : Hid (Sl w6 w.heap.size 5 1 v6 (Q ++ FieldM.num n).length ((Q ++ FieldM.num n).map bv)) := Lib.hid (by rw [List.length_append, List.map_append]; exact hs6)
          have HB6 : Hid (Blk w6 W.heap.size 71 (ns.map fun n : Nat => Value.int .u64 (n : Int)).toArray) := Lib.hid ((HBQ.out.frm HF5.out (fun f => f)).frm hf6 (HSQ5.out.apart (HBQ.out.frm HF5.out (fun f => f)) (by decide)))
          have HF6 : Hid (Fresh w w6) := Lib.hid ((HFQ.out.trans HF5.out).trans' hf6 (fun k hk hk2 => by have := (HSQ5.out.lt _ hk2).1; omega))
          clear hs6 hf6 ha6
          go_wp2_with fail
          go_roundw
          case rel => exact ⟨j + 1, Q ++ FieldM.num n, by omega, by go_num, by rw [HTF.out, HQQ.out, List.append_assoc], HS6.out, HB6.out, HF6.out⟩
          case measure => simp [intOf]; omega
        · obtain rfl : j = 5 := by omega
          have HQ5 : Hid (Q = FieldM.num l.length ++ (l.take (i + 1)).flatMap wenc) := Lib.hid (by
            rw [HQQ.out, HP.out, HT.out, show ns.take 5 = ns by rw [← hn5, List.take_length], List.append_assoc])
          go_wp2_with fail
          go_roundw
          case rel => exact ⟨i + 1, Q, by omega, by go_num, HQ5.out, by omega, HSQ.out, HFQ.out⟩
          case measure => simp [intOf]; omega
    · obtain rfl : i = l.length := by omega
      have HE : Hid (enc l = P) := Lib.hid (by rw [HP.out, List.take_length]; rfl)
      clear hs hf
      go_wp2_with fail
      go_ret
      exact ⟨_, rfl, by rw [HE.out]; exact HS.out, HF.out⟩
end Go.Proofs.Ythofodjklogfgaa

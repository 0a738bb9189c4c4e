/- Proved here, for the statement TopFairCardSaid: laws that its walk leans on. It holds with no condition. (Put together and shortened by a program out of many texts: Queue23, To55, To56, Read.) -/
import Derived.Test.YtbeaoddjomdlcaaGreatDoorZ35
import Derived.Test.YtbeaoddjomdlcaaGreatDoorZ36
set_option linter.unusedVariables false
set_option linter.unusedSimpArgs false
set_option maxRecDepth 100000
set_option maxHeartbeats 64000000
namespace Go.Proofs.YtbeaoddjomdlcaaGreatDoor
section
open Go.RowKit QueueM
attribute [local go_sem] run_store_float
def EncPost (w : World) (l : List Wt) (e : Ending) (w' : World) : Prop := ∃ v, e = .returned v ∧ Sl w' w.heap.size 5 1 v (enc l).length ((enc l).map bv) ∧ Fresh w w'
set_option maxRecDepth 100000 in
theorem encode_any (w : World) (B b : Nat) (v : Value) (l : List Wt) (h : IsQ w B b v l) (hg : QueueM.Good l) (hw : Words l) :
    Calls Tryz.prog 48 #[.pointer (some ⟨b, 0, none⟩)] w fun e w' => EncPost w l e w' := by
  obtain ⟨i0, hi, hz0, hz1, hz2⟩ := info_parts info_u8
  have HQ := zh h
  have HG := zh hg
  have HW := zh hw
  have hfew := hg.few
  obtain ⟨A1, c1, rfl, _, _, _⟩ := h.sl.shape
  have hc0 : w.cell? ⟨b, 0, none⟩ = some (.slice A1 l.length c1) := h.blk.cell 0
  clear h hg hw
  go_in
  go_wp2_with fail
  refine (number_any l.length (by omega) w).mono ?_
  rintro e w1 ⟨v1, rfl, hs1, f1⟩
  have HS1 := zh hs1
  have HF1 := zh f1
  have hc1 : w1.cell? ⟨b, 0, none⟩ = some (.slice A1 l.length c1) := (HQ.out.fresh f1).blk.cell 0
  clear hs1 f1 hc0
  go_wp2_with fail
  clear hc1
  go_loopw [3, 20] (fun v3 v20 wr => ∃ (i : Nat) (P : List UInt8), i ≤ l.length ∧ v20 = .int .i64 (i : Int) ∧ P = FieldM.num l.length ++ (l.take i).flatMap wenc ∧ P.length ≤ 9 + 45 * i ∧ Sl wr w.heap.size 5 1 v3 P.length (P.map bv) ∧ Fresh w wr) (fun _ v20 _ => l.length - (RowKit.intOf v20).toNat)
  case atStart => exact ⟨0, FieldM.num l.length, by omega, rfl, by simp, num_le (by omega), HS1.out, HF1.out⟩
  case round =>
    clear HS1 HF1
    obtain ⟨i, P, hi1, rfl, hP, hPl, hs, hf⟩ := hrel
    have HP := zh hP
    have HS := zh hs
    have HF := zh hf
    have hi0 : (0 : Int) ≤ (i : Int) := by omega
    clear hP
    skip
    by_cases hlt : i < l.length
    · obtain ⟨bl, ol, rfl, _, p5⟩ := five_at ((HQ.out.sl.rd.fresh (Nat.le_refl _) hf).more hf.size) hlt
      have hrt := HG.out.right _ (List.getElem_mem hlt)
      have hwd := HW.out _ (List.getElem_mem hlt)
      have HT := zh (take_wenc l hlt)
      obtain ⟨x, hx⟩ : ∃ x, x = l[i] := ⟨_, rfl⟩
      rw [← hx] at p5 hrt hwd HT
      clear hx
      have hnl := nums_lt hrt hwd
      have hr8 := (right_iff x).1 hrt
      have HKEY := zh (fun w => key_any x.score hwd w)
      clear hwd hrt
      obtain ⟨xi, xc, xm, xt, xs⟩ := x
      obtain ⟨k0, k1, k2, k3, k4⟩ := p5
      dsimp only at k0 k1 k2 k3 k4 hr8 HKEY
      obtain ⟨ii, rfl⟩ := Int.eq_ofNat_of_zero_le (show 0 ≤ xi by omega)
      obtain ⟨ic, rfl⟩ := Int.eq_ofNat_of_zero_le (show 0 ≤ xc by omega)
      obtain ⟨im, rfl⟩ := Int.eq_ofNat_of_zero_le (show 0 ≤ xm by omega)
      obtain ⟨it, rfl⟩ := Int.eq_ofNat_of_zero_le (show 0 ≤ xt by omega)
      obtain ⟨ns, hns⟩ : ∃ ns, ns = nums ⟨(ii : Int), (ic : Int), (im : Int), (it : Int), xs⟩ := ⟨_, rfl⟩
      have HNS : Hid (ns = [ii, ic, im, it, FareM.key xs]) := zh hns
      have HNL : Hid (∀ n ∈ ns, n < 18446744073709551616) := zh (by rw [hns]; exact hnl)
      have HWE : Hid (wenc ⟨(ii : Int), (ic : Int), (im : Int), (it : Int), xs⟩ = ns.flatMap FieldM.num) := zh (by rw [hns]; rfl)
      have hn5 : ns.length = 5 := by rw [HNS.out]; rfl
      rw [HWE.out] at HT
      have r1 : (ii : Int) ≤ 28629151 := hr8.2.1
      have r2 : (ic : Int) ≤ 7 := hr8.2.2.2.1
      have r3 : (im : Int) ≤ 600 := hr8.2.2.2.2.2.1
      have r4 : (it : Int) ≤ 1099511627776 := hr8.2.2.2.2.2.2.2
      have s1 : (0 : Int) ≤ (ii : Int) := by omega
      have s2 : (0 : Int) ≤ (ic : Int) := by omega
      have s3 : (0 : Int) ≤ (im : Int) := by omega
      have s4 : (0 : Int) ≤ (it : Int) := by omega
      have hlti : (i : Int) < (l.length : Int) := by omega
      clear hnl hns hr8
      go_wp2_with fail
      obtain ⟨W, hW⟩ : ∃ W, wr.alloc (.cells #[.int .i64 (ii : Int), .int .i64 (ic : Int), .int .i64 (im : Int), .int .i64 (it : Int), .float .f64 xs] 141) = W := ⟨_, rfl⟩
      rw [hW]
      have FW : Fresh wr W := by rw [← hW]; exact (Frm.refl _ wr).alloc _
      have CELL : Hid (∀ w', Fresh W w' → w'.cell? ⟨wr.heap.size, 0, none⟩ = some (.int .i64 (ii : Int)) ∧ w'.cell? ⟨wr.heap.size, 1, none⟩ = some (.int .i64 (ic : Int)) ∧ w'.cell? ⟨wr.heap.size, 2, none⟩ = some (.int .i64 (im : Int)) ∧ w'.cell? ⟨wr.heap.size, 3, none⟩ = some (.int .i64 (it : Int)) ∧ w'.cell? ⟨wr.heap.size, 4, none⟩ = some (.float .f64 xs)) := zh fun w' F => by
        have B1 : Blk W wr.heap.size 141 (wcells ⟨(ii : Int), (ic : Int), (im : Int), (it : Int), xs⟩).toArray := by rw [← hW]; exact Blk.new wr _ _
        have d := five_blk (B1.frm F (fun f => f))
        exact ⟨d.1, d.2.1, d.2.2.1, d.2.2.2.1, d.2.2.2.2⟩
      have HFW := zh FW
      clear hW FW k0 k1 k2 k3 k4 hs hf
      go_wp2_with fail
      go_region_held3 (fun w' => w'.cell? ⟨wr.heap.size, 0, none⟩ = some (.int .i64 (ii : Int)) ∧ w'.cell? ⟨wr.heap.size, 1, none⟩ = some (.int .i64 (ic : Int)) ∧ w'.cell? ⟨wr.heap.size, 2, none⟩ = some (.int .i64 (im : Int)) ∧ w'.cell? ⟨wr.heap.size, 3, none⟩ = some (.int .i64 (it : Int)) ∧ w'.cell? ⟨wr.heap.size, 4, none⟩ = some (.float .f64 xs))
        (first | exact CELL.out _ (Frm.refl _ _) | exact CELL.out _ ((Frm.refl _ _).drew) | exact CELL.out _ (((Frm.refl _ _).alloc _).drew) | exact CELL.out _ (((Frm.refl _ _).drew).alloc _))
        (first
          | (go_at_call 91; refine (HKEY.out _).mono ?_; rintro e w3 ⟨rfl, rfl⟩))
      obtain ⟨w4, hw4⟩ : ∃ w4, (W.alloc (.cells #[.int .u64 (IntKind.u64.wrap (ii : Int)), .int .u64 (IntKind.u64.wrap (ic : Int)), .int .u64 (IntKind.u64.wrap (im : Int)), .int .u64 (IntKind.u64.wrap (it : Int)), .int .u64 (FareM.key xs : Int)] 105)).drew = w4 := ⟨_, rfl⟩
      rw [hw4]
      have F4 : Fresh W w4 := by rw [← hw4]; exact ((Frm.refl _ W).alloc _).drew
      have R5 : Hid (Blk w4 W.heap.size 105 (ns.map fun n : Nat => Value.int .u64 (n : Int)).toArray) := zh (by
        rw [← hw4, HNS.out, show IntKind.u64.wrap (ii : Int) = (ii : Int) by rw [IntKind.wrap_u64]; omega, show IntKind.u64.wrap (ic : Int) = (ic : Int) by rw [IntKind.wrap_u64]; omega, show IntKind.u64.wrap (im : Int) = (im : Int) by rw [IntKind.wrap_u64]; omega, show IntKind.u64.wrap (it : Int) = (it : Int) by rw [IntKind.wrap_u64]; omega]
        exact Blk.new W 105 #[.int .u64 (ii : Int), .int .u64 (ic : Int), .int .u64 (im : Int), .int .u64 (it : Int), .int .u64 (FareM.key xs : Int)])
      have HF4 := zh (HFW.out.trans F4)
      have HS4 := zh (HS.out.fresh HF4.out)
      have HFF := zh (HF.out.trans HF4.out)
      clear hw4 F4 HS CELL HKEY r1 r2 r3 r4 s1 s2 s3 s4 HNS
      go_wp2_with fail
      go_loopw [3, 46] (fun v3 v46 wr => ∃ (j : Nat) (Q : List UInt8), j ≤ 5 ∧ v46 = .int .i64 (j : Int) ∧ Q = P ++ (ns.take j).flatMap FieldM.num ∧ Sl wr w.heap.size 5 1 v3 Q.length (Q.map bv) ∧ Blk wr W.heap.size 105 (ns.map fun n : Nat => Value.int .u64 (n : Int)).toArray ∧ Fresh w wr) (fun _ v46 _ => 5 - (RowKit.intOf v46).toNat)
      case atStart => exact ⟨0, P, by omega, rfl, by simp, HS4.out, R5.out, HFF.out⟩
      case round =>
        obtain ⟨j, Q, hj5, rfl, hQ, hsq, hbq, hfq⟩ := hrel
        have HBQ := zh hbq
        have HQQ := zh hQ
        have HSQ := zh hsq
        have HFQ := zh hfq
        have hj0 : (0 : Int) ≤ (j : Int) := by omega
        have hQl : Q.length ≤ 9 + 45 * i + 9 * j := by
          rw [hQ, List.length_append]
          have := take_le HNL.out j
          omega
        clear hQ hsq hbq hfq
        by_cases hjl : j < 5
        · have hjn : j < ns.length := by omega
          have hcell : wr.cell? ⟨W.heap.size, j, none⟩ = some (.int .u64 (ns[j] : Int)) := by
            rw [HBQ.out.cell]
            simp [hjn]
          have HTF := zh (take_flat ns hjn)
          have hnl := HNL.out _ (List.getElem_mem hjn)
          obtain ⟨n, hn⟩ : ∃ n, n = ns[j] := ⟨_, rfl⟩
          rw [← hn] at hcell HTF hnl
          clear hn
          have hnum := num_le hnl
          have hji : (j : Int) < 5 := by omega
          go_wp2_with fail
          refine (number_any n hnl wr).mono ?_
          rintro e w5 ⟨v5, rfl, hs5, f5⟩
          have HS5 := zh hs5
          have HF5 := zh f5
          have HSQ5 := zh (HSQ.out.fresh f5)
          obtain ⟨A5, c5, rfl, hc51, hc52, _⟩ := hs5.shape
          have hszw := (HFQ.out.trans f5).size
          clear hs5 f5 hcell
          go_wp2_with (at_builtin; refine wpList_append_sl _ rfl (.tmp 50) (.tmp 52) _ rfl w.heap.size 5 i0 _ 1 1 Tryz.underlying56 hi hz0 hz1 hz2 rfl (by omega) _ Q.length _ rfl HSQ5.out w5.heap.size A5 (FieldM.num n).length c5 ((FieldM.num n).map bv) rfl (by rw [List.length_map, Nat.mul_one]) HS5.out.rd (bv_one _) (by unfold maxLen; omega) (by omega) hszw ?_; intro v6 w6 hs6 hf6 ha6)
          have HS6 : Hid (Sl w6 w.heap.size 5 1 v6 (Q ++ FieldM.num n).length ((Q ++ FieldM.num n).map bv)) := zh (by rw [List.length_append, List.map_append]; exact hs6)
          have HB6 : Hid (Blk w6 W.heap.size 105 (ns.map fun n : Nat => Value.int .u64 (n : Int)).toArray) := zh ((HBQ.out.frm HF5.out (fun f => f)).frm hf6 (HSQ5.out.apart (HBQ.out.frm HF5.out (fun f => f)) (by decide)))
          have HF6 : Hid (Fresh w w6) := zh ((HFQ.out.trans HF5.out).trans' hf6 (fun k hk hk2 => by have := (HSQ5.out.lt _ hk2).1; omega))
          clear hs6 hf6 ha6
          go_wp2_with fail
          go_roundw
          case rel => exact ⟨j + 1, Q ++ FieldM.num n, by omega, by go_num, by rw [HTF.out, HQQ.out, List.append_assoc], HS6.out, HB6.out, HF6.out⟩
          case measure => simp [RowKit.intOf]; omega
        · obtain rfl : j = 5 := by omega
          have HQ5 : Hid (Q = FieldM.num l.length ++ (l.take (i + 1)).flatMap wenc) := zh (by
            rw [HQQ.out, HP.out, HT.out, show ns.take 5 = ns by rw [← hn5, List.take_length], List.append_assoc])
          go_wp2_with fail
          go_roundw
          case rel => exact ⟨i + 1, Q, by omega, by go_num, HQ5.out, by omega, HSQ.out, HFQ.out⟩
          case measure => simp [RowKit.intOf]; omega
    · obtain rfl : i = l.length := by omega
      have HE : Hid (enc l = P) := zh (by rw [HP.out, List.take_length]; rfl)
      clear hs hf
      go_wp2_with fail
      go_ret
      exact ⟨_, rfl, by rw [HE.out]; exact HS.out, HF.out⟩
end
section
open Go.RowKit
open QueueM (Wt)
def place2 (p : List UInt8 × List Wt) : List UInt8 := FieldM.text p.1 ++ FieldM.text (QueueM.enc p.2)
def saveB (tm nx : Int) (ps : List (List UInt8 × List Wt)) (tl : List UInt8) : List UInt8 := ncodes [tm, nx, (ps.length : Int)] ++ ps.flatMap place2 ++ tl
theorem enc_le {l : List Wt} (hg : QueueM.Good l) (hw : Words l) : (QueueM.enc l).length ≤ 20000 := by
  have hl := hg.few
  have hr := hg.right
  clear hg
  unfold QueueM.enc
  rw [List.length_append]
  have h1 : (FieldM.num l.length).length ≤ 9 := num_le9 (by omega)
  have h2 : (l.flatMap QueueM.wenc).length ≤ 45 * l.length := by
    clear h1 hl
    induction l with
    | nil => simp
    | cons x r ih =>
      have h3 := ih (fun y hy => hw y (List.mem_cons_of_mem _ hy)) (fun y hy => hr y (List.mem_cons_of_mem _ hy))
      have h4 : (QueueM.wenc x).length ≤ 45 := QueueM.flat_le _ (QueueM.nums_lt (hr x (List.mem_cons_self ..)) (hw x (List.mem_cons_self ..)))
      rw [List.flatMap_cons, List.length_append, List.length_cons]
      omega
  omega
theorem text_le (b : List UInt8) (h : b.length < 18446744073709551616) : (FieldM.text b).length ≤ 9 + b.length := by
  unfold FieldM.text
  rw [List.length_append]
  have : (FieldM.num b.length).length ≤ 9 := num_le9 h
  omega
theorem place2_le {p : List UInt8 × List Wt} (h1 : p.1.length ≤ 2800000000000) (h2 : (QueueM.enc p.2).length ≤ 20000) : (place2 p).length ≤ 2800000030000 := by
  unfold place2
  rw [List.length_append]
  have h3 := text_le p.1 (by omega)
  have h4 := text_le (QueueM.enc p.2) (by omega)
  omega
theorem flat2_le : ∀ (ps : List (List UInt8 × List Wt)), (∀ p ∈ ps, p.1.length ≤ 2800000000000 ∧ (QueueM.enc p.2).length ≤ 20000) → (ps.flatMap place2).length ≤ 2800000030000 * ps.length
  | [], _ => by simp
  | p :: r, h => by
    have h1 := place2_le (h p (List.mem_cons_self ..)).1 (h p (List.mem_cons_self ..)).2
    have h2 := flat2_le r (fun q hq => h q (List.mem_cons_of_mem _ hq))
    rw [List.flatMap_cons, List.length_append, List.length_cons]
    omega
def wsOf (b : BoM) (k : Int) : List Wt := match b.P k with
  | some x => x.ws
  | none => []
theorem wsOf_some {b : BoM} {k : Int} {x : PlM} (h : b.P k = some x) : wsOf b k = x.ws := by unfold wsOf; rw [h]
def SavePost (w : World) (b : BoM) (e : Ending) (w' : World) : Prop :=
  ∃ (v : Value) (ps : List (List UInt8 × List Wt)) (ns : List Int) (tl : List UInt8), e = .returned v ∧ Sl w' w.heap.size 5 1 v (saveB b.tm b.nx ps tl).length ((saveB b.tm b.nx ps tl).map bv) ∧ Fresh w w' ∧
    ns.Pairwise (· < ·) ∧ (∀ k, k ∈ ns ↔ (b.P k).isSome = true) ∧ ps.map Prod.snd = ns.map (wsOf b) ∧ ns.length ≤ 8 ∧ (saveB b.tm b.nx ps tl).length ≤ 100000000000000 ∧ ∀ p ∈ ps, p.1.length ≤ 2800000000000
theorem OutW.frS {B : Nat} {w w1 w2 : World} (F : Fresh w w1) (G : OutW B w1 w2) (h : w.heap.size ≤ B) : Fresh w w2 := Frm.trans' F G (fun i hi t => by have := t.2; omega)
theorem save_any (w : World) (B : Nat) (hB : B ≤ w.heap.size) (b : BoM) (h : BookP w B b) :
    Calls Tryz.prog 18 #[.pointer (some ⟨b.b, 0, none⟩)] w fun e w' => SavePost w b e w' := by
  obtain ⟨W, hW⟩ : ∃ W, w.alloc (.cells #[.slice none 0 0] 117) = W := ⟨_, rfl⟩
  have HFW : Hid (Fresh w W) := zh (by rw [← hW]; exact (Frm.refl _ w).alloc _)
  have HWR : Hid (WrB W w.heap.size w.heap.size (.slice none 0 0) []) := zh ⟨by rw [← hW]; exact Blk.new _ _ _, Nat.le_refl _, Sl.nil _ _ _ _⟩
  have HWS : Hid (W.heap.size = w.heap.size + 1) := zh (by rw [← hW]; exact Array.size_push _)
  obtain ⟨ks, hknd, hkm, hkl, _⟩ := (h.fresh HFW.out).fmv.len h.kbP (t := 42) Tryz.underlying42
  have HS2b : Hid (∀ w', Fresh w w' → (w'.cell? ⟨b.b, 0, none⟩ = some (.int .i64 b.tm) ∧ w'.cell? ⟨b.b, 1, none⟩ = some (.int .i64 b.nx) ∧ w'.cell? ⟨b.b, 2, none⟩ = some (.map (some b.fm))) ∧ ∀ ty, (Builtin.len_ #[42] ty #[.map (some b.fm)]).run Tryz.prog w' = .ok (.int .i64 (ks.length : Int)) w') := zh fun w' F => by
    have hq := h.fresh F
    obtain ⟨ks', h1, h2, h3, h4⟩ := hq.fmv.len h.kbP (t := 42) Tryz.underlying42
    have e : ks'.length = ks.length := ((List.perm_ext_iff_of_nodup h1 hknd).2 (fun k => (h2 k).trans (hkm k).symm)).length_eq
    refine ⟨⟨hq.blk.cell 0, hq.blk.cell 1, hq.blk.cell 2⟩, fun ty => ?_⟩
    rw [h4 ty, e]
  have HS2 := zh (fun w' (F : Fresh W w') => HS2b.out w' (HFW.out.trans F))
  have HH := zh h
  have HK := zh (And.intro hknd hkm)
  have hk8 : ks.length ≤ 8 := by
    obtain ⟨l8, h1, h2⟩ := h.few
    refine Nat.le_trans (List.Nodup.length_le_of_subset hknd (fun k hk => h2 k ?_)) h1
    have := (hkm k).1 hk
    unfold BoM.fv at this
    rw [Option.isSome_map] at this
    exact this
  have HK8 := zh hk8
  have HHW : Hid (∀ x ∈ [b.tm, b.nx, (ks.length : Int)], wf64 x) := zh (by
    have h1 := h.tw
    have h2 := h.nw
    intro x hx
    simp at hx
    rcases hx with rfl | rfl | rfl
    · exact ⟨by omega, by omega⟩
    · exact ⟨by omega, by omega⟩
    · exact ⟨by omega, by omega⟩)
  clear h hknd hkm hk8
  go_in
  go_upto_region 2 with fail
  try rw [hW]
  clear hW
  refine wp_region_held_drew (S := fun w' => (w'.cell? ⟨b.b, 0, none⟩ = some (.int .i64 b.tm) ∧ w'.cell? ⟨b.b, 1, none⟩ = some (.int .i64 b.nx) ∧ w'.cell? ⟨b.b, 2, none⟩ = some (.map (some b.fm))) ∧ ∀ ty, (Builtin.len_ #[42] ty #[.map (some b.fm)]).run Tryz.prog w' = .ok (.int .i64 (ks.length : Int)) w') (by kernel_rfl) (HS2.out _ (Frm.refl _ _).drew) (fun hHeld => ?_)
  iterate 14 ((first | refine ztn (v := ?_) (zo rfl) ?_ | refine ztz (v := ?_) (zo rfl) ?_); try simp only [Act.put, zT, zZ, zS])
  refine zr1 14 (zo rfl) (fun K hK => ?_)
  go_simp
  obtain ⟨Ua, hUa⟩ : ∃ U, (W.alloc (.cells #[.int .i64 b.tm, .int .i64 b.nx, .int .i64 (ks.length : Int)] 3)).drew = U := ⟨_, rfl⟩
  have HFUa : Hid (Fresh W Ua) := zh (by rw [← hUa]; exact ((Frm.refl _ _).alloc _).drew)
  have HSUa : Hid (Sl Ua W.heap.size 3 1 (.slice (some ⟨W.heap.size, 0, none⟩) 3 3) 3 (ivs [b.tm, b.nx, (ks.length : Int)])) := zh (by rw [← hUa]; exact (sl_new W W.heap.size (ivs [b.tm, b.nx, (ks.length : Int)]) 3 (Nat.le_refl _) (by unfold maxLen; simp [ivs])).fresh (Frm.refl (fun _ => False) _).drew)
  have HWUa := zh (HWR.out.fresh HFUa.out)
  rw [hUa]
  clear hUa
  refine hK.out _ _ (HS2.out _ HFUa.out) (fun hHeld => ?_)
  clear hK K
  try simp only [Act.put, zT, zZ, zS]
  refine zr1 15 (zo rfl) (fun K hK => ?_)
  go_simp
  refine ((numbersW_any Ua w.heap.size w.heap.size (by have := HFW.out.size; have := HFUa.out.size; omega) (.slice none 0 0) [] HWUa.out W.heap.size (some ⟨W.heap.size, 0, none⟩) 3 [b.tm, b.nx, (ks.length : Int)] HSUa.out (by simp) HHW.out (by simp))).mono ?_
  rintro e wA ⟨rfl, vA, hwA, foA⟩
  have HWA := zh hwA
  have HFA : Hid (Fresh w wA) := zh (OutW.frS (HFW.out.trans HFUa.out) foA (Nat.le_refl _))
  clear foA hwA
  refine hK.out _ _ (HS2b.out _ HFA.out) (fun hHeld => ?_)
  clear hK K
  try simp only [Act.put, zT, zZ, zS]
  refine wpAnyH_done (by kernel_rfl) ?_ _
  have HWA2 : Hid (WrB wA w.heap.size w.heap.size vA (ncodes [b.tm, b.nx, (ks.length : Int)])) := zh (by have := HWA.out; rw [List.nil_append] at this; exact this)
  have y2 : wA.cell? ⟨b.b, 2, none⟩ = some (.map (some b.fm)) := (HH.out.fresh HFA.out).blk.cell 2
  clear HWA HFUa HSUa HWUa HS2 HS2b HWR
  go_wp2_with fail
  refine (keysPl_any (some b.fm) wA).mono ?_
  rintro e w4 ⟨rfl, rfl⟩
  go_wp2_with fail
  refine (sortedPl_any wA b.fm b.fv (HH.out.fresh HFA.out).fmv HH.out.kbP).mono ?_
  rintro e V4 ⟨v4, ns, rfl, hpw, hks, hlen, hsl, f4⟩
  obtain ⟨A4, c4, rfl, _, _, _⟩ := hsl.shape
  have hf34 : Fresh wA V4 := ((Frm.refl _ wA).alloc _).trans f4
  have HF4 : Hid (Fresh w V4) := zh (HFA.out.trans hf34)
  have HWR4 := zh (HWA2.out.fresh hf34)
  have HPW := zh hpw
  have HKS : Hid (∀ k, k ∈ ns ↔ (b.P k).isSome = true) := zh (fun k => by have := hks k; unfold BoM.fv at this; rw [Option.isSome_map] at this; exact this)
  have HNL : Hid (ks.length = ns.length) := zh ((List.perm_ext_iff_of_nodup HK.out.1 (hpw.imp (fun h e => by omega))).2 (fun k => (HK.out.2 k).trans (hks k).symm)).length_eq
  have HSL := zh hsl
  clear hpw hks hlen hsl f4 hf34 HWA2 y2
  go_wp2_with fail
  go_loopw [35] (fun v35 wr => ∃ (i : Nat) (v : Value) (ps : List (List UInt8 × List Wt)), i ≤ ns.length ∧ v35 = .int .i64 (i : Int) ∧ WrB wr w.heap.size w.heap.size v (ncodes [b.tm, b.nx, (ks.length : Int)] ++ ps.flatMap place2) ∧ OutW w.heap.size V4 wr ∧ ps.length = i ∧ ps.map Prod.snd = (ns.take i).map (wsOf b) ∧ ∀ p ∈ ps, p.1.length ≤ 2800000000000 ∧ (QueueM.enc p.2).length ≤ 20000) (fun v35 _ => ns.length - (RowKit.intOf v35).toNat)
  case atStart => exact ⟨0, vA, [], by omega, rfl, by rw [List.flatMap_nil, List.append_nil]; exact HWR4.out, OutW.refl _ _, rfl, rfl, fun p hp => by cases hp⟩
  case round =>
    obtain ⟨i, v, ps, hi, rfl, hwr, hout, hpl, hpm, hpb⟩ := hrel
    have HWRr := zh hwr
    have HOUT := zh hout
    have HPL := zh hpl
    have HPM := zh hpm
    have HPB := zh hpb
    have HFR : Hid (Fresh w wr) := zh (OutW.frS HF4.out hout (Nat.le_refl _))
    have HBL : Hid ((ncodes [b.tm, b.nx, (ks.length : Int)] ++ ps.flatMap place2).length ≤ 27 + 2800000030000 * i ∧ i ≤ 8) := zh (by
      have h1 := ncodes_len [b.tm, b.nx, (ks.length : Int)] (fun x hx => (HHW.out x hx).2)
      have h2 := flat2_le ps hpb
      rw [hpl] at h2
      rw [List.length_append]
      simp at h1
      have := HK8.out
      have := HNL.out
      omega)
    have hi0 : (0 : Int) ≤ (i : Int) := by omega
    have hll : ns.length ≤ 8 := by have := HK8.out; have := HNL.out; omega
    clear hwr hout hpl hpm hpb
    by_cases hlt : i < ns.length
    · have hlti : (i : Int) < (ns.length : Int) := by omega
      have HSL1 := zh (HOUT.out.sl HSL.out (by decide) (by decide))
      obtain ⟨g, o, rfl, _, hc⟩ := HSL1.out.rd.at_ (k := i) (by unfold ivs; simpa using hlt)
      unfold ivs at hc
      rw [List.getElem_map] at hc
      obtain ⟨x, hx⟩ := Option.isSome_iff_exists.1 ((HKS.out ns[i]).1 (List.getElem_mem hlt))
      have HTK : Hid ((ns.take (i + 1)).map (wsOf b) = (ns.take i).map (wsOf b) ++ [x.ws]) := zh (by
        rw [List.take_succ_eq_append_getElem hlt, List.map_append, List.map_singleton, wsOf_some hx])
      obtain ⟨k, hk⟩ : ∃ k, ns[i] = k := ⟨_, rfl⟩
      rw [hk] at hc hx
      have HX := zh hx
      have hkw : wf64 k := by have := (HH.out.pl k x hx).1.kb; exact ⟨by omega, by omega⟩
      have hlk := (HH.out.fresh HFR.out).fmv.at' (t := 42) Tryz.underlying42 (z := .agg #[.pointer none, .pointer none]) (fun _ => by kernel_rfl) (k := k) hkw
      rw [BoM.fv_some hx] at hlk
      dsimp only [Option.getD, PlM.val] at hlk
      have y2 : wr.cell? ⟨b.b, 2, none⟩ = some (.map (some b.fm)) := (HH.out.fresh HFR.out).blk.cell 2
      obtain ⟨V5, hV5⟩ : ∃ V5, wr.alloc (.cells #[.pointer (some ⟨x.M.f, 0, none⟩), .pointer (some ⟨x.q, 0, none⟩)] 75) = V5 := ⟨_, rfl⟩
      have f5 : Fresh wr V5 := by rw [← hV5]; exact (Frm.refl _ _).alloc _
      have HF5 := zh f5
      have HBP5 : Hid (Blk V5 wr.heap.size 75 #[.pointer (some ⟨x.M.f, 0, none⟩), .pointer (some ⟨x.q, 0, none⟩)]) := zh (by rw [← hV5]; exact Blk.new _ _ _)
      have q0 : V5.cell? ⟨wr.heap.size, 0, none⟩ = some (.pointer (some ⟨x.M.f, 0, none⟩)) := HBP5.out.cell 0
      have HEF := zh (encodeF_any V5 B x.M ((HH.out.fresh (HFR.out.trans f5)).pl k x hx).1.f)
      clear hx hk hkw f5
      go_upto_region 7 with fail
      try rw [hV5]
      clear hV5 y2 hlk hc
      go_wp2_with fail
      refine HEF.out.mono ?_
      rintro e w6 ⟨v6, fe, rfl, hfe, s6, f6⟩
      obtain ⟨A6, c6, rfl, _, _, _⟩ := s6.shape
      have HF6 : Hid (Fresh wr w6) := zh (HF5.out.trans f6)
      have HBP6 := zh (HBP5.out.frm f6 (fun f => f))
      have HFE := zh hfe
      have HT6 := zh (textW_any w6 w.heap.size w.heap.size (by have := HFR.out.size; have := HF6.out.size; omega) v _ (HWRr.out.fresh HF6.out) A6 c6 fe s6.rd (by omega) (by have h1 := HBL.out; have h2 := text_le fe (by omega); omega))
      clear hfe s6 f6 HEF HBP5 q0
      go_wp2_with fail
      refine HT6.out.mono ?_
      rintro e w7 ⟨rfl, v7, hw7, fo7⟩
      have HW7 := zh hw7
      have HFR7 : Hid (Fresh w w7) := zh (OutW.frS (HFR.out.trans HF6.out) fo7 (Nat.le_refl _))
      have HOUT7 := zh (OutW.trans (OutW.trans HOUT.out (OutW.of HF6.out)) fo7)
      have HBP7 := zh (fo7.blk HBP6.out (by decide) (by decide))
      have q1 : w7.cell? ⟨wr.heap.size, 1, none⟩ = some (.pointer (some ⟨x.q, 0, none⟩)) := HBP7.out.cell 1
      have HPX := zh (HH.out.pl k x HX.out).1
      have HEQ := zh (encode_any w7 B x.q x.v x.ws ((HH.out.fresh HFR7.out).pl k x HX.out).1.q HPX.out.g HPX.out.wd)
      clear hw7 fo7 HT6 HBP6
      go_wp2_with fail
      refine HEQ.out.mono ?_
      rintro e w8 ⟨v8, rfl, s8, f8⟩
      obtain ⟨A8, c8, rfl, _, _, _⟩ := s8.shape
      have HF8 := zh f8
      have HEL : Hid ((QueueM.enc x.ws).length ≤ 20000) := zh (enc_le HPX.out.g HPX.out.wd)
      have HT8 := zh (textW_any w8 w.heap.size w.heap.size (by have := HFR7.out.size; have := f8.size; omega) v7 _ (HW7.out.fresh f8) A8 c8 (QueueM.enc x.ws) s8.rd (by have := HEL.out; omega) (by
        have h1 := HBL.out
        have h2 := text_le fe (by have := HFE.out; omega)
        have h3 := text_le (QueueM.enc x.ws) (by have := HEL.out; omega)
        have h4 := HFE.out
        have h5 := HEL.out
        rw [List.length_append]
        omega))
      clear s8 f8 HEQ q1
      go_wp2_with fail
      refine HT8.out.mono ?_
      rintro e w9 ⟨rfl, v9, hw9, fo9⟩
      have HFIN : Hid (∃ (j : Nat) (v : Value) (ps : List (List UInt8 × List Wt)), j ≤ ns.length ∧ Value.int .i64 ((i : Int) + 1) = .int .i64 (j : Int) ∧ WrB w9 w.heap.size w.heap.size v (ncodes [b.tm, b.nx, (ks.length : Int)] ++ ps.flatMap place2) ∧ OutW w.heap.size V4 w9 ∧ ps.length = j ∧ ps.map Prod.snd = (ns.take j).map (wsOf b) ∧ ∀ p ∈ ps, p.1.length ≤ 2800000000000 ∧ (QueueM.enc p.2).length ≤ 20000) := zh
        ⟨i + 1, v9, ps ++ [(fe, x.ws)], by omega, by push_cast; rfl, by rw [List.flatMap_append, List.flatMap_singleton]; unfold place2; rw [← List.append_assoc, ← List.append_assoc]; exact hw9,
          OutW.trans (OutW.trans HOUT7.out (OutW.of HF8.out)) fo9, by rw [List.length_append, HPL.out]; rfl, by rw [List.map_append, HPM.out, HTK.out]; rfl, fun p hp => by
            rcases List.mem_append.1 hp with hp | hp
            · exact HPB.out p hp
            · rw [List.mem_singleton] at hp
              rw [hp]
              exact ⟨HFE.out, HEL.out⟩⟩
      clear hw9 fo9 HT8
      go_wp2_with fail
      go_roundw
      case rel => exact HFIN.out
      case measure => simp [RowKit.intOf]; omega
    · have hlti : ¬ (i : Int) < (ns.length : Int) := by omega
      have HIE : Hid (i = ns.length) := zh (by omega)
      have HPB2 : Hid (∀ p ∈ ps, p.1.length ≤ 2800000000000) := zh (fun p hp => (HPB.out p hp).1)
      have HPM2 : Hid (ps.map Prod.snd = ns.map (wsOf b)) := zh (by rw [HPM.out, HIE.out, List.take_length])
      have HPL2 : Hid (ps.length = ks.length) := zh (by rw [HPL.out, HIE.out, HNL.out])
      have y3 : wr.cell? ⟨b.b, 3, none⟩ = some (.map (some b.bm)) := (HH.out.fresh HFR.out).blk.cell 3
      obtain ⟨js, _, _, hjl, hjlen⟩ := (HH.out.fresh HFR.out).bmv.len HH.out.kbK (t := 43) Tryz.underlying43
      obtain ⟨bs0, hbs0⟩ : ∃ bs0, bs0 = ncodes [b.tm, b.nx, (ks.length : Int)] ++ ps.flatMap place2 := ⟨_, rfl⟩
      have HB0 := zh hbs0
      have HWR6 := HWRr
      rw [← hbs0] at HWR6 HBL
      obtain ⟨V5, hV5⟩ : ∃ V5, wr.alloc (.cells #[.int .i64 (js.length : Int)] 3) = V5 := ⟨_, rfl⟩
      have f5 : Fresh wr V5 := by rw [← hV5]; exact (Frm.refl _ _).alloc _
      have HF5 := zh f5
      have HS5 : Hid (Sl V5 wr.heap.size 3 1 (.slice (some ⟨wr.heap.size, 0, none⟩) 1 1) 1 (ivs [(js.length : Int)])) := zh (by rw [← hV5]; exact sl_new wr wr.heap.size (ivs [(js.length : Int)]) 3 (Nat.le_refl _) (by unfold maxLen; simp [ivs]))
      have HNU : Hid (Calls Tryz.prog 45 #[.pointer (some ⟨w.heap.size, 0, none⟩), .slice (some ⟨wr.heap.size, 0, none⟩) 1 1] V5 fun e w' => WPost V5 w.heap.size w.heap.size (bs0 ++ ncodes [(js.length : Int)]) e w') := zh (numbersW_any V5 w.heap.size w.heap.size (by have := HFR.out.size; have := f5.size; omega) v bs0 (HWR6.out.fresh f5) wr.heap.size (some ⟨wr.heap.size, 0, none⟩) 1 [(js.length : Int)] HS5.out (by simp) (fun x hx => by simp at hx; rw [hx]; exact ⟨by omega, by omega⟩) (by have := HBL.out; omega))
      have HJL := zh hjl
      clear hbs0 f5 hjl HWRr HPM HPB HSL
      go_wp2_with fail
      try rw [hV5]
      clear hV5 hjlen
      refine HNU.out.mono ?_
      rintro e w6 ⟨rfl, v6, hw6, fo6⟩
      have HW6 := zh hw6
      have HFR6 : Hid (Fresh w w6) := zh (OutW.frS (HFR.out.trans HF5.out) fo6 (Nat.le_refl _))
      have y3 : w6.cell? ⟨b.b, 3, none⟩ = some (.map (some b.bm)) := (HH.out.fresh HFR6.out).blk.cell 3
      clear hw6 fo6 HNU HS5 HF5
      go_wp2_with fail
      refine (keysBk_any (some b.bm) w6).mono ?_
      rintro e w7 ⟨rfl, rfl⟩
      go_wp2_with fail
      refine (sortedBk_any w6 b.bm b.kv (HH.out.fresh HFR6.out).bmv HH.out.kbK).mono ?_
      rintro e V7 ⟨v7, ids, rfl, hpw, hks, hlen, hsl, f7⟩
      obtain ⟨A7, c7, rfl, _, _, _⟩ := hsl.shape
      have hf67 : Fresh w6 V7 := ((Frm.refl _ w6).alloc _).trans f7
      have HF7 : Hid (Fresh w V7) := zh (HFR6.out.trans hf67)
      have HWR7 := zh (HW6.out.fresh hf67)
      have HKI : Hid (∀ k ∈ ids, (b.K k).isSome = true) := zh (fun k hk => by have := (hks k).1 hk; unfold BoM.kv at this; rw [Option.isSome_map] at this; exact this)
      have HSL := zh hsl
      have HIL : Hid (ids.length ≤ 30000001 ∧ bs0.length ≤ 27 + 2800000030000 * 8) := zh ⟨hlen, by have := HBL.out; omega⟩
      clear hpw hks hlen hsl f7 hf67 HW6 y3 HBL HWR6
      go_wp2_with fail
      go_loopw [71] (fun v71 wr => ∃ (i : Nat) (v : Value) (bs : List UInt8), i ≤ ids.length ∧ v71 = .int .i64 (i : Int) ∧ WrB wr w.heap.size w.heap.size v bs ∧ OutW w.heap.size V7 wr ∧ (∃ tl, bs = bs0 ++ tl) ∧ bs.length ≤ bs0.length + 9 + 54 * i) (fun v71 _ => ids.length - (RowKit.intOf v71).toNat)
      case atStart => exact ⟨0, v6, _, by omega, rfl, HWR7.out, OutW.refl _ _, ⟨_, rfl⟩, by
        have h1 := ncodes_len [(js.length : Int)] (fun x hx => by simp at hx; rw [hx]; have := HJL.out; omega)
        rw [List.length_append]
        simp at h1
        omega⟩
      case round =>
        obtain ⟨i, v, bs, hi, rfl, hwr, hout, htl, hbl⟩ := hrel
        have HWRr := zh hwr
        have HOUT := zh hout
        have HTL := zh htl
        have HBL : Hid (bs.length ≤ bs0.length + 9 + 54 * i ∧ i ≤ ids.length) := zh ⟨hbl, hi⟩
        have HFR : Hid (Fresh w wr) := zh (OutW.frS HF7.out hout (Nat.le_refl _))
        have hi0 : (0 : Int) ≤ (i : Int) := by omega
        have hll := HIL.out.1
        clear hwr hout htl hbl
        by_cases hlt : i < ids.length
        · have hlti : (i : Int) < (ids.length : Int) := by omega
          have HSL1 := zh (HOUT.out.sl HSL.out (by decide) (by decide))
          obtain ⟨g, o, rfl, _, hc⟩ := HSL1.out.rd.at_ (k := i) (by unfold ivs; simpa using hlt)
          unfold ivs at hc
          rw [List.getElem_map] at hc
          obtain ⟨y, hy⟩ := Option.isSome_iff_exists.1 (HKI.out ids[i] (List.getElem_mem hlt))
          obtain ⟨id, hid⟩ : ∃ id, ids[i] = id := ⟨_, rfl⟩
          rw [hid] at hc hy
          have hby := (HH.out.bo id y hy).1
          have hidw : wf64 id := by have := hby.kb; have := (HH.out.bo id y hy).2.1; have := HH.out.nw; exact ⟨by omega, by omega⟩
          have hlk := (HH.out.fresh HFR.out).bmv.at' (t := 43) Tryz.underlying43 (z := .pointer none) (fun _ => by kernel_rfl) (k := id) hidw
          rw [BoM.kv_some hy] at hlk
          dsimp only [Option.getD, BkM.ptr] at hlk
          have y3 : wr.cell? ⟨b.b, 3, none⟩ = some (.map (some b.bm)) := (HH.out.fresh HFR.out).blk.cell 3
          have HS15b : Hid (∀ w', Fresh w w' → w'.cell? ⟨y.p, 1, none⟩ = some (.int .i64 y.fl) ∧ w'.cell? ⟨y.p, 2, none⟩ = some (.int .i64 y.cl) ∧ w'.cell? ⟨y.p, 3, none⟩ = some (.int .i64 y.mn) ∧ w'.cell? ⟨y.p, 4, none⟩ = some (.int .i64 y.st) ∧ w'.cell? ⟨y.p, 5, none⟩ = some (.int .i64 y.un)) := zh fun w' F => by
            have hq := ((HH.out.fresh F).bo id y hy).1.blk
            exact ⟨hq.cell 1, hq.cell 2, hq.cell 3, hq.cell 4, hq.cell 5⟩
          have HS15 := zh (fun w' (F : Fresh wr w') => HS15b.out w' (HFR.out.trans F))
          have HH15 : Hid (∀ x ∈ [id, y.fl, y.cl, y.mn, y.st, y.un], wf64 x) := zh (by
            intro x hx
            simp at hx
            rcases hx with rfl | rfl | rfl | rfl | rfl | rfl
            · exact hidw
            · exact hby.wf.1
            · exact hby.wf.2.1
            · exact hby.wf.2.2.1
            · exact hby.wf.2.2.2.1
            · exact hby.wf.2.2.2.2)
          clear hid hy hby hidw
          go_wp2_with fail
          refine wp_region_held_drew (S := fun w' => w'.cell? ⟨y.p, 1, none⟩ = some (.int .i64 y.fl) ∧ w'.cell? ⟨y.p, 2, none⟩ = some (.int .i64 y.cl) ∧ w'.cell? ⟨y.p, 3, none⟩ = some (.int .i64 y.mn) ∧ w'.cell? ⟨y.p, 4, none⟩ = some (.int .i64 y.st) ∧ w'.cell? ⟨y.p, 5, none⟩ = some (.int .i64 y.un)) (by kernel_rfl) (HS15.out _ (Frm.refl _ _).drew) (fun hHeld => ?_)
          iterate 22 ((first | refine ztn (v := ?_) (zo rfl) ?_ | refine ztz (v := ?_) (zo rfl) ?_); try simp only [Act.put, zT, zZ, zS])
          refine zr1 22 (zo rfl) (fun K hK => ?_)
          go_simp
          obtain ⟨Ub, hUb⟩ : ∃ U, (wr.alloc (.cells #[.int .i64 id, .int .i64 y.fl, .int .i64 y.cl, .int .i64 y.mn, .int .i64 y.st, .int .i64 y.un] 3)).drew = U := ⟨_, rfl⟩
          have HFUb : Hid (Fresh wr Ub) := zh (by rw [← hUb]; exact ((Frm.refl _ _).alloc _).drew)
          have HSUb : Hid (Sl Ub wr.heap.size 3 1 (.slice (some ⟨wr.heap.size, 0, none⟩) 6 6) 6 (ivs [id, y.fl, y.cl, y.mn, y.st, y.un])) := zh (by rw [← hUb]; exact (sl_new wr wr.heap.size (ivs [id, y.fl, y.cl, y.mn, y.st, y.un]) 3 (Nat.le_refl _) (by unfold maxLen; simp [ivs])).fresh (Frm.refl (fun _ => False) _).drew)
          have HWUb := zh (HWRr.out.fresh HFUb.out)
          rw [hUb]
          clear hUb
          refine hK.out _ _ (HS15.out _ HFUb.out) (fun hHeld => ?_)
          clear hK K
          try simp only [Act.put, zT, zZ, zS]
          refine zr1 23 (zo rfl) (fun K hK => ?_)
          go_simp
          refine ((numbersW_any Ub w.heap.size w.heap.size (by have := HFR.out.size; have := HFUb.out.size; omega) v bs HWUb.out wr.heap.size (some ⟨wr.heap.size, 0, none⟩) 6 [id, y.fl, y.cl, y.mn, y.st, y.un] HSUb.out (by simp) HH15.out (by have := HBL.out; have := HIL.out; omega))).mono ?_
          rintro e wB ⟨rfl, vB, hwB, foB⟩
          have HWB := zh hwB
          have HOB : Hid (OutW w.heap.size V7 wB) := zh (OutW.trans (HOUT.out) (OutW.trans (OutW.of HFUb.out) foB))
          have HFB : Hid (Fresh w wB) := zh (OutW.frS (HFR.out.trans HFUb.out) foB (Nat.le_refl _))
          clear foB hwB
          refine hK.out _ _ (HS15b.out _ HFB.out) (fun hHeld => ?_)
          clear hK K
          try simp only [Act.put, zT, zZ, zS]
          refine wpAnyH_done (by kernel_rfl) ?_ _
          have HFIN : Hid (∃ (j : Nat) (v : Value) (bs : List UInt8), j ≤ ids.length ∧ Value.int .i64 ((i : Int) + 1) = .int .i64 (j : Int) ∧ WrB wB w.heap.size w.heap.size v bs ∧ OutW w.heap.size V7 wB ∧ (∃ tl, bs = bs0 ++ tl) ∧ bs.length ≤ bs0.length + 9 + 54 * j) := zh
            ⟨i + 1, vB, _, by omega, by push_cast; rfl, HWB.out, HOB.out, by obtain ⟨tl, e⟩ := HTL.out; exact ⟨tl ++ ncodes [id, y.fl, y.cl, y.mn, y.st, y.un], by rw [e, List.append_assoc]⟩, by
              have h1 := ncodes_len [id, y.fl, y.cl, y.mn, y.st, y.un] (fun x hx => (HH15.out x hx).2)
              have h2 := HBL.out.1
              rw [List.length_append]
              simp at h1
              omega⟩
          clear HFUb HSUb HWUb HWB HOB
          go_wp2_with fail
          go_roundw
          case rel => exact HFIN.out
          case measure => simp [RowKit.intOf]; omega
        · have hlti : ¬ (i : Int) < (ids.length : Int) := by omega
          have hcell : wr.cell? ⟨w.heap.size, 0, none⟩ = some v := HWRr.out.1.cell 0
          obtain ⟨A9, c9, rfl, _, _, _⟩ := HWRr.out.2.2.shape
          have HPO : Hid (SavePost w b (.returned (.slice A9 bs.length c9)) wr) := zh (by
            obtain ⟨tl, e⟩ := HTL.out
            have e2 : bs = saveB b.tm b.nx ps tl := by
              rw [e, HB0.out]
              unfold saveB
              rw [HPL2.out]
            refine ⟨_, ps, ns, tl, rfl, ?_, HFR.out, HPW.out, HKS.out, HPM2.out, by have := HK8.out; have := HNL.out; omega, ?_, HPB2.out⟩
            · rw [← e2]
              exact HWRr.out.2.2
            · rw [← e2]
              have := HBL.out
              have := HIL.out
              omega)
          clear HTL HBL HIL HIE
          go_wp2_with fail
          go_ret
          exact HPO.out
end
section
open Go.RowKit
structure Lft (w : World) (B g : Nat) (A : Option Addr) (cap : Nat) (bs : List UInt8) : Prop where
  box : Blk w g 56 #[.slice A bs.length cap]
  rd : Rd w B A (bs.map bv)
  le : bs.length ≤ cap
  most : cap ≤ maxLen
  hB : B ≤ g
theorem Lft.frm {w w' : World} {B g : Nat} {A : Option Addr} {cap : Nat} {bs : List UInt8} {S : Nat → Prop} (h : Lft w B g A cap bs) (hf : Frm S w w') (hg : ¬ S g) (hS : ∀ k, k < B → ¬ S k) : Lft w' B g A cap bs :=
  ⟨h.box.frm hf hg, h.rd.frm (by have := h.box.lt; have := h.hB; omega) hf (fun p _ hp => hS _ hp), h.le, h.most, h.hB⟩
theorem Lft.fresh {w w' : World} {B g : Nat} {A : Option Addr} {cap : Nat} {bs : List UInt8} (h : Lft w B g A cap bs) (hf : Fresh w w') : Lft w' B g A cap bs := h.frm hf (fun f => f) (fun _ _ f => f)
theorem Rd.rest {w : World} {B : Nat} {A : Option Addr} {xs : List Value} (h : Rd w B A xs) {n cap : Nat} (hc : xs.length ≤ cap) : Rd w B (if cap = n then A else Option.map (fun x => x.add n) A) (xs.drop n) := h.cut hc
end
end Go.Proofs.YtbeaoddjomdlcaaGreatDoor

/- A beat: may it be; its bytes. -/
import Derived.Test.YtlceembcehokoaaNet1
import Derived.Test.YtlceembcehokoaaScan2
namespace Go.Proofs.Ytlceembcehokoaa
open Go.RowKit
set_option maxRecDepth 100000

def beat : Array Value := #[.int .i64 7, .int .i64 1, .int .i64 2, .int .i64 3, .int .i64 0, .int .i64 0, .bool false, .int .i64 0, .int .i64 0, .int .i64 0, .slice none 0 0, .int .i64 0, .int .i64 0, .slice none 0 0, .slice none 0 0, .slice none 0 0]
set_option maxHeartbeats 2000000 in
theorem emptyBeat_any (w : World) : Calls Try.prog 34 #[.agg #[.int .i64 0, .int .i64 0, .slice none 0 0, .slice none 0 0, .slice none 0 0]] w fun e w' => e = .returned (.bool true) ∧ Fresh w w' := by
  have HF := Lib.hid ((Frm.refl (fun _ => False) w).alloc (.cells #[.int .i64 0, .int .i64 0, .slice none 0 0, .slice none 0 0, .slice none 0 0] 28))
  go_enter Try.func34, Try.ntmps34
  go_wp2_with fail
  go_ret
  exact ⟨rfl, HF.out⟩
set_option maxHeartbeats 4000000 in
theorem rightBeat_any (w : World) : Calls Try.prog 33 #[.agg beat] w fun e w' => e = .returned (.bool true) ∧ Fresh w w' := by
  unfold beat
  have HWI : Hid (∀ (n lo hi : Int) (w : World), lo ≤ n → n ≤ hi → Calls Try.prog 73 #[.int .i64 n, .int .i64 lo, .int .i64 hi] w fun e w' => e = .returned (.bool true) ∧ w' = w) := Lib.hid fun n lo hi w h1 h2 => by
    have := within_any n lo hi w
    simpa [h1, h2] using this
  have HNO : Hid (∀ (n : Int) (w : World), 1 ≤ n → n ≤ 15 → Calls Try.prog 67 #[.int .i64 n] w fun e w' => e = .returned (.bool true) ∧ w' = w) := Lib.hid fun n w h1 h2 => by
    have := node_any n w
    simpa [h1, h2] using this
  go_enter Try.func33, Try.ntmps33
  go_wp2_with fail
  obtain ⟨W0, hW0⟩ : ∃ W0, (w.alloc (.cells beat 30)).alloc (.cells #[.int .i64 3, .int .i64 0, .int .i64 0, .int .i64 0] 3) = W0 := ⟨_, rfl⟩
  unfold beat at hW0
  rw [hW0]
  have HF0 : Hid (Fresh w W0) := Lib.hid (by rw [← hW0]; exact ((Frm.refl _ w).alloc _).alloc _)
  have BX : Hid (Blk W0 w.heap.size 30 beat) := Lib.hid (by rw [← hW0]; exact (Blk.new w _ beat).alloc _)
  have BS : Hid (Blk W0 (w.heap.size + 1) 3 #[.int .i64 3, .int .i64 0, .int .i64 0, .int .i64 0]) := Lib.hid (by
    rw [← hW0]
    have := Blk.new (w.alloc (.cells beat 30)) 3 #[.int .i64 3, .int .i64 0, .int .i64 0, .int .i64 0]
    rwa [World.size_alloc] at this)
  clear hW0
  go_loopw [18] (fun v18 wr => ∃ i : Nat, i ≤ 4 ∧ v18 = .int .i64 (i : Int) ∧ wr = W0) (fun v18 _ => 4 - (intOf v18).toNat)
  case atStart => exact ⟨0, by omega, rfl, rfl⟩
  case round =>
    obtain ⟨i, hi4, rfl, rfl⟩ := hrel
    have hi0 : (0 : Int) ≤ (i : Int) := by omega
    by_cases hlt : i < 4
    · have hlti : (i : Int) < 4 := by omega
      have hx : ∃ x : Int, 0 ≤ x ∧ x ≤ 1099511627776 ∧ wr.cell? ⟨w.heap.size + 1, i, none⟩ = some (.int .i64 x) := by
        have hc := BS.out.cell i
        have : i = 0 ∨ i = 1 ∨ i = 2 ∨ i = 3 := by omega
        rcases this with rfl | rfl | rfl | rfl
        · exact ⟨3, by omega, by omega, hc⟩
        · exact ⟨0, by omega, by omega, hc⟩
        · exact ⟨0, by omega, by omega, hc⟩
        · exact ⟨0, by omega, by omega, hc⟩
      obtain ⟨x, x1, x2, hc⟩ := hx
      have HIN := Lib.hid (HWI.out x 0 1099511627776 wr x1 x2)
      go_wp2_with fail
      refine HIN.out.mono ?_
      rintro e w2 ⟨rfl, rfl⟩
      go_wp2_with fail
      go_roundw
      case rel => exact ⟨i + 1, by omega, by go_num, by simp⟩
      case measure => simp [intOf]; omega
    · obtain rfl : i = 4 := by omega
      have e0 : wr.cell? ⟨w.heap.size, 0, none⟩ = some (.int .i64 7) := BX.out.cell 0
      have e1 : wr.cell? ⟨w.heap.size, 1, none⟩ = some (.int .i64 1) := BX.out.cell 1
      have e2 : wr.cell? ⟨w.heap.size, 2, none⟩ = some (.int .i64 2) := BX.out.cell 2
      have e4 : wr.cell? ⟨w.heap.size, 4, none⟩ = some (.int .i64 0) := BX.out.cell 4
      have e8 : wr.cell? ⟨w.heap.size, 8, none⟩ = some (.int .i64 0) := BX.out.cell 8
      have e10 : wr.cell? ⟨w.heap.size, 10, none⟩ = some (.slice none 0 0) := BX.out.cell 10
      have e11 : wr.cell? ⟨w.heap.size, 11, none⟩ = some (.int .i64 0) := BX.out.cell 11
      have e12 : wr.cell? ⟨w.heap.size, 12, none⟩ = some (.int .i64 0) := BX.out.cell 12
      have e13 : wr.cell? ⟨w.heap.size, 13, none⟩ = some (.slice none 0 0) := BX.out.cell 13
      have e14 : wr.cell? ⟨w.heap.size, 14, none⟩ = some (.slice none 0 0) := BX.out.cell 14
      have e15 : wr.cell? ⟨w.heap.size, 15, none⟩ = some (.slice none 0 0) := BX.out.cell 15
      go_wp2_with fail
      refine (HWI.out _ _ _ _ (by omega) (by omega)).mono ?_
      rintro e w2 ⟨rfl, rfl⟩
      go_wp2_with fail
      refine (HWI.out _ _ _ _ (by omega) (by omega)).mono ?_
      rintro e w2 ⟨rfl, rfl⟩
      go_wp2_with fail
      refine (HWI.out _ _ _ _ (by omega) (by omega)).mono ?_
      rintro e w2 ⟨rfl, rfl⟩
      go_wp2_with fail
      refine (HNO.out _ _ (by omega) (by omega)).mono ?_
      rintro e w2 ⟨rfl, rfl⟩
      go_wp2_with fail
      refine (HNO.out _ _ (by omega) (by omega)).mono ?_
      rintro e w2 ⟨rfl, rfl⟩
      go_wp2_with fail
      refine (emptyBeat_any _).mono ?_
      rintro e w2 ⟨rfl, f2⟩
      have HF2 := Lib.hid (HF0.out.trans f2)
      clear f2
      go_wp2_with fail
      go_ret
      exact ⟨rfl, HF2.out⟩
/-- while a message is encoded -/
structure Enc (w : World) (bm p : Nat) (bs : List UInt8) (wk : World) : Prop where
  box : Blk wk bm 30 beat
  buf : Buf wk p bs
  lt : bm < p
  low : w.heap.size ≤ bm
  frm : Fresh w wk
theorem Enc.fresh {w wk w' : World} {bm p : Nat} {bs : List UInt8} (h : Enc w bm p bs wk) (F : Fresh wk w') : Enc w bm p bs w' := ⟨h.box.frm F (fun f => f), h.buf.fresh F, h.lt, h.low, h.frm.trans F⟩
theorem Enc.wrote {w wk w' : World} {bm p : Nat} {bs cs : List UInt8} (h : Enc w bm p bs wk) (F : Wrote wk p cs w') : Enc w bm p cs w' :=
  ⟨h.box.frm F.frm (fun e => by have := h.lt; omega), F.buf, h.lt, h.low, h.frm.trans' F.frm (fun k hk e => by have := h.lt; have := h.low; omega)⟩
def EPost (w : World) (bm p : Nat) (bs : List UInt8) (e : Ending) (w' : World) : Prop := e = .returned (.tuple #[]) ∧ Enc w bm p bs w'
theorem Enc.numbers {w wk : World} {bm p : Nat} {bs : List UInt8} (h : Enc w bm p bs wk) (ns : List Nat) (n c : Nat) (hn : n = ns.length) (hns : ∀ n ∈ ns, n ≤ 1099511627776) (hnl : ns.length ≤ 100) (hl : bs.length ≤ 1000000000000) :
    Calls Try.prog 36 #[.slice (some ⟨wk.heap.size, 0, none⟩) n c, .pointer (some ⟨p, 0, none⟩)] (wk.alloc (.cells (ns.map fun n : Nat => Value.int .i64 (n : Int)).toArray 3)) fun e w' => EPost w bm p (bs ++ ns.flatMap FieldM.num) e w' := by
  subst hn
  have h2 := h.fresh ((Frm.refl _ wk).alloc (.cells (ns.map fun n : Nat => Value.int .i64 (n : Int)).toArray 3))
  refine (numbersC_any _ p wk.heap.size c bs ns hns hnl (Blk.new wk _ _) h2.buf hl).mono ?_
  rintro e w' ⟨rfl, hw⟩
  exact ⟨rfl, h2.wrote hw⟩
theorem Enc.signed {w wk : World} {bm p : Nat} {bs : List UInt8} (h : Enc w bm p bs wk) (x : Int) (h1 : -9223372036854775808 ≤ x) (h2 : x ≤ 9223372036854775807) (hl : bs.length ≤ 1000000000000) :
    Calls Try.prog 38 #[.int .i64 x, .pointer (some ⟨p, 0, none⟩)] wk fun e w' => EPost w bm p (bs ++ FieldM.int x) e w' := by
  refine (signedC_any wk p bs x h1 h2 h.buf hl).mono ?_
  rintro e w' ⟨rfl, hw⟩
  exact ⟨rfl, h.wrote hw⟩
theorem Enc.text {w wk : World} {bm p : Nat} {bs : List UInt8} (h : Enc w bm p bs wk) (A : Option Addr) (n cap : Nat) (ts : List UInt8) (hn : n = ts.length) (ht : Rd wk wk.heap.size A (ts.map bv)) (htl : ts.length ≤ 1000000000000) (hl : bs.length ≤ 1000000000000) :
    Calls Try.prog 40 #[.slice A n cap, .pointer (some ⟨p, 0, none⟩)] wk fun e w' => EPost w bm p (bs ++ FieldM.text ts) e w' := by
  subst hn
  refine (textC_any wk p bs A cap ts ht htl h.buf hl).mono ?_
  rintro e w' ⟨rfl, hw⟩
  exact ⟨rfl, h.wrote hw⟩
/-- the bytes of a beat -/
def beatA : List UInt8 := [7, 1, 2, 3].flatMap FieldM.num
def beatB : List UInt8 := ((((beatA ++ FieldM.int 0) ++ [0, 0, 0].flatMap FieldM.num) ++ FieldM.int 0) ++ [0, 0].flatMap FieldM.num) ++ FieldM.text []
theorem beatB_eq : beatB = [1, 7, 1, 1, 1, 2, 1, 3, 0, 0, 0, 0, 0, 0, 0, 0] := by decide +kernel
def BeatPost (w : World) (e : Ending) (w' : World) : Prop :=
  ∃ v, e = .returned (.tuple #[v, .int .i64 0]) ∧ Sl w' w.heap.size 5 1 v (beatB.length + 8) ((Rc.rec beatB).map bv) ∧ Fresh w w'
set_option maxHeartbeats 8000000 in
theorem encodeBeat_any (w : World) : Calls Try.prog 12 #[.agg beat] w fun e w' => BeatPost w e w' := by
  have hmf : ∀ (fn : Fn) (first cap : Array Value) (w : World), (Instr.makeFunc fn first cap).run Try.prog w = .ok (.func fn first cap) w := fun _ _ _ _ => rfl
  obtain ⟨W0, hW0⟩ : ∃ W0, w.alloc (.cells beat 30) = W0 := ⟨_, rfl⟩
  have HF0 : Hid (Fresh w W0) := Lib.hid (by rw [← hW0]; exact ((Frm.refl _ w).alloc _))
  have BX : Hid (Blk W0 w.heap.size 30 beat) := Lib.hid (by rw [← hW0]; exact (Blk.new w _ beat))
  unfold beat at hW0 ⊢
  have k0 : W0.cell? ⟨w.heap.size, 0, none⟩ = some (.int .i64 7) := BX.out.cell 0
  have k1 : W0.cell? ⟨w.heap.size, 1, none⟩ = some (.int .i64 1) := BX.out.cell 1
  have k2 : W0.cell? ⟨w.heap.size, 2, none⟩ = some (.int .i64 2) := BX.out.cell 2
  have k3 : W0.cell? ⟨w.heap.size, 3, none⟩ = some (.int .i64 3) := BX.out.cell 3
  have k4 : W0.cell? ⟨w.heap.size, 4, none⟩ = some (.int .i64 0) := BX.out.cell 4
  have k5 : W0.cell? ⟨w.heap.size, 5, none⟩ = some (.int .i64 0) := BX.out.cell 5
  have k6 : W0.cell? ⟨w.heap.size, 6, none⟩ = some (.bool false) := BX.out.cell 6
  have k7 : W0.cell? ⟨w.heap.size, 7, none⟩ = some (.int .i64 0) := BX.out.cell 7
  have k8 : W0.cell? ⟨w.heap.size, 8, none⟩ = some (.int .i64 0) := BX.out.cell 8
  have k9 : W0.cell? ⟨w.heap.size, 9, none⟩ = some (.int .i64 0) := BX.out.cell 9
  have k10 : W0.cell? ⟨w.heap.size, 10, none⟩ = some (.slice none 0 0) := BX.out.cell 10
  have k11 : W0.cell? ⟨w.heap.size, 11, none⟩ = some (.int .i64 0) := BX.out.cell 11
  have k12 : W0.cell? ⟨w.heap.size, 12, none⟩ = some (.int .i64 0) := BX.out.cell 12
  have k13 : W0.cell? ⟨w.heap.size, 13, none⟩ = some (.slice none 0 0) := BX.out.cell 13
  have k14 : W0.cell? ⟨w.heap.size, 14, none⟩ = some (.slice none 0 0) := BX.out.cell 14
  have k15 : W0.cell? ⟨w.heap.size, 15, none⟩ = some (.slice none 0 0) := BX.out.cell 15
  go_enter Try.func12, Try.ntmps12
  go_wp2_with fail
  clear hW0 k0 k1 k2 k3 k4 k5 k6 k7 k8 k9 k10 k11 k12 k13 k14 k15
  refine (rightBeat_any W0).mono ?_
  rintro e w2 ⟨rfl, f2⟩
  have BX2 := BX.out.frm f2 (fun f => f)
  have e11 : w2.cell? ⟨w.heap.size, 11, none⟩ = some (.int .i64 0) := BX2.cell 11
  have e12 : w2.cell? ⟨w.heap.size, 12, none⟩ = some (.int .i64 0) := BX2.cell 12
  have e13 : w2.cell? ⟨w.heap.size, 13, none⟩ = some (.slice none 0 0) := BX2.cell 13
  have e14 : w2.cell? ⟨w.heap.size, 14, none⟩ = some (.slice none 0 0) := BX2.cell 14
  have e15 : w2.cell? ⟨w.heap.size, 15, none⟩ = some (.slice none 0 0) := BX2.cell 15
  have HF2 := Lib.hid (HF0.out.trans f2)
  have HB2 := Lib.hid BX2
  clear f2 BX2
  go_wp2_with fail
  refine (emptyBeat_any w2).mono ?_
  rintro e w3 ⟨rfl, f3⟩
  obtain ⟨W4, hW4⟩ : ∃ W4, w3.alloc (.cells #[.slice none 0 0] 26) = W4 := ⟨_, rfl⟩
  have HE : Hid (Enc w w.heap.size w3.heap.size [] W4) := Lib.hid (by
    rw [← hW4]
    have hl := (HB2.out.frm f3 (fun f => f)).lt
    exact ⟨(HB2.out.frm f3 (fun f => f)).alloc _, ⟨_, Blk.new w3 _ _, Sl.nil _ _ _ _⟩, hl, Nat.le_refl _, (HF2.out.trans f3).alloc _⟩)
  have a6 : W4.cell? ⟨w.heap.size, 6, none⟩ = some (.bool false) := HE.out.box.cell 6
  have a0 : W4.cell? ⟨w.heap.size, 0, none⟩ = some (.int .i64 7) := HE.out.box.cell 0
  have a1 : W4.cell? ⟨w.heap.size, 1, none⟩ = some (.int .i64 1) := HE.out.box.cell 1
  have a2 : W4.cell? ⟨w.heap.size, 2, none⟩ = some (.int .i64 2) := HE.out.box.cell 2
  have a3 : W4.cell? ⟨w.heap.size, 3, none⟩ = some (.int .i64 3) := HE.out.box.cell 3
  clear f3 e11 e12 e13 e14 e15
  go_wp2_with fail
  clear hW4
  generalize w3.heap.size = p at HE ⊢
  refine (HE.out.numbers [7, 1, 2, 3] 4 4 rfl (by decide) (by decide) (by decide)).mono ?_
  rintro e w5 ⟨rfl, h5⟩
  have HE5 : Hid (Enc w w.heap.size p (beatA) w5) := Lib.hid h5
  have b5_4 : w5.cell? ⟨w.heap.size, 4, none⟩ = some (.int .i64 0) := h5.box.cell 4
  clear h5 a0 a1 a2 a3 a6
  go_wp2_with fail
  refine (HE5.out.signed 0 (by omega) (by omega) (by decide +kernel)).mono ?_
  rintro e w6 ⟨rfl, h6⟩
  have HE6 : Hid (Enc w w.heap.size p (beatA ++ FieldM.int 0) w6) := Lib.hid h6
  have b6_5 : w6.cell? ⟨w.heap.size, 5, none⟩ = some (.int .i64 0) := h6.box.cell 5
  have b6_7 : w6.cell? ⟨w.heap.size, 7, none⟩ = some (.int .i64 0) := h6.box.cell 7
  clear h6 b5_4
  go_wp2_with fail
  refine (HE6.out.numbers [0, 0, 0] 3 3 rfl (by decide) (by decide) (by decide +kernel)).mono ?_
  rintro e w7 ⟨rfl, h7⟩
  have HE7 : Hid (Enc w w.heap.size p ((beatA ++ FieldM.int 0) ++ [0, 0, 0].flatMap FieldM.num) w7) := Lib.hid h7
  have b7_8 : w7.cell? ⟨w.heap.size, 8, none⟩ = some (.int .i64 0) := h7.box.cell 8
  clear h7 b6_5 b6_7
  go_wp2_with fail
  refine (HE7.out.signed 0 (by omega) (by omega) (by decide +kernel)).mono ?_
  rintro e w8 ⟨rfl, h8⟩
  have HE8 : Hid (Enc w w.heap.size p (((beatA ++ FieldM.int 0) ++ [0, 0, 0].flatMap FieldM.num) ++ FieldM.int 0) w8) := Lib.hid h8
  have b8_9 : w8.cell? ⟨w.heap.size, 9, none⟩ = some (.int .i64 0) := h8.box.cell 9
  have b8_10 : w8.cell? ⟨w.heap.size, 10, none⟩ = some (.slice none 0 0) := h8.box.cell 10
  clear h8 b7_8
  go_wp2_with fail
  refine (HE8.out.numbers [0, 0] 2 2 rfl (by decide) (by decide) (by decide +kernel)).mono ?_
  rintro e w9 ⟨rfl, h9⟩
  have HE9 : Hid (Enc w w.heap.size p ((((beatA ++ FieldM.int 0) ++ [0, 0, 0].flatMap FieldM.num) ++ FieldM.int 0) ++ [0, 0].flatMap FieldM.num) w9) := Lib.hid h9
  have b9_10 : w9.cell? ⟨w.heap.size, 10, none⟩ = some (.slice none 0 0) := h9.box.cell 10
  clear h9 b8_9 b8_10
  go_wp2_with fail
  go_loopw [74] (fun v74 wr => v74 = .int .i64 0 ∧ wr = w9) (fun _ _ => 0)
  case atStart => exact ⟨rfl, rfl⟩
  case round =>
    obtain ⟨rfl, rfl⟩ := hrel
    go_wp2_with fail
    refine (HE9.out.text none 0 0 [] rfl (Rd.nil _ _ _) (by decide) (by decide +kernel)).mono ?_
    rintro e w10 ⟨rfl, h10⟩
    have HE10 : Hid (Enc w w.heap.size p beatB w10) := Lib.hid h10
    obtain ⟨v, hb, hs⟩ := h10.buf
    obtain ⟨A, cap, rfl, hcl, hcm, _⟩ := hs.shape
    have c10 : w10.cell? ⟨p, 0, none⟩ = some (.slice A beatB.length cap) := hb.cell 0
    have HS := Lib.hid hs
    clear hs hb h10
    have HP := Lib.hid (Rc.put_any w10 A cap beatB HS.out.rd (by decide +kernel))
    unfold Rc.PutPost at HP
    generalize hB : beatB = B at c10 HP HS
    have HBB := Lib.hid hB
    clear hB
    go_wp2_with fail
    refine HP.out.mono ?_
    rintro e w11 ⟨v11, rfl, hs11, f11⟩
    have HS11 := Lib.hid hs11
    have HFL := Lib.hid (HE10.out.frm.trans f11)
    have HSZ := Lib.hid (HE10.out.frm.size)
    clear hs11 f11
    go_wp2_with fail
    go_ret2
    refine ⟨_, rfl, ?_, HFL.out⟩
    rw [HBB.out]
    exact HS11.out.less HSZ.out
end Go.Proofs.Ytlceembcehokoaa

/- What the program's records computes: a function that hands the records on, one behind the other. -/
import Derived.Test.YtlceembcehokoaaScanMath3
import Derived.Test.YtlceembcehokoaaWhole
import Derived.RangeFuncIn
import Derived.RangeFuncRecord
import Derived.RangeFuncSeq
import Derived.RangeFuncCalls
import Derived.RangeFuncLeaves
import Derived.RangeFuncBound
import Derived.OwnWalkIn
import Derived.TacticsInMore
import Derived.LoopIn
import Derived.Test.YtlceembcehokoaaConf
namespace Go.Proofs.Ytlceembcehokoaa.Rc
set_option maxRecDepth 100000
open Go.RowKit
attribute [local go_sem] Oper.semAt_some

/-! ### Clone -/
theorem nil_no (w : World) (a : Addr) (n c : Nat) : (binOp .eql 26 (.slice (some a) n c) (.slice none 0 0)).run Try.prog w = .ok (.bool false) w := by
  first | rfl | kernel_rfl | (simp [binOp, go_sem, Try.underlying26])
theorem nil_yes (w : World) (n c : Nat) : (binOp .eql 26 (.slice none n c) (.slice none 0 0)).run Try.prog w = .ok (.bool true) w := by
  first | rfl | kernel_rfl | (simp [binOp, go_sem, Try.underlying26])
theorem clone_any (w : World) (B : Nat) (A : Option Addr) (cap : Nat) (bs : List UInt8) (hr : Rd w B A (bs.map bv)) (hB : B ≤ w.heap.size) (hl : bs.length ≤ 140737488355328) :
    Calls Try.prog 90 #[.slice A bs.length cap] w fun e w' => ∃ v, e = .returned v ∧ Sl w' w.heap.size 5 1 v bs.length (bs.map bv) ∧ Fresh w w' := by
  obtain ⟨i0, hi, hz0, hz1, hz2⟩ := info_parts info_u8
  have HR := Lib.hid hr
  cases A with
  | none =>
    have hb : bs = [] := by
      cases bs with
      | nil => rfl
      | cons b r => obtain ⟨_, _, h, _⟩ := hr.at_ (k := 0) (by simp); cases h
    subst hb
    clear hr
    have hnn := fun w n c => nil_yes w n c
    go_enter Try.func90, Try.ntmps90
    go_wp2_with fail
    go_ret
    exact ⟨_, rfl, Sl.nil _ _ _ _, Frm.refl _ _⟩
  | some a =>
    clear hr
    have hnn := fun w n c => nil_no w a n c
    go_enter Try.func90, Try.ntmps90
    have S0 := Lib.hid (show Sl (w.alloc (.cells #[] 5)) w.heap.size 5 1 (.slice (some ⟨w.heap.size, 0, none⟩) 0 0) 0 [] from sl_new w _ [] _ (Nat.le_refl _) (by simp [maxLen]))
    have f0 : Fresh w (w.alloc (.cells #[] 5)) := (Frm.refl _ w).alloc _
    go_wp2_with (first
      | (at_builtin; refine wpList_append_sl _ rfl (.tmp 5) (.tmp 6) _ rfl w.heap.size 5 i0 _ 1 1 Try.underlying26 hi hz0 hz1 hz2 rfl (by omega) _ _ _ rfl S0.out _ _ _ _ _ rfl (by simp) (HR.out.alloc (by omega) _) (bv_one _) (by unfold maxLen; omega) (by omega) (by simp) ?_; intro v1 w2 hs1 hf1 ha1))
    have F2 : Fresh w w2 := f0.trans' hf1 (fun i hi hk => by have := own_at hk; omega)
    rw [Nat.zero_add, List.nil_append] at hs1
    go_wp2_with fail
    go_ret
    exact ⟨v1, rfl, hs1, F2⟩

/-- bytes in a box of their own -/
structure Box (w : World) (B g : Nat) (A : Option Addr) (cap : Nat) (bs : List UInt8) : Prop where
  box : Blk w g 26 #[.slice A bs.length cap]
  rd : Rd w B A (bs.map bv)
  le : bs.length ≤ cap
  most : cap ≤ 9223372036854775807
  hB : B ≤ g
theorem Box.frm {w w' : World} {B g : Nat} {A : Option Addr} {cap : Nat} {bs : List UInt8} {S : Nat → Prop} (h : Box w B g A cap bs) (hf : Frm S w w') (hg : ¬ S g) (hS : ∀ k, k < B → ¬ S k) : Box w' B g A cap bs :=
  ⟨h.box.frm hf hg, h.rd.frm (by have := h.box.lt; have := h.hB; omega) hf (fun p _ hp => hS _ hp), h.le, h.most, h.hB⟩
theorem Box.next {w : World} {B g b o cap k : Nat} {bs : List UInt8} (h : Box w B g (some ⟨b, o, none⟩) cap bs) (hk : k ≤ bs.length) :
    Box (w.setCell ⟨g, 0, none⟩ (.slice (if cap = k then some ⟨b, o, none⟩ else some ⟨b, o + k, none⟩) (bs.length - k) (cap - k))) B g (if cap = k then some ⟨b, o, none⟩ else some ⟨b, o + k, none⟩) (cap - k) (bs.drop k) := by
  have F : Frm (fun k => k = g) w (w.setCell ⟨g, 0, none⟩ (.slice (if cap = k then some ⟨b, o, none⟩ else some ⟨b, o + k, none⟩) (bs.length - k) (cap - k))) := (Frm.refl (fun k => k = g) w).setCell (p := ⟨g, 0, none⟩) (fun _ => rfl) _
  have hB := h.hB
  have hBw : B ≤ w.heap.size := by have := h.box.lt; omega
  have hle := h.le
  have hm := h.most
  refine ⟨?_, ?_, by rw [List.length_drop]; omega, by omega, hB⟩
  · have := h.box.set 0 (.slice (if cap = k then some ⟨b, o, none⟩ else some ⟨b, o + k, none⟩) (bs.length - k) (cap - k))
    rw [List.length_drop]
    exact this
  · rw [List.map_drop]
    have := (h.rd.frm hBw F (fun p _ hp e => by omega)).cut (k := k) (cap := cap) (by simpa using hle)
    simpa [Addr.add_lit] using this
/-- what holds while the region's operations come up: ahead of the round nothing has turned; behind it the round has had its way -/
def SS (J : List (List UInt8) → World → Prop) (pre' : List (List UInt8)) (wr : World) (B0 Bn : Nat) (A : Option Addr) (cap : Nat) (d : List UInt8) (L : Array Bool) (w : World) : Prop :=
  (L.getD 12 false = true → J pre' w ∧ Box w B0 Bn A cap d) ∧ (L.getD 12 false = false → Fresh wr w)
section
variable {J : List (List UInt8) → World → Prop} {pre' : List (List UInt8)} {wr w w' : World} {B0 Bn : Nat} {A : Option Addr} {cap : Nat} {d : List UInt8} {L : Array Bool} {i : Nat}
theorem SS.start {n : Nat} : SS J pre' wr B0 Bn A cap d (Array.replicate n false) wr.drew := ⟨(fun h => (by simp [Array.getD] at h)), fun _ => (Frm.refl _ _).drew⟩
theorem SS.fresh (h : SS J pre' wr B0 Bn A cap d L w) (n : L.getD 12 false = false) : Fresh wr w := h.2 n
theorem SS.keep (h : SS J pre' wr B0 Bn A cap d L w) (hi : i ≠ 12) : SS J pre' wr B0 Bn A cap d (L.setIfInBounds i true) w := by
  unfold SS at *
  rw [getD_set_ne hi]
  exact h
theorem SS.call (h : SS J pre' wr B0 Bn A cap d L w) (hi : i ≠ 12) (n : L.getD 12 false = false) (hf : Fresh w w') : SS J pre' wr B0 Bn A cap d (L.setIfInBounds i true) w' := by
  unfold SS at *
  rw [getD_set_ne hi]
  exact ⟨(fun k => (by rw [n] at k; cases k)), fun _ => (h.2 n).trans hf⟩
theorem SS.yield (h12 : 12 < L.size) (hJ : J pre' w') (hB : Box w' B0 Bn A cap d) : SS J pre' wr B0 Bn A cap d (L.setIfInBounds 12 true) w' := by
  unfold SS
  rw [getD_set_eq h12]
  exact ⟨fun _ => ⟨hJ, hB⟩, (fun k => (by cases k))⟩
theorem SS.done {n : Nat} (hn : 12 < n) (h : SS J pre' wr B0 Bn A cap d (Array.replicate n true) w) : J pre' w ∧ Box w B0 Bn A cap d := h.1 (by simp [Array.getD, hn])
end
/-- how many bytes are in the box -/
def boxLen (w : World) (g : Nat) : Nat := match w.cell? ⟨g, 0, none⟩ with
  | some (.slice _ n _) => n
  | _ => 0
theorem Box.len {w : World} {B g : Nat} {A : Option Addr} {cap : Nat} {bs : List UInt8} (h : Box w B g A cap bs) : boxLen w g = bs.length := by
  unfold boxLen
  rw [show w.cell? ⟨g, 0, none⟩ = some (.slice A bs.length cap) from h.box.cell 0]

set_option maxRecDepth 100000 in
set_option maxHeartbeats 4000000 in
theorem records1_in (n : Nat) (l Bn B0 : Nat) (bs : List UInt8) (hl : bs.length ≤ 1000000) (J : List (List UInt8) → World → Prop)
    (hJ : ∀ s A B, J s A → Frm (fun k => k = Bn) A B → J s B)
    (hY : ∀ pre (x : List UInt8) A' c' W1, J pre W1 → Rd W1 B0 A' (x.map bv) → B0 ≤ W1.heap.size → (recs pre).length + x.length + 8 ≤ bs.length → YieldAt Fence.wide (n - 1) Try.prog l #[.slice A' x.length c'] W1 fun e W' => e = .returned (.bool true) ∧ J (pre ++ [x]) W' ∧ Frm (fun k => B0 ≤ k ∧ k ≠ Bn) W1 W')
    (W : World) (A : Option Addr) (cap : Nat) (hbox : Box W B0 Bn A cap bs) (h0 : J [] W) :
    CallsIn Fence.wide n Try.prog 113 #[.func (.yield l) #[] #[], .pointer (some ⟨Bn, 0, none⟩)] W fun e W' => (∃ v, e = .returned v) ∧ J (scan bs).1 W' := by
  have HJ := Lib.hid hJ
  have HY := Lib.hid hY
  have H0 := Lib.hid h0
  have HB := Lib.hid hbox
  clear hJ hY h0 hbox
  refine callsIn_of_wp Try.func113 rfl trivial ?_ rfl
  simp only [Try.ntmps113, List.size_toArray, List.length_cons, List.length_nil, Nat.reduceAdd, Nat.reduceSub, Array.replicate_succ, Array.replicate_zero, List.push_toArray, List.append_toArray, List.nil_append, List.cons_append]
  gi_wp2_with fail
  gi_loopw [] (fun wr => ∃ (pre : List (List UInt8)) (a : Nat) (A' : Option Addr) (cap' : Nat), Told bs pre a ∧ Box wr B0 Bn A' cap' (bs.drop a) ∧ J pre wr) (fun wr => boxLen wr Bn)
  case atStart => exact ⟨[], 0, A, cap, Told.start bs, HB.out, H0.out⟩
  case round =>
    obtain ⟨pre, a, A1, cap1, hT, hb, hj⟩ := hrel
    have hc0 : wr.cell? ⟨Bn, 0, none⟩ = some (.slice A1 (bs.drop a).length cap1) := hb.box.cell 0
    have hBW : B0 ≤ wr.heap.size := by have := hb.box.lt; have := hb.hB; omega
    have hle := hb.le
    have hm := hb.most
    have ha := hT.1
    have HT := Lib.hid hT
    have HBX := Lib.hid hb
    have HJ1 := Lib.hid hj
    obtain ⟨d, hd⟩ : ∃ d, d = bs.drop a := ⟨_, rfl⟩
    rw [← hd] at hc0 hle
    have hdl : d.length ≤ bs.length := by rw [hd, List.length_drop]; omega
    have HD := Lib.hid hd
    clear hT hb hj hd
    by_cases h8 : 8 ≤ d.length
    · have h8i : (8 : Int) ≤ (d.length : Int) := by omega
      have d8 : decide ((8 : Int) ≤ (d.length : Int)) = true := by simp; omega
      gi_wp2_with fail
      obtain ⟨b, o, rfl, _, _⟩ := HBX.out.rd.at_ (k := 0) (by rw [List.length_map, ← HD.out]; omega)
      have R4 : Rd wr wr.heap.size (some ⟨b, o, none⟩) ((d.take 4).map bv) := by
        rw [List.map_take]
        have := (HBX.out.rd.more hBW).take 4
        rw [← HD.out] at this
        exact this
      refine ⟨trivial, (fun h => (by cases h)), (callsIn_wide.2 (number_any wr (some ⟨b, o, none⟩) cap1 (d.take 4) R4 (by rw [List.length_take]; omega))).mono ?_⟩
      rintro e w1 ⟨rfl, rfl⟩
      have hn32 : num (d.take 4) < 4294967296 := by
        have h1 := num_lt (d.take 4)
        have h2 : 256 ^ (d.take 4).length ≤ 256 ^ 4 := Nat.pow_le_pow_right (by omega) (by rw [List.length_take]; omega)
        omega
      obtain ⟨m, hm4⟩ : ∃ m, m = num (d.take 4) := ⟨_, rfl⟩
      rw [← hm4] at hn32 ⊢
      have HM := Lib.hid hm4
      clear hm4 R4
      by_cases q1 : 65536 < m
      · have d1 : decide (65536 < m) = true := by simpa using q1
        have q1i : (65536 : Int) < (m : Int) := by omega
        have HS := Lib.hid (show scan1 (bs.drop a) = none from by rw [scan1_by, ← HD.out]; exact if_neg (fun h => by have := h.2.1; rw [← HM.out] at this; omega))
        gi_wp2_with fail
        refine bodyPost_ret (results_none rfl _ _ _) rfl ?_
        exact ⟨⟨_, rfl⟩, by rw [HT.out.stop HS.out]; exact HJ1.out⟩
      · have d1 : decide (65536 < m) = false := by simp; omega
        have q1i : (m : Int) ≤ 65536 := by omega
        by_cases q2 : d.length < 8 + m
        · have d2 : decide ((d.length : Int) - 8 < (m : Int)) = true := by simp; omega
          have HS := Lib.hid (show scan1 (bs.drop a) = none from by rw [scan1_by, ← HD.out]; exact if_neg (fun h => by have := h.2.2.1; rw [← HM.out] at this; omega))
          gi_wp2_with fail
          refine bodyPost_ret (results_none rfl _ _ _) rfl ?_
          exact ⟨⟨_, rfl⟩, by rw [HT.out.stop HS.out]; exact HJ1.out⟩
        · have d2 : decide ((d.length : Int) - 8 < (m : Int)) = false := by simp; omega
          have k1 : (8 : Int) ≤ 8 + (m : Int) := by omega
          have k2 : (8 + (m : Int)).toNat = 8 + m := by omega
          have k3 : 8 + (m : Int) ≤ (cap1 : Int) := by omega
          have k4 : 8 + m ≤ cap1 := by omega
          have k5 : 8 + m - 8 = m := by omega
          obtain ⟨A2, hA2⟩ : ∃ A2, (if cap1 = 8 then some ({ block := b, off := o, spot := none } : Addr) else some { block := b, off := o + 8, spot := none }) = A2 := ⟨_, rfl⟩
          obtain ⟨x, hx⟩ : ∃ x, x = (d.drop 8).take m := ⟨_, rfl⟩
          have hxl : x.length = m := by rw [hx, List.length_take, List.length_drop]; omega
          obtain ⟨s1, hs1⟩ : ∃ s1, s1 = CrcM.sum (d.take 4) := ⟨_, rfl⟩
          obtain ⟨t1, ht1⟩ : ∃ t1, t1 = CrcM.add s1 x := ⟨_, rfl⟩
          obtain ⟨p1, hp1⟩ : ∃ p1, p1 = num ((d.drop 4).take 4) := ⟨_, rfl⟩
          have HBD : Hid (Box wr B0 Bn (some ⟨b, o, none⟩) cap1 d) := Lib.hid (by rw [HD.out]; exact HBX.out)
          have hrd := HBD.out.rd
          have hdc : (d.map bv).length ≤ cap1 := by simpa using hle
          have r27 : Rd wr B0 (some ⟨b, o, none⟩) ((d.take 4).map bv) := by rw [List.map_take]; exact hrd.take 4
          have r32 : Rd wr B0 (some ⟨b, o + 4, none⟩) (((d.drop 4).take 4).map bv) := by
            have h := (hrd.cut (k := 4) hdc).take 4
            rw [if_neg (by omega)] at h
            rw [List.map_take, List.map_drop]
            simpa [Addr.add_lit] using h
          have r29 : Rd wr B0 A2 (x.map bv) := by
            have h := (hrd.cut (k := 8) hdc).take m
            rw [hx, List.map_take, List.map_drop, ← hA2]
            simpa [Addr.add_lit] using h
          have R27 : Hid (∀ w, Fresh wr w → Calls Try.prog 82 #[.slice (some ⟨b, o, none⟩) 4 cap1] w fun e w' => e = .returned (.int .u32 (s1.toNat : Int)) ∧ Fresh w w') := Lib.hid fun w hF => by
            have h := sum_any (some ⟨b, o, none⟩) cap1 (d.take 4) w ((r27.fresh hBW hF).more (Nat.le_trans hBW hF.size)) (by rw [List.length_take]; omega)
            rw [List.length_take, Nat.min_eq_left (show 4 ≤ d.length by omega), ← hs1] at h
            exact h
          have R30 : Hid (∀ w, Fresh wr w → Calls Try.prog 81 #[.int .u32 (s1.toNat : Int), .slice A2 m (cap1 - 8)] w fun e w' => e = .returned (.int .u32 (t1.toNat : Int)) ∧ Fresh w w') := Lib.hid fun w hF => by
            have h := add_any s1 A2 (cap1 - 8) x w ((r29.fresh hBW hF).more (Nat.le_trans hBW hF.size)) (by omega)
            rw [hxl, ← ht1] at h
            exact h
          have R33 : Hid (∀ w, Fresh wr w → Calls Try.prog 114 #[.slice (some ⟨b, o + 4, none⟩) 4 (cap1 - 4)] w fun e w' => e = .returned (.int .u32 (p1 : Int)) ∧ Fresh w w') := Lib.hid fun w hF => by
            have h := number_any w (some ⟨b, o + 4, none⟩) (cap1 - 4) ((d.drop 4).take 4) ((r32.fresh hBW hF).more (Nat.le_trans hBW hF.size)) (by rw [List.length_take, List.length_drop]; omega)
            rw [← hp1] at h
            exact h.mono fun e w' ⟨h1, h2⟩ => ⟨h1, by rw [← h2]; exact Frm.refl _ _⟩
          have hrl : (recs pre).length + x.length + 8 ≤ bs.length := by
            have h1 := HT.out.len
            have h2 : d.length = bs.length - a := by rw [HD.out, List.length_drop]
            omega
          have RY : Hid (∀ w, Fresh wr w → YieldAt Fence.wide (n - 1) Try.prog l #[.slice A2 m (cap1 - 8)] w fun e W' => e = .returned (.bool true) ∧ J (pre ++ [x]) W' ∧ Frm (fun k => B0 ≤ k ∧ k ≠ Bn) w W') := Lib.hid fun w hF => by
            have h := HY.out pre x A2 (cap1 - 8) w (HJ.out _ _ _ HJ1.out hF.frm) (r29.fresh hBW hF) (Nat.le_trans hBW hF.size) hrl
            rw [hxl] at h
            exact h
          have HSC := Lib.hid (show scan1 (bs.drop a) = if t1.toNat = p1 then some x else none from by
            rw [scan1_by, ← HD.out, ← HM.out, ← hx, ← hs1, ← ht1, ← hp1]
            by_cases hc : t1.toNat = p1
            · rw [if_pos hc, if_pos ⟨h8, by omega, by omega, hc⟩]
            · rw [if_neg hc, if_neg (fun h => hc h.2.2.2)])
          have HXL := Lib.hid hxl
          have hB0n : B0 ≤ Bn := HBD.out.hB
          have ht32 := t1.isLt
          have hp32 : p1 < 4294967296 := by
            have h1 := num_lt ((d.drop 4).take 4)
            have h2 : 256 ^ ((d.drop 4).take 4).length ≤ 256 ^ 4 := Nat.pow_le_pow_right (by omega) (by rw [List.length_take]; omega)
            rw [hp1]; omega
          clear r27 r29 r32 hrd hdc hx hs1 ht1 hp1 hxl hrl
          gi_wp2_with fail
          by_cases hcrc : t1.toNat = p1
          · have HS1 := Lib.hid (show scan1 (bs.drop a) = some x by rw [HSC.out, if_pos hcrc])
            have hne : ((t1.toNat : Int) != (p1 : Int)) = false := by simp; omega
            clear hcrc
            refine wpIn_region_conf (by kernel_rfl) (fun L => { tmps := #[.func (.yield l) #[] #[], .pointer (some ⟨Bn, 0, none⟩), undef, .int .u32 (m : Int), .slice A2 m (cap1 - 8), .slice (some ⟨b, o, none⟩) d.length cap1, .int .i64 (d.length : Int), .bool true, .slice (some ⟨b, o, none⟩) d.length cap1, .slice (some ⟨b, o, none⟩) 4 cap1, .int .u32 (m : Int), .int .u32 (m : Int), .bool (decide (65536 < (m : Int))), .bool (decide (65536 < (m : Int))), .int .u32 (m : Int), .int .i64 (m : Int), .slice (some ⟨b, o, none⟩) d.length cap1, .int .i64 (d.length : Int), .int .i64 ((d.length : Int) - 8), .bool false, .bool (decide (65536 < (m : Int))), .slice (some ⟨b, o, none⟩) d.length cap1, .int .u32 (m : Int), .int .i64 (m : Int), .int .i64 (8 + (m : Int)), .slice A2 m (cap1 - 8), slot L 0 (.slice (some ⟨b, o, none⟩) d.length cap1) u26, slot L 1 (.slice (some ⟨b, o, none⟩) 4 cap1) u27, slot L 2 (.int .u32 (s1.toNat : Int)) u28, slot L 3 (.slice A2 m (cap1 - 8)) u29, slot L 4 (.int .u32 (t1.toNat : Int)) u30, slot L 5 (.slice (some ⟨b, o, none⟩) d.length cap1) u31, slot L 6 (.slice (some ⟨b, o + 4, none⟩) 4 (cap1 - 4)) u32, slot L 7 (.int .u32 (p1 : Int)) u33, slot L 8 (.bool false) u34, slot L 9 (.bool false) u35, slot L 10 ((.func (.yield l) #[] #[])) u36, slot L 11 ((.slice A2 m (cap1 - 8))) u37, slot L 12 ((.bool true)) u38, slot L 13 ((.bool false)) u39, slot L 14 (.bool false) u40, u41, u42, u43, u44, u45], defers := [] }) (SS J (pre ++ [x]) wr B0 Bn (some ⟨b, o, none⟩) cap1 d) ?_ ?_ (early_of (by kernel_rfl)) ?step ?fin
            · simp only [slot_none]
            · exact SS.start
            case step =>
              intro L i w hLs hcl hi hun hdep hS
              have hL15 : L.size = 15 := hLs
              have hi15 : i < 15 := hi
              rcases (show i = 0 ∨ i = 1 ∨ i = 2 ∨ i = 3 ∨ i = 4 ∨ i = 5 ∨ i = 6 ∨ i = 7 ∨ i = 8 ∨ i = 9 ∨ i = 10 ∨ i = 11 ∨ i = 12 ∨ i = 13 ∨ i = 14 by omega) with rfl | rfl | rfl | rfl | rfl | rfl | rfl | rfl | rfl | rfl | rfl | rfl | rfl | rfl | rfl
              · have n12 : L.getD 12 false = false := by
                  rcases Bool.eq_false_or_eq_true (L.getD 12 false) with k12 | k12
                  · have k9 : L.getD 9 false = true := hcl 12 _ rfl k12 ⟨9, .chain⟩ (by simp) rfl
                    have k8 : L.getD 8 false = true := hcl 9 _ rfl k9 ⟨8, .data⟩ (by simp) rfl
                    have k7 : L.getD 7 false = true := hcl 8 _ rfl k8 ⟨7, .data⟩ (by simp) rfl
                    have k4 : L.getD 4 false = true := hcl 7 _ rfl k7 ⟨4, .chain⟩ (by simp) rfl
                    have k2 : L.getD 2 false = true := hcl 4 _ rfl k4 ⟨2, .data⟩ (by simp) rfl
                    have k1 : L.getD 1 false = true := hcl 2 _ rfl k2 ⟨1, .data⟩ (by simp) rfl
                    have k0 : L.getD 0 false = true := hcl 1 _ rfl k1 ⟨0, .data⟩ (by simp) rfl
                    rw [k0] at hun
                    cases hun
                  · exact k12
                have hF : Fresh wr w := hS.fresh n12
                have HS := Lib.hid hS
                have HF := Lib.hid hF
                have HN := Lib.hid n12
                have hcell : w.cell? ⟨Bn, 0, none⟩ = some (.slice (some ⟨b, o, none⟩) d.length cap1) := (HBD.out.box.frm hF (fun f => f)).cell 0
                refine wpOpIn_list (o := _) rfl (fun K hK => ?_)
                dsimp only
                have HE := Lib.hid (show ∀ v u, slot (L.setIfInBounds 0 true) 0 v u = v from slot_set_eq (by omega))
                clear hLs hcl hun hdep hS hL15 hi15 hi hF n12
                gi_wp2_with fail
                exact ⟨by simp only [HE.out, slot_set_ne (show (0 : Nat) ≠ 1 by decide), slot_set_ne (show (0 : Nat) ≠ 2 by decide), slot_set_ne (show (0 : Nat) ≠ 3 by decide), slot_set_ne (show (0 : Nat) ≠ 4 by decide), slot_set_ne (show (0 : Nat) ≠ 5 by decide), slot_set_ne (show (0 : Nat) ≠ 6 by decide), slot_set_ne (show (0 : Nat) ≠ 7 by decide), slot_set_ne (show (0 : Nat) ≠ 8 by decide), slot_set_ne (show (0 : Nat) ≠ 9 by decide), slot_set_ne (show (0 : Nat) ≠ 10 by decide), slot_set_ne (show (0 : Nat) ≠ 11 by decide), slot_set_ne (show (0 : Nat) ≠ 12 by decide), slot_set_ne (show (0 : Nat) ≠ 13 by decide), slot_set_ne (show (0 : Nat) ≠ 14 by decide), and_self], HS.out.keep (by decide)⟩
              · have l0 : L.getD 0 false = true := hdep _ rfl ⟨0, .data⟩ (by simp) rfl
                have HS := Lib.hid hS
                refine wpOpIn_list (o := _) rfl (fun K hK => ?_)
                dsimp only
                simp only [slot_yes l0]
                have HE := Lib.hid (show ∀ v u, slot (L.setIfInBounds 1 true) 1 v u = v from slot_set_eq (by omega))
                have H0 := Lib.hid l0
                clear hLs hcl hun hdep hS hL15 hi15 hi l0
                gi_wp2_with fail
                exact ⟨by simp only [HE.out, slot_set_ne (show (1 : Nat) ≠ 0 by decide), slot_set_ne (show (1 : Nat) ≠ 2 by decide), slot_set_ne (show (1 : Nat) ≠ 3 by decide), slot_set_ne (show (1 : Nat) ≠ 4 by decide), slot_set_ne (show (1 : Nat) ≠ 5 by decide), slot_set_ne (show (1 : Nat) ≠ 6 by decide), slot_set_ne (show (1 : Nat) ≠ 7 by decide), slot_set_ne (show (1 : Nat) ≠ 8 by decide), slot_set_ne (show (1 : Nat) ≠ 9 by decide), slot_set_ne (show (1 : Nat) ≠ 10 by decide), slot_set_ne (show (1 : Nat) ≠ 11 by decide), slot_set_ne (show (1 : Nat) ≠ 12 by decide), slot_set_ne (show (1 : Nat) ≠ 13 by decide), slot_set_ne (show (1 : Nat) ≠ 14 by decide), slot_yes H0.out, and_self], HS.out.keep (by decide)⟩
              · have l1 : L.getD 1 false = true := hdep _ rfl ⟨1, .data⟩ (by simp) rfl
                have n12 : L.getD 12 false = false := by
                  rcases Bool.eq_false_or_eq_true (L.getD 12 false) with k12 | k12
                  · have k9 : L.getD 9 false = true := hcl 12 _ rfl k12 ⟨9, .chain⟩ (by simp) rfl
                    have k8 : L.getD 8 false = true := hcl 9 _ rfl k9 ⟨8, .data⟩ (by simp) rfl
                    have k7 : L.getD 7 false = true := hcl 8 _ rfl k8 ⟨7, .data⟩ (by simp) rfl
                    have k4 : L.getD 4 false = true := hcl 7 _ rfl k7 ⟨4, .chain⟩ (by simp) rfl
                    have k2 : L.getD 2 false = true := hcl 4 _ rfl k4 ⟨2, .data⟩ (by simp) rfl
                    rw [k2] at hun
                    cases hun
                  · exact k12
                have hF : Fresh wr w := hS.fresh n12
                have HS := Lib.hid hS
                have HF := Lib.hid hF
                have HN := Lib.hid n12
                refine wpOpIn_list (o := _) rfl (fun K hK => ?_)
                dsimp only
                simp only [slot_yes l1]
                have HE := Lib.hid (show ∀ v u, slot (L.setIfInBounds 2 true) 2 v u = v from slot_set_eq (by omega))
                have H1 := Lib.hid l1
                clear hLs hcl hun hdep hS hL15 hi15 hi l1 hF n12
                gi_wp2_with fail
                have hcon := R27.out w HF.out
                refine ⟨trivial, (fun h => (by cases h)), (callsIn_wide.2 hcon).mono ?_⟩
                rintro e w2 ⟨rfl, hf2⟩
                gi_wp2_with fail
                exact ⟨by simp only [HE.out, slot_set_ne (show (2 : Nat) ≠ 0 by decide), slot_set_ne (show (2 : Nat) ≠ 1 by decide), slot_set_ne (show (2 : Nat) ≠ 3 by decide), slot_set_ne (show (2 : Nat) ≠ 4 by decide), slot_set_ne (show (2 : Nat) ≠ 5 by decide), slot_set_ne (show (2 : Nat) ≠ 6 by decide), slot_set_ne (show (2 : Nat) ≠ 7 by decide), slot_set_ne (show (2 : Nat) ≠ 8 by decide), slot_set_ne (show (2 : Nat) ≠ 9 by decide), slot_set_ne (show (2 : Nat) ≠ 10 by decide), slot_set_ne (show (2 : Nat) ≠ 11 by decide), slot_set_ne (show (2 : Nat) ≠ 12 by decide), slot_set_ne (show (2 : Nat) ≠ 13 by decide), slot_set_ne (show (2 : Nat) ≠ 14 by decide), slot_yes H1.out], HS.out.call (by decide) HN.out hf2⟩
              · have HS := Lib.hid hS
                refine wpOpIn_list (o := _) rfl (fun K hK => ?_)
                dsimp only
                have HE := Lib.hid (show ∀ v u, slot (L.setIfInBounds 3 true) 3 v u = v from slot_set_eq (by omega))
                clear hLs hcl hun hdep hS hL15 hi15 hi
                gi_wp2_with fail
                exact ⟨by simp only [HE.out, slot_set_ne (show (3 : Nat) ≠ 0 by decide), slot_set_ne (show (3 : Nat) ≠ 1 by decide), slot_set_ne (show (3 : Nat) ≠ 2 by decide), slot_set_ne (show (3 : Nat) ≠ 4 by decide), slot_set_ne (show (3 : Nat) ≠ 5 by decide), slot_set_ne (show (3 : Nat) ≠ 6 by decide), slot_set_ne (show (3 : Nat) ≠ 7 by decide), slot_set_ne (show (3 : Nat) ≠ 8 by decide), slot_set_ne (show (3 : Nat) ≠ 9 by decide), slot_set_ne (show (3 : Nat) ≠ 10 by decide), slot_set_ne (show (3 : Nat) ≠ 11 by decide), slot_set_ne (show (3 : Nat) ≠ 12 by decide), slot_set_ne (show (3 : Nat) ≠ 13 by decide), slot_set_ne (show (3 : Nat) ≠ 14 by decide), and_self], HS.out.keep (by decide)⟩
              · have l2 : L.getD 2 false = true := hdep _ rfl ⟨2, .data⟩ (by simp) rfl
                have l3 : L.getD 3 false = true := hdep _ rfl ⟨3, .data⟩ (by simp) rfl
                have n12 : L.getD 12 false = false := by
                  rcases Bool.eq_false_or_eq_true (L.getD 12 false) with k12 | k12
                  · have k9 : L.getD 9 false = true := hcl 12 _ rfl k12 ⟨9, .chain⟩ (by simp) rfl
                    have k8 : L.getD 8 false = true := hcl 9 _ rfl k9 ⟨8, .data⟩ (by simp) rfl
                    have k7 : L.getD 7 false = true := hcl 8 _ rfl k8 ⟨7, .data⟩ (by simp) rfl
                    have k4 : L.getD 4 false = true := hcl 7 _ rfl k7 ⟨4, .chain⟩ (by simp) rfl
                    rw [k4] at hun
                    cases hun
                  · exact k12
                have hF : Fresh wr w := hS.fresh n12
                have HS := Lib.hid hS
                have HF := Lib.hid hF
                have HN := Lib.hid n12
                refine wpOpIn_list (o := _) rfl (fun K hK => ?_)
                dsimp only
                simp only [slot_yes l2, slot_yes l3]
                have HE := Lib.hid (show ∀ v u, slot (L.setIfInBounds 4 true) 4 v u = v from slot_set_eq (by omega))
                have H2 := Lib.hid l2
                have H3 := Lib.hid l3
                clear hLs hcl hun hdep hS hL15 hi15 hi l2 l3 hF n12
                gi_wp2_with fail
                have hcon := R30.out w HF.out
                refine ⟨trivial, (fun h => (by cases h)), (callsIn_wide.2 hcon).mono ?_⟩
                rintro e w2 ⟨rfl, hf2⟩
                gi_wp2_with fail
                exact ⟨by simp only [HE.out, slot_set_ne (show (4 : Nat) ≠ 0 by decide), slot_set_ne (show (4 : Nat) ≠ 1 by decide), slot_set_ne (show (4 : Nat) ≠ 2 by decide), slot_set_ne (show (4 : Nat) ≠ 3 by decide), slot_set_ne (show (4 : Nat) ≠ 5 by decide), slot_set_ne (show (4 : Nat) ≠ 6 by decide), slot_set_ne (show (4 : Nat) ≠ 7 by decide), slot_set_ne (show (4 : Nat) ≠ 8 by decide), slot_set_ne (show (4 : Nat) ≠ 9 by decide), slot_set_ne (show (4 : Nat) ≠ 10 by decide), slot_set_ne (show (4 : Nat) ≠ 11 by decide), slot_set_ne (show (4 : Nat) ≠ 12 by decide), slot_set_ne (show (4 : Nat) ≠ 13 by decide), slot_set_ne (show (4 : Nat) ≠ 14 by decide), slot_yes H2.out, slot_yes H3.out], HS.out.call (by decide) HN.out hf2⟩
              · have n12 : L.getD 12 false = false := by
                  rcases Bool.eq_false_or_eq_true (L.getD 12 false) with k12 | k12
                  · have k9 : L.getD 9 false = true := hcl 12 _ rfl k12 ⟨9, .chain⟩ (by simp) rfl
                    have k8 : L.getD 8 false = true := hcl 9 _ rfl k9 ⟨8, .data⟩ (by simp) rfl
                    have k7 : L.getD 7 false = true := hcl 8 _ rfl k8 ⟨7, .data⟩ (by simp) rfl
                    have k6 : L.getD 6 false = true := hcl 7 _ rfl k7 ⟨6, .data⟩ (by simp) rfl
                    have k5 : L.getD 5 false = true := hcl 6 _ rfl k6 ⟨5, .data⟩ (by simp) rfl
                    rw [k5] at hun
                    cases hun
                  · exact k12
                have hF : Fresh wr w := hS.fresh n12
                have HS := Lib.hid hS
                have HF := Lib.hid hF
                have HN := Lib.hid n12
                have hcell : w.cell? ⟨Bn, 0, none⟩ = some (.slice (some ⟨b, o, none⟩) d.length cap1) := (HBD.out.box.frm hF (fun f => f)).cell 0
                refine wpOpIn_list (o := _) rfl (fun K hK => ?_)
                dsimp only
                have HE := Lib.hid (show ∀ v u, slot (L.setIfInBounds 5 true) 5 v u = v from slot_set_eq (by omega))
                clear hLs hcl hun hdep hS hL15 hi15 hi hF n12
                gi_wp2_with fail
                exact ⟨by simp only [HE.out, slot_set_ne (show (5 : Nat) ≠ 0 by decide), slot_set_ne (show (5 : Nat) ≠ 1 by decide), slot_set_ne (show (5 : Nat) ≠ 2 by decide), slot_set_ne (show (5 : Nat) ≠ 3 by decide), slot_set_ne (show (5 : Nat) ≠ 4 by decide), slot_set_ne (show (5 : Nat) ≠ 6 by decide), slot_set_ne (show (5 : Nat) ≠ 7 by decide), slot_set_ne (show (5 : Nat) ≠ 8 by decide), slot_set_ne (show (5 : Nat) ≠ 9 by decide), slot_set_ne (show (5 : Nat) ≠ 10 by decide), slot_set_ne (show (5 : Nat) ≠ 11 by decide), slot_set_ne (show (5 : Nat) ≠ 12 by decide), slot_set_ne (show (5 : Nat) ≠ 13 by decide), slot_set_ne (show (5 : Nat) ≠ 14 by decide), and_self], HS.out.keep (by decide)⟩
              · have l5 : L.getD 5 false = true := hdep _ rfl ⟨5, .data⟩ (by simp) rfl
                have HS := Lib.hid hS
                refine wpOpIn_list (o := _) rfl (fun K hK => ?_)
                dsimp only
                simp only [slot_yes l5]
                have HE := Lib.hid (show ∀ v u, slot (L.setIfInBounds 6 true) 6 v u = v from slot_set_eq (by omega))
                have H5 := Lib.hid l5
                clear hLs hcl hun hdep hS hL15 hi15 hi l5
                gi_wp2_with fail
                exact ⟨by simp only [HE.out, slot_set_ne (show (6 : Nat) ≠ 0 by decide), slot_set_ne (show (6 : Nat) ≠ 1 by decide), slot_set_ne (show (6 : Nat) ≠ 2 by decide), slot_set_ne (show (6 : Nat) ≠ 3 by decide), slot_set_ne (show (6 : Nat) ≠ 4 by decide), slot_set_ne (show (6 : Nat) ≠ 5 by decide), slot_set_ne (show (6 : Nat) ≠ 7 by decide), slot_set_ne (show (6 : Nat) ≠ 8 by decide), slot_set_ne (show (6 : Nat) ≠ 9 by decide), slot_set_ne (show (6 : Nat) ≠ 10 by decide), slot_set_ne (show (6 : Nat) ≠ 11 by decide), slot_set_ne (show (6 : Nat) ≠ 12 by decide), slot_set_ne (show (6 : Nat) ≠ 13 by decide), slot_set_ne (show (6 : Nat) ≠ 14 by decide), slot_yes H5.out, and_self], HS.out.keep (by decide)⟩
              · have l6 : L.getD 6 false = true := hdep _ rfl ⟨6, .data⟩ (by simp) rfl
                have l4 : L.getD 4 false = true := hdep _ rfl ⟨4, .chain⟩ (by simp) rfl
                have n12 : L.getD 12 false = false := by
                  rcases Bool.eq_false_or_eq_true (L.getD 12 false) with k12 | k12
                  · have k9 : L.getD 9 false = true := hcl 12 _ rfl k12 ⟨9, .chain⟩ (by simp) rfl
                    have k8 : L.getD 8 false = true := hcl 9 _ rfl k9 ⟨8, .data⟩ (by simp) rfl
                    have k7 : L.getD 7 false = true := hcl 8 _ rfl k8 ⟨7, .data⟩ (by simp) rfl
                    rw [k7] at hun
                    cases hun
                  · exact k12
                have hF : Fresh wr w := hS.fresh n12
                have HS := Lib.hid hS
                have HF := Lib.hid hF
                have HN := Lib.hid n12
                refine wpOpIn_list (o := _) rfl (fun K hK => ?_)
                dsimp only
                simp only [slot_yes l6, slot_yes l4]
                have HE := Lib.hid (show ∀ v u, slot (L.setIfInBounds 7 true) 7 v u = v from slot_set_eq (by omega))
                have H6 := Lib.hid l6
                have H4 := Lib.hid l4
                clear hLs hcl hun hdep hS hL15 hi15 hi l6 l4 hF n12
                gi_wp2_with fail
                have hcon := R33.out w HF.out
                refine ⟨trivial, (fun h => (by cases h)), (callsIn_wide.2 hcon).mono ?_⟩
                rintro e w2 ⟨rfl, hf2⟩
                gi_wp2_with fail
                exact ⟨by simp only [HE.out, slot_set_ne (show (7 : Nat) ≠ 0 by decide), slot_set_ne (show (7 : Nat) ≠ 1 by decide), slot_set_ne (show (7 : Nat) ≠ 2 by decide), slot_set_ne (show (7 : Nat) ≠ 3 by decide), slot_set_ne (show (7 : Nat) ≠ 4 by decide), slot_set_ne (show (7 : Nat) ≠ 5 by decide), slot_set_ne (show (7 : Nat) ≠ 6 by decide), slot_set_ne (show (7 : Nat) ≠ 8 by decide), slot_set_ne (show (7 : Nat) ≠ 9 by decide), slot_set_ne (show (7 : Nat) ≠ 10 by decide), slot_set_ne (show (7 : Nat) ≠ 11 by decide), slot_set_ne (show (7 : Nat) ≠ 12 by decide), slot_set_ne (show (7 : Nat) ≠ 13 by decide), slot_set_ne (show (7 : Nat) ≠ 14 by decide), slot_yes H6.out, slot_yes H4.out], HS.out.call (by decide) HN.out hf2⟩
              · have l4 : L.getD 4 false = true := hdep _ rfl ⟨4, .data⟩ (by simp) rfl
                have l7 : L.getD 7 false = true := hdep _ rfl ⟨7, .data⟩ (by simp) rfl
                have HS := Lib.hid hS
                refine wpOpIn_list (o := _) rfl (fun K hK => ?_)
                dsimp only
                simp only [slot_yes l4, slot_yes l7]
                have HE := Lib.hid (show ∀ v u, slot (L.setIfInBounds 8 true) 8 v u = v from slot_set_eq (by omega))
                have H4 := Lib.hid l4
                have H7 := Lib.hid l7
                clear hLs hcl hun hdep hS hL15 hi15 hi l4 l7
                gi_wp2_with fail
                exact ⟨by simp only [HE.out, slot_set_ne (show (8 : Nat) ≠ 0 by decide), slot_set_ne (show (8 : Nat) ≠ 1 by decide), slot_set_ne (show (8 : Nat) ≠ 2 by decide), slot_set_ne (show (8 : Nat) ≠ 3 by decide), slot_set_ne (show (8 : Nat) ≠ 4 by decide), slot_set_ne (show (8 : Nat) ≠ 5 by decide), slot_set_ne (show (8 : Nat) ≠ 6 by decide), slot_set_ne (show (8 : Nat) ≠ 7 by decide), slot_set_ne (show (8 : Nat) ≠ 9 by decide), slot_set_ne (show (8 : Nat) ≠ 10 by decide), slot_set_ne (show (8 : Nat) ≠ 11 by decide), slot_set_ne (show (8 : Nat) ≠ 12 by decide), slot_set_ne (show (8 : Nat) ≠ 13 by decide), slot_set_ne (show (8 : Nat) ≠ 14 by decide), slot_yes H4.out, slot_yes H7.out, and_self], HS.out.keep (by decide)⟩
              · have l8 : L.getD 8 false = true := hdep _ rfl ⟨8, .data⟩ (by simp) rfl
                have l7 : L.getD 7 false = true := hdep _ rfl ⟨7, .chain⟩ (by simp) rfl
                have HS := Lib.hid hS
                refine wpOpIn_list (o := _) rfl (fun K hK => ?_)
                dsimp only
                simp only [slot_yes l8, slot_yes l7]
                have HE := Lib.hid (show ∀ v u, slot (L.setIfInBounds 9 true) 9 v u = v from slot_set_eq (by omega))
                have H8 := Lib.hid l8
                have H7 := Lib.hid l7
                clear hLs hcl hun hdep hS hL15 hi15 hi l8 l7
                gi_wp2_with fail
                exact ⟨by simp only [HE.out, slot_set_ne (show (9 : Nat) ≠ 0 by decide), slot_set_ne (show (9 : Nat) ≠ 1 by decide), slot_set_ne (show (9 : Nat) ≠ 2 by decide), slot_set_ne (show (9 : Nat) ≠ 3 by decide), slot_set_ne (show (9 : Nat) ≠ 4 by decide), slot_set_ne (show (9 : Nat) ≠ 5 by decide), slot_set_ne (show (9 : Nat) ≠ 6 by decide), slot_set_ne (show (9 : Nat) ≠ 7 by decide), slot_set_ne (show (9 : Nat) ≠ 8 by decide), slot_set_ne (show (9 : Nat) ≠ 10 by decide), slot_set_ne (show (9 : Nat) ≠ 11 by decide), slot_set_ne (show (9 : Nat) ≠ 12 by decide), slot_set_ne (show (9 : Nat) ≠ 13 by decide), slot_set_ne (show (9 : Nat) ≠ 14 by decide), slot_yes H8.out, slot_yes H7.out, and_self], HS.out.keep (by decide)⟩
              · have l9 : L.getD 9 false = true := hdep _ rfl ⟨9, .guard⟩ (by simp) rfl
                have HS := Lib.hid hS
                refine wpOpIn_list (o := _) rfl (fun K hK => ?_)
                dsimp only
                simp only [slot_yes l9]
                have HE := Lib.hid (show ∀ v u, slot (L.setIfInBounds 10 true) 10 v u = v from slot_set_eq (by omega))
                have H9 := Lib.hid l9
                clear hLs hcl hun hdep hS hL15 hi15 hi l9
                gi_wp2_with fail
                exact ⟨by simp only [HE.out, slot_set_ne (show (10 : Nat) ≠ 0 by decide), slot_set_ne (show (10 : Nat) ≠ 1 by decide), slot_set_ne (show (10 : Nat) ≠ 2 by decide), slot_set_ne (show (10 : Nat) ≠ 3 by decide), slot_set_ne (show (10 : Nat) ≠ 4 by decide), slot_set_ne (show (10 : Nat) ≠ 5 by decide), slot_set_ne (show (10 : Nat) ≠ 6 by decide), slot_set_ne (show (10 : Nat) ≠ 7 by decide), slot_set_ne (show (10 : Nat) ≠ 8 by decide), slot_set_ne (show (10 : Nat) ≠ 9 by decide), slot_set_ne (show (10 : Nat) ≠ 11 by decide), slot_set_ne (show (10 : Nat) ≠ 12 by decide), slot_set_ne (show (10 : Nat) ≠ 13 by decide), slot_set_ne (show (10 : Nat) ≠ 14 by decide), slot_yes H9.out, and_self], HS.out.keep (by decide)⟩
              · have l9 : L.getD 9 false = true := hdep _ rfl ⟨9, .guard⟩ (by simp) rfl
                have HS := Lib.hid hS
                refine wpOpIn_list (o := _) rfl (fun K hK => ?_)
                dsimp only
                simp only [slot_yes l9]
                have HE := Lib.hid (show ∀ v u, slot (L.setIfInBounds 11 true) 11 v u = v from slot_set_eq (by omega))
                have H9 := Lib.hid l9
                clear hLs hcl hun hdep hS hL15 hi15 hi l9
                gi_wp2_with fail
                exact ⟨by simp only [HE.out, slot_set_ne (show (11 : Nat) ≠ 0 by decide), slot_set_ne (show (11 : Nat) ≠ 1 by decide), slot_set_ne (show (11 : Nat) ≠ 2 by decide), slot_set_ne (show (11 : Nat) ≠ 3 by decide), slot_set_ne (show (11 : Nat) ≠ 4 by decide), slot_set_ne (show (11 : Nat) ≠ 5 by decide), slot_set_ne (show (11 : Nat) ≠ 6 by decide), slot_set_ne (show (11 : Nat) ≠ 7 by decide), slot_set_ne (show (11 : Nat) ≠ 8 by decide), slot_set_ne (show (11 : Nat) ≠ 9 by decide), slot_set_ne (show (11 : Nat) ≠ 10 by decide), slot_set_ne (show (11 : Nat) ≠ 12 by decide), slot_set_ne (show (11 : Nat) ≠ 13 by decide), slot_set_ne (show (11 : Nat) ≠ 14 by decide), slot_yes H9.out, and_self], HS.out.keep (by decide)⟩
              · have l10 : L.getD 10 false = true := hdep _ rfl ⟨10, .data⟩ (by simp) rfl
                have l11 : L.getD 11 false = true := hdep _ rfl ⟨11, .data⟩ (by simp) rfl
                have l9 : L.getD 9 false = true := hdep _ rfl ⟨9, .chain⟩ (by simp) rfl
                have n12 : L.getD 12 false = false := hun
                have hF : Fresh wr w := hS.fresh n12
                have HS := Lib.hid hS
                have HF := Lib.hid hF
                have HN := Lib.hid n12
                refine wpOpIn_list (o := _) rfl (fun K hK => ?_)
                dsimp only
                simp only [slot_yes l10, slot_yes l11, slot_yes l9]
                have HE := Lib.hid (show ∀ v u, slot (L.setIfInBounds 12 true) 12 v u = v from slot_set_eq (by omega))
                have H10 := Lib.hid l10
                have H11 := Lib.hid l11
                have H9 := Lib.hid l9
                have H15 := Lib.hid hL15
                clear hLs hcl hun hdep hS hL15 hi15 hi l10 l11 l9 hF n12
                obtain ⟨fn, tmps, assign, body, hy, hR⟩ := RY.out w HF.out
                gi_wp2_with fail
                refine ⟨(fun h => (by cases h)), hR.mono ?_⟩
                rintro e w2 ⟨rfl, hJ2, hf2⟩
                gi_wp2_with fail
                exact ⟨by simp only [HE.out, slot_set_ne (show (12 : Nat) ≠ 0 by decide), slot_set_ne (show (12 : Nat) ≠ 1 by decide), slot_set_ne (show (12 : Nat) ≠ 2 by decide), slot_set_ne (show (12 : Nat) ≠ 3 by decide), slot_set_ne (show (12 : Nat) ≠ 4 by decide), slot_set_ne (show (12 : Nat) ≠ 5 by decide), slot_set_ne (show (12 : Nat) ≠ 6 by decide), slot_set_ne (show (12 : Nat) ≠ 7 by decide), slot_set_ne (show (12 : Nat) ≠ 8 by decide), slot_set_ne (show (12 : Nat) ≠ 9 by decide), slot_set_ne (show (12 : Nat) ≠ 10 by decide), slot_set_ne (show (12 : Nat) ≠ 11 by decide), slot_set_ne (show (12 : Nat) ≠ 13 by decide), slot_set_ne (show (12 : Nat) ≠ 14 by decide), slot_yes H10.out, slot_yes H11.out, slot_yes H9.out], SS.yield (by rw [H15.out]; omega) hJ2 (HBD.out.frm ((HF.out.frm (S := fun k => B0 ≤ k ∧ k ≠ Bn)).trans hf2) (fun f => f.2 rfl) (fun k hk f => by omega))⟩
              · have l12 : L.getD 12 false = true := hdep _ rfl ⟨12, .data⟩ (by simp) rfl
                have l9 : L.getD 9 false = true := hdep _ rfl ⟨9, .guard⟩ (by simp) rfl
                have HS := Lib.hid hS
                refine wpOpIn_list (o := _) rfl (fun K hK => ?_)
                dsimp only
                simp only [slot_yes l12, slot_yes l9]
                have HE := Lib.hid (show ∀ v u, slot (L.setIfInBounds 13 true) 13 v u = v from slot_set_eq (by omega))
                have H12 := Lib.hid l12
                have H9 := Lib.hid l9
                clear hLs hcl hun hdep hS hL15 hi15 hi l12 l9
                gi_wp2_with fail
                exact ⟨by simp only [HE.out, slot_set_ne (show (13 : Nat) ≠ 0 by decide), slot_set_ne (show (13 : Nat) ≠ 1 by decide), slot_set_ne (show (13 : Nat) ≠ 2 by decide), slot_set_ne (show (13 : Nat) ≠ 3 by decide), slot_set_ne (show (13 : Nat) ≠ 4 by decide), slot_set_ne (show (13 : Nat) ≠ 5 by decide), slot_set_ne (show (13 : Nat) ≠ 6 by decide), slot_set_ne (show (13 : Nat) ≠ 7 by decide), slot_set_ne (show (13 : Nat) ≠ 8 by decide), slot_set_ne (show (13 : Nat) ≠ 9 by decide), slot_set_ne (show (13 : Nat) ≠ 10 by decide), slot_set_ne (show (13 : Nat) ≠ 11 by decide), slot_set_ne (show (13 : Nat) ≠ 12 by decide), slot_set_ne (show (13 : Nat) ≠ 14 by decide), slot_yes H12.out, slot_yes H9.out, and_self], HS.out.keep (by decide)⟩
              · have l9 : L.getD 9 false = true := hdep _ rfl ⟨9, .data⟩ (by simp) rfl
                have l13 : L.getD 13 false = true := hdep _ rfl ⟨13, .data⟩ (by simp) rfl
                have HS := Lib.hid hS
                refine wpOpIn_list (o := _) rfl (fun K hK => ?_)
                dsimp only
                simp only [slot_yes l9, slot_yes l13]
                have HE := Lib.hid (show ∀ v u, slot (L.setIfInBounds 14 true) 14 v u = v from slot_set_eq (by omega))
                have H9 := Lib.hid l9
                have H13 := Lib.hid l13
                clear hLs hcl hun hdep hS hL15 hi15 hi l9 l13
                gi_wp2_with fail
                exact ⟨by simp only [HE.out, slot_set_ne (show (14 : Nat) ≠ 0 by decide), slot_set_ne (show (14 : Nat) ≠ 1 by decide), slot_set_ne (show (14 : Nat) ≠ 2 by decide), slot_set_ne (show (14 : Nat) ≠ 3 by decide), slot_set_ne (show (14 : Nat) ≠ 4 by decide), slot_set_ne (show (14 : Nat) ≠ 5 by decide), slot_set_ne (show (14 : Nat) ≠ 6 by decide), slot_set_ne (show (14 : Nat) ≠ 7 by decide), slot_set_ne (show (14 : Nat) ≠ 8 by decide), slot_set_ne (show (14 : Nat) ≠ 9 by decide), slot_set_ne (show (14 : Nat) ≠ 10 by decide), slot_set_ne (show (14 : Nat) ≠ 11 by decide), slot_set_ne (show (14 : Nat) ≠ 12 by decide), slot_set_ne (show (14 : Nat) ≠ 13 by decide), slot_yes H9.out, slot_yes H13.out, and_self], HS.out.keep (by decide)⟩
            case fin =>
              intro w2 hS2
              obtain ⟨hJ2, hB2⟩ := hS2.done (by simp)
              have HJ2 := Lib.hid hJ2
              have HB2 := Lib.hid hB2
              have c0 : w2.cell? ⟨Bn, 0, none⟩ = some (.slice (some ⟨b, o, none⟩) d.length cap1) := hB2.box.cell 0
              have f0 : w2.frozen? ⟨Bn, 0, none⟩ = false := hB2.box.frozen 0
              clear hS2 hJ2 hB2
              dsimp only
              simp only [List.size_toArray, List.length_cons, List.length_nil, Nat.reduceAdd, slot_all (show 0 < 15 by decide), slot_all (show 1 < 15 by decide), slot_all (show 2 < 15 by decide), slot_all (show 3 < 15 by decide), slot_all (show 4 < 15 by decide), slot_all (show 5 < 15 by decide), slot_all (show 6 < 15 by decide), slot_all (show 7 < 15 by decide), slot_all (show 8 < 15 by decide), slot_all (show 9 < 15 by decide), slot_all (show 10 < 15 by decide), slot_all (show 11 < 15 by decide), slot_all (show 12 < 15 by decide), slot_all (show 13 < 15 by decide), slot_all (show 14 < 15 by decide)]
              gi_wp2_with fail
              have hb3 := HB2.out.next (k := 8 + m) (by omega)
              have hdd : d.drop (8 + m) = bs.drop (a + 8 + x.length) := by rw [HD.out, List.drop_drop, HXL.out]; congr 1; omega
              rw [hdd] at hb3
              refine ⟨⟨pre ++ [x], a + 8 + x.length, _, _, HT.out.step HS1.out, hb3, HJ.out _ _ _ HJ2.out ((Frm.refl (fun k => k = Bn) w2).setCell (p := ⟨Bn, 0, none⟩) (fun _ => rfl) _)⟩, ?_⟩
              rw [hb3.len, HBD.out.len, ← hdd, List.length_drop]
              omega
          · have HS1 := Lib.hid (show scan1 (bs.drop a) = none by rw [HSC.out, if_neg hcrc])
            have hne : ((t1.toNat : Int) != (p1 : Int)) = true := by simp; omega
            clear hcrc
            refine wpIn_region_conf (by kernel_rfl) (fun L => { tmps := #[.func (.yield l) #[] #[], .pointer (some ⟨Bn, 0, none⟩), undef, .int .u32 (m : Int), .slice A2 m (cap1 - 8), .slice (some ⟨b, o, none⟩) d.length cap1, .int .i64 (d.length : Int), .bool true, .slice (some ⟨b, o, none⟩) d.length cap1, .slice (some ⟨b, o, none⟩) 4 cap1, .int .u32 (m : Int), .int .u32 (m : Int), .bool (decide (65536 < (m : Int))), .bool (decide (65536 < (m : Int))), .int .u32 (m : Int), .int .i64 (m : Int), .slice (some ⟨b, o, none⟩) d.length cap1, .int .i64 (d.length : Int), .int .i64 ((d.length : Int) - 8), .bool false, .bool (decide (65536 < (m : Int))), .slice (some ⟨b, o, none⟩) d.length cap1, .int .u32 (m : Int), .int .i64 (m : Int), .int .i64 (8 + (m : Int)), .slice A2 m (cap1 - 8), slot L 0 (.slice (some ⟨b, o, none⟩) d.length cap1) u26, slot L 1 (.slice (some ⟨b, o, none⟩) 4 cap1) u27, slot L 2 (.int .u32 (s1.toNat : Int)) u28, slot L 3 (.slice A2 m (cap1 - 8)) u29, slot L 4 (.int .u32 (t1.toNat : Int)) u30, slot L 5 (.slice (some ⟨b, o, none⟩) d.length cap1) u31, slot L 6 (.slice (some ⟨b, o + 4, none⟩) 4 (cap1 - 4)) u32, slot L 7 (.int .u32 (p1 : Int)) u33, slot L 8 (.bool true) u34, slot L 9 (.bool true) u35, slot L 10 (undef) u36, slot L 11 (undef) u37, slot L 12 (undef) u38, slot L 13 (undef) u39, slot L 14 (.bool true) u40, u41, u42, u43, u44, u45], defers := [] }) (fun _ w' => Fresh wr w') ?_ ?_ (early_of (by kernel_rfl)) ?step ?fin
            · simp only [slot_none]
            · exact (Frm.refl _ wr).drew
            case step =>
              intro L i w hLs hcl hi hun hdep hS
              have hL15 : L.size = 15 := hLs
              have hi15 : i < 15 := hi
              rcases (show i = 0 ∨ i = 1 ∨ i = 2 ∨ i = 3 ∨ i = 4 ∨ i = 5 ∨ i = 6 ∨ i = 7 ∨ i = 8 ∨ i = 9 ∨ i = 10 ∨ i = 11 ∨ i = 12 ∨ i = 13 ∨ i = 14 by omega) with rfl | rfl | rfl | rfl | rfl | rfl | rfl | rfl | rfl | rfl | rfl | rfl | rfl | rfl | rfl
              · have hF : Fresh wr w := hS
                have HS := Lib.hid hS
                have HF := Lib.hid hF
                have hcell : w.cell? ⟨Bn, 0, none⟩ = some (.slice (some ⟨b, o, none⟩) d.length cap1) := (HBD.out.box.frm hF (fun f => f)).cell 0
                refine wpOpIn_list (o := _) rfl (fun K hK => ?_)
                dsimp only
                have HE := Lib.hid (show ∀ v u, slot (L.setIfInBounds 0 true) 0 v u = v from slot_set_eq (by omega))
                clear hLs hcl hun hdep hS hL15 hi15 hi hF
                gi_wp2_with fail
                exact ⟨by simp only [HE.out, slot_set_ne (show (0 : Nat) ≠ 1 by decide), slot_set_ne (show (0 : Nat) ≠ 2 by decide), slot_set_ne (show (0 : Nat) ≠ 3 by decide), slot_set_ne (show (0 : Nat) ≠ 4 by decide), slot_set_ne (show (0 : Nat) ≠ 5 by decide), slot_set_ne (show (0 : Nat) ≠ 6 by decide), slot_set_ne (show (0 : Nat) ≠ 7 by decide), slot_set_ne (show (0 : Nat) ≠ 8 by decide), slot_set_ne (show (0 : Nat) ≠ 9 by decide), slot_set_ne (show (0 : Nat) ≠ 10 by decide), slot_set_ne (show (0 : Nat) ≠ 11 by decide), slot_set_ne (show (0 : Nat) ≠ 12 by decide), slot_set_ne (show (0 : Nat) ≠ 13 by decide), slot_set_ne (show (0 : Nat) ≠ 14 by decide), and_self], HS.out⟩
              · have l0 : L.getD 0 false = true := hdep _ rfl ⟨0, .data⟩ (by simp) rfl
                have HS := Lib.hid hS
                refine wpOpIn_list (o := _) rfl (fun K hK => ?_)
                dsimp only
                simp only [slot_yes l0]
                have HE := Lib.hid (show ∀ v u, slot (L.setIfInBounds 1 true) 1 v u = v from slot_set_eq (by omega))
                have H0 := Lib.hid l0
                clear hLs hcl hun hdep hS hL15 hi15 hi l0
                gi_wp2_with fail
                exact ⟨by simp only [HE.out, slot_set_ne (show (1 : Nat) ≠ 0 by decide), slot_set_ne (show (1 : Nat) ≠ 2 by decide), slot_set_ne (show (1 : Nat) ≠ 3 by decide), slot_set_ne (show (1 : Nat) ≠ 4 by decide), slot_set_ne (show (1 : Nat) ≠ 5 by decide), slot_set_ne (show (1 : Nat) ≠ 6 by decide), slot_set_ne (show (1 : Nat) ≠ 7 by decide), slot_set_ne (show (1 : Nat) ≠ 8 by decide), slot_set_ne (show (1 : Nat) ≠ 9 by decide), slot_set_ne (show (1 : Nat) ≠ 10 by decide), slot_set_ne (show (1 : Nat) ≠ 11 by decide), slot_set_ne (show (1 : Nat) ≠ 12 by decide), slot_set_ne (show (1 : Nat) ≠ 13 by decide), slot_set_ne (show (1 : Nat) ≠ 14 by decide), slot_yes H0.out, and_self], HS.out⟩
              · have l1 : L.getD 1 false = true := hdep _ rfl ⟨1, .data⟩ (by simp) rfl
                have hF : Fresh wr w := hS
                have HS := Lib.hid hS
                have HF := Lib.hid hF
                refine wpOpIn_list (o := _) rfl (fun K hK => ?_)
                dsimp only
                simp only [slot_yes l1]
                have HE := Lib.hid (show ∀ v u, slot (L.setIfInBounds 2 true) 2 v u = v from slot_set_eq (by omega))
                have H1 := Lib.hid l1
                clear hLs hcl hun hdep hS hL15 hi15 hi l1 hF
                gi_wp2_with fail
                have hcon := R27.out w HF.out
                refine ⟨trivial, (fun h => (by cases h)), (callsIn_wide.2 hcon).mono ?_⟩
                rintro e w2 ⟨rfl, hf2⟩
                gi_wp2_with fail
                exact ⟨by simp only [HE.out, slot_set_ne (show (2 : Nat) ≠ 0 by decide), slot_set_ne (show (2 : Nat) ≠ 1 by decide), slot_set_ne (show (2 : Nat) ≠ 3 by decide), slot_set_ne (show (2 : Nat) ≠ 4 by decide), slot_set_ne (show (2 : Nat) ≠ 5 by decide), slot_set_ne (show (2 : Nat) ≠ 6 by decide), slot_set_ne (show (2 : Nat) ≠ 7 by decide), slot_set_ne (show (2 : Nat) ≠ 8 by decide), slot_set_ne (show (2 : Nat) ≠ 9 by decide), slot_set_ne (show (2 : Nat) ≠ 10 by decide), slot_set_ne (show (2 : Nat) ≠ 11 by decide), slot_set_ne (show (2 : Nat) ≠ 12 by decide), slot_set_ne (show (2 : Nat) ≠ 13 by decide), slot_set_ne (show (2 : Nat) ≠ 14 by decide), slot_yes H1.out], HS.out.trans hf2⟩
              · have HS := Lib.hid hS
                refine wpOpIn_list (o := _) rfl (fun K hK => ?_)
                dsimp only
                have HE := Lib.hid (show ∀ v u, slot (L.setIfInBounds 3 true) 3 v u = v from slot_set_eq (by omega))
                clear hLs hcl hun hdep hS hL15 hi15 hi
                gi_wp2_with fail
                exact ⟨by simp only [HE.out, slot_set_ne (show (3 : Nat) ≠ 0 by decide), slot_set_ne (show (3 : Nat) ≠ 1 by decide), slot_set_ne (show (3 : Nat) ≠ 2 by decide), slot_set_ne (show (3 : Nat) ≠ 4 by decide), slot_set_ne (show (3 : Nat) ≠ 5 by decide), slot_set_ne (show (3 : Nat) ≠ 6 by decide), slot_set_ne (show (3 : Nat) ≠ 7 by decide), slot_set_ne (show (3 : Nat) ≠ 8 by decide), slot_set_ne (show (3 : Nat) ≠ 9 by decide), slot_set_ne (show (3 : Nat) ≠ 10 by decide), slot_set_ne (show (3 : Nat) ≠ 11 by decide), slot_set_ne (show (3 : Nat) ≠ 12 by decide), slot_set_ne (show (3 : Nat) ≠ 13 by decide), slot_set_ne (show (3 : Nat) ≠ 14 by decide), and_self], HS.out⟩
              · have l2 : L.getD 2 false = true := hdep _ rfl ⟨2, .data⟩ (by simp) rfl
                have l3 : L.getD 3 false = true := hdep _ rfl ⟨3, .data⟩ (by simp) rfl
                have hF : Fresh wr w := hS
                have HS := Lib.hid hS
                have HF := Lib.hid hF
                refine wpOpIn_list (o := _) rfl (fun K hK => ?_)
                dsimp only
                simp only [slot_yes l2, slot_yes l3]
                have HE := Lib.hid (show ∀ v u, slot (L.setIfInBounds 4 true) 4 v u = v from slot_set_eq (by omega))
                have H2 := Lib.hid l2
                have H3 := Lib.hid l3
                clear hLs hcl hun hdep hS hL15 hi15 hi l2 l3 hF
                gi_wp2_with fail
                have hcon := R30.out w HF.out
                refine ⟨trivial, (fun h => (by cases h)), (callsIn_wide.2 hcon).mono ?_⟩
                rintro e w2 ⟨rfl, hf2⟩
                gi_wp2_with fail
                exact ⟨by simp only [HE.out, slot_set_ne (show (4 : Nat) ≠ 0 by decide), slot_set_ne (show (4 : Nat) ≠ 1 by decide), slot_set_ne (show (4 : Nat) ≠ 2 by decide), slot_set_ne (show (4 : Nat) ≠ 3 by decide), slot_set_ne (show (4 : Nat) ≠ 5 by decide), slot_set_ne (show (4 : Nat) ≠ 6 by decide), slot_set_ne (show (4 : Nat) ≠ 7 by decide), slot_set_ne (show (4 : Nat) ≠ 8 by decide), slot_set_ne (show (4 : Nat) ≠ 9 by decide), slot_set_ne (show (4 : Nat) ≠ 10 by decide), slot_set_ne (show (4 : Nat) ≠ 11 by decide), slot_set_ne (show (4 : Nat) ≠ 12 by decide), slot_set_ne (show (4 : Nat) ≠ 13 by decide), slot_set_ne (show (4 : Nat) ≠ 14 by decide), slot_yes H2.out, slot_yes H3.out], HS.out.trans hf2⟩
              · have hF : Fresh wr w := hS
                have HS := Lib.hid hS
                have HF := Lib.hid hF
                have hcell : w.cell? ⟨Bn, 0, none⟩ = some (.slice (some ⟨b, o, none⟩) d.length cap1) := (HBD.out.box.frm hF (fun f => f)).cell 0
                refine wpOpIn_list (o := _) rfl (fun K hK => ?_)
                dsimp only
                have HE := Lib.hid (show ∀ v u, slot (L.setIfInBounds 5 true) 5 v u = v from slot_set_eq (by omega))
                clear hLs hcl hun hdep hS hL15 hi15 hi hF
                gi_wp2_with fail
                exact ⟨by simp only [HE.out, slot_set_ne (show (5 : Nat) ≠ 0 by decide), slot_set_ne (show (5 : Nat) ≠ 1 by decide), slot_set_ne (show (5 : Nat) ≠ 2 by decide), slot_set_ne (show (5 : Nat) ≠ 3 by decide), slot_set_ne (show (5 : Nat) ≠ 4 by decide), slot_set_ne (show (5 : Nat) ≠ 6 by decide), slot_set_ne (show (5 : Nat) ≠ 7 by decide), slot_set_ne (show (5 : Nat) ≠ 8 by decide), slot_set_ne (show (5 : Nat) ≠ 9 by decide), slot_set_ne (show (5 : Nat) ≠ 10 by decide), slot_set_ne (show (5 : Nat) ≠ 11 by decide), slot_set_ne (show (5 : Nat) ≠ 12 by decide), slot_set_ne (show (5 : Nat) ≠ 13 by decide), slot_set_ne (show (5 : Nat) ≠ 14 by decide), and_self], HS.out⟩
              · have l5 : L.getD 5 false = true := hdep _ rfl ⟨5, .data⟩ (by simp) rfl
                have HS := Lib.hid hS
                refine wpOpIn_list (o := _) rfl (fun K hK => ?_)
                dsimp only
                simp only [slot_yes l5]
                have HE := Lib.hid (show ∀ v u, slot (L.setIfInBounds 6 true) 6 v u = v from slot_set_eq (by omega))
                have H5 := Lib.hid l5
                clear hLs hcl hun hdep hS hL15 hi15 hi l5
                gi_wp2_with fail
                exact ⟨by simp only [HE.out, slot_set_ne (show (6 : Nat) ≠ 0 by decide), slot_set_ne (show (6 : Nat) ≠ 1 by decide), slot_set_ne (show (6 : Nat) ≠ 2 by decide), slot_set_ne (show (6 : Nat) ≠ 3 by decide), slot_set_ne (show (6 : Nat) ≠ 4 by decide), slot_set_ne (show (6 : Nat) ≠ 5 by decide), slot_set_ne (show (6 : Nat) ≠ 7 by decide), slot_set_ne (show (6 : Nat) ≠ 8 by decide), slot_set_ne (show (6 : Nat) ≠ 9 by decide), slot_set_ne (show (6 : Nat) ≠ 10 by decide), slot_set_ne (show (6 : Nat) ≠ 11 by decide), slot_set_ne (show (6 : Nat) ≠ 12 by decide), slot_set_ne (show (6 : Nat) ≠ 13 by decide), slot_set_ne (show (6 : Nat) ≠ 14 by decide), slot_yes H5.out, and_self], HS.out⟩
              · have l6 : L.getD 6 false = true := hdep _ rfl ⟨6, .data⟩ (by simp) rfl
                have l4 : L.getD 4 false = true := hdep _ rfl ⟨4, .chain⟩ (by simp) rfl
                have hF : Fresh wr w := hS
                have HS := Lib.hid hS
                have HF := Lib.hid hF
                refine wpOpIn_list (o := _) rfl (fun K hK => ?_)
                dsimp only
                simp only [slot_yes l6, slot_yes l4]
                have HE := Lib.hid (show ∀ v u, slot (L.setIfInBounds 7 true) 7 v u = v from slot_set_eq (by omega))
                have H6 := Lib.hid l6
                have H4 := Lib.hid l4
                clear hLs hcl hun hdep hS hL15 hi15 hi l6 l4 hF
                gi_wp2_with fail
                have hcon := R33.out w HF.out
                refine ⟨trivial, (fun h => (by cases h)), (callsIn_wide.2 hcon).mono ?_⟩
                rintro e w2 ⟨rfl, hf2⟩
                gi_wp2_with fail
                exact ⟨by simp only [HE.out, slot_set_ne (show (7 : Nat) ≠ 0 by decide), slot_set_ne (show (7 : Nat) ≠ 1 by decide), slot_set_ne (show (7 : Nat) ≠ 2 by decide), slot_set_ne (show (7 : Nat) ≠ 3 by decide), slot_set_ne (show (7 : Nat) ≠ 4 by decide), slot_set_ne (show (7 : Nat) ≠ 5 by decide), slot_set_ne (show (7 : Nat) ≠ 6 by decide), slot_set_ne (show (7 : Nat) ≠ 8 by decide), slot_set_ne (show (7 : Nat) ≠ 9 by decide), slot_set_ne (show (7 : Nat) ≠ 10 by decide), slot_set_ne (show (7 : Nat) ≠ 11 by decide), slot_set_ne (show (7 : Nat) ≠ 12 by decide), slot_set_ne (show (7 : Nat) ≠ 13 by decide), slot_set_ne (show (7 : Nat) ≠ 14 by decide), slot_yes H6.out, slot_yes H4.out], HS.out.trans hf2⟩
              · have l4 : L.getD 4 false = true := hdep _ rfl ⟨4, .data⟩ (by simp) rfl
                have l7 : L.getD 7 false = true := hdep _ rfl ⟨7, .data⟩ (by simp) rfl
                have HS := Lib.hid hS
                refine wpOpIn_list (o := _) rfl (fun K hK => ?_)
                dsimp only
                simp only [slot_yes l4, slot_yes l7]
                have HE := Lib.hid (show ∀ v u, slot (L.setIfInBounds 8 true) 8 v u = v from slot_set_eq (by omega))
                have H4 := Lib.hid l4
                have H7 := Lib.hid l7
                clear hLs hcl hun hdep hS hL15 hi15 hi l4 l7
                gi_wp2_with fail
                exact ⟨by simp only [HE.out, slot_set_ne (show (8 : Nat) ≠ 0 by decide), slot_set_ne (show (8 : Nat) ≠ 1 by decide), slot_set_ne (show (8 : Nat) ≠ 2 by decide), slot_set_ne (show (8 : Nat) ≠ 3 by decide), slot_set_ne (show (8 : Nat) ≠ 4 by decide), slot_set_ne (show (8 : Nat) ≠ 5 by decide), slot_set_ne (show (8 : Nat) ≠ 6 by decide), slot_set_ne (show (8 : Nat) ≠ 7 by decide), slot_set_ne (show (8 : Nat) ≠ 9 by decide), slot_set_ne (show (8 : Nat) ≠ 10 by decide), slot_set_ne (show (8 : Nat) ≠ 11 by decide), slot_set_ne (show (8 : Nat) ≠ 12 by decide), slot_set_ne (show (8 : Nat) ≠ 13 by decide), slot_set_ne (show (8 : Nat) ≠ 14 by decide), slot_yes H4.out, slot_yes H7.out, and_self], HS.out⟩
              · have l8 : L.getD 8 false = true := hdep _ rfl ⟨8, .data⟩ (by simp) rfl
                have l7 : L.getD 7 false = true := hdep _ rfl ⟨7, .chain⟩ (by simp) rfl
                have HS := Lib.hid hS
                refine wpOpIn_list (o := _) rfl (fun K hK => ?_)
                dsimp only
                simp only [slot_yes l8, slot_yes l7]
                have HE := Lib.hid (show ∀ v u, slot (L.setIfInBounds 9 true) 9 v u = v from slot_set_eq (by omega))
                have H8 := Lib.hid l8
                have H7 := Lib.hid l7
                clear hLs hcl hun hdep hS hL15 hi15 hi l8 l7
                gi_wp2_with fail
                exact ⟨by simp only [HE.out, slot_set_ne (show (9 : Nat) ≠ 0 by decide), slot_set_ne (show (9 : Nat) ≠ 1 by decide), slot_set_ne (show (9 : Nat) ≠ 2 by decide), slot_set_ne (show (9 : Nat) ≠ 3 by decide), slot_set_ne (show (9 : Nat) ≠ 4 by decide), slot_set_ne (show (9 : Nat) ≠ 5 by decide), slot_set_ne (show (9 : Nat) ≠ 6 by decide), slot_set_ne (show (9 : Nat) ≠ 7 by decide), slot_set_ne (show (9 : Nat) ≠ 8 by decide), slot_set_ne (show (9 : Nat) ≠ 10 by decide), slot_set_ne (show (9 : Nat) ≠ 11 by decide), slot_set_ne (show (9 : Nat) ≠ 12 by decide), slot_set_ne (show (9 : Nat) ≠ 13 by decide), slot_set_ne (show (9 : Nat) ≠ 14 by decide), slot_yes H8.out, slot_yes H7.out, and_self], HS.out⟩
              · have l9 : L.getD 9 false = true := hdep _ rfl ⟨9, .guard⟩ (by simp) rfl
                have HS := Lib.hid hS
                refine wpOpIn_list (o := _) rfl (fun K hK => ?_)
                dsimp only
                simp only [slot_yes l9]
                have HE := Lib.hid (show ∀ v u, slot (L.setIfInBounds 10 true) 10 v u = v from slot_set_eq (by omega))
                have H9 := Lib.hid l9
                clear hLs hcl hun hdep hS hL15 hi15 hi l9
                gi_wp2_with fail
                exact ⟨by simp only [HE.out, slot_set_ne (show (10 : Nat) ≠ 0 by decide), slot_set_ne (show (10 : Nat) ≠ 1 by decide), slot_set_ne (show (10 : Nat) ≠ 2 by decide), slot_set_ne (show (10 : Nat) ≠ 3 by decide), slot_set_ne (show (10 : Nat) ≠ 4 by decide), slot_set_ne (show (10 : Nat) ≠ 5 by decide), slot_set_ne (show (10 : Nat) ≠ 6 by decide), slot_set_ne (show (10 : Nat) ≠ 7 by decide), slot_set_ne (show (10 : Nat) ≠ 8 by decide), slot_set_ne (show (10 : Nat) ≠ 9 by decide), slot_set_ne (show (10 : Nat) ≠ 11 by decide), slot_set_ne (show (10 : Nat) ≠ 12 by decide), slot_set_ne (show (10 : Nat) ≠ 13 by decide), slot_set_ne (show (10 : Nat) ≠ 14 by decide), slot_yes H9.out, and_self], HS.out⟩
              · have l9 : L.getD 9 false = true := hdep _ rfl ⟨9, .guard⟩ (by simp) rfl
                have HS := Lib.hid hS
                refine wpOpIn_list (o := _) rfl (fun K hK => ?_)
                dsimp only
                simp only [slot_yes l9]
                have HE := Lib.hid (show ∀ v u, slot (L.setIfInBounds 11 true) 11 v u = v from slot_set_eq (by omega))
                have H9 := Lib.hid l9
                clear hLs hcl hun hdep hS hL15 hi15 hi l9
                gi_wp2_with fail
                exact ⟨by simp only [HE.out, slot_set_ne (show (11 : Nat) ≠ 0 by decide), slot_set_ne (show (11 : Nat) ≠ 1 by decide), slot_set_ne (show (11 : Nat) ≠ 2 by decide), slot_set_ne (show (11 : Nat) ≠ 3 by decide), slot_set_ne (show (11 : Nat) ≠ 4 by decide), slot_set_ne (show (11 : Nat) ≠ 5 by decide), slot_set_ne (show (11 : Nat) ≠ 6 by decide), slot_set_ne (show (11 : Nat) ≠ 7 by decide), slot_set_ne (show (11 : Nat) ≠ 8 by decide), slot_set_ne (show (11 : Nat) ≠ 9 by decide), slot_set_ne (show (11 : Nat) ≠ 10 by decide), slot_set_ne (show (11 : Nat) ≠ 12 by decide), slot_set_ne (show (11 : Nat) ≠ 13 by decide), slot_set_ne (show (11 : Nat) ≠ 14 by decide), slot_yes H9.out, and_self], HS.out⟩
              · have l10 : L.getD 10 false = true := hdep _ rfl ⟨10, .data⟩ (by simp) rfl
                have l11 : L.getD 11 false = true := hdep _ rfl ⟨11, .data⟩ (by simp) rfl
                have l9 : L.getD 9 false = true := hdep _ rfl ⟨9, .chain⟩ (by simp) rfl
                have HS := Lib.hid hS
                refine wpOpIn_list (o := _) rfl (fun K hK => ?_)
                dsimp only
                simp only [slot_yes l10, slot_yes l11, slot_yes l9]
                have HE := Lib.hid (show ∀ v u, slot (L.setIfInBounds 12 true) 12 v u = v from slot_set_eq (by omega))
                have H10 := Lib.hid l10
                have H11 := Lib.hid l11
                have H9 := Lib.hid l9
                clear hLs hcl hun hdep hS hL15 hi15 hi l10 l11 l9
                gi_wp2_with fail
                refine ⟨(fun _ _ => trivial), ?_⟩
                gi_wp2_with fail
                exact ⟨by simp only [HE.out, slot_set_ne (show (12 : Nat) ≠ 0 by decide), slot_set_ne (show (12 : Nat) ≠ 1 by decide), slot_set_ne (show (12 : Nat) ≠ 2 by decide), slot_set_ne (show (12 : Nat) ≠ 3 by decide), slot_set_ne (show (12 : Nat) ≠ 4 by decide), slot_set_ne (show (12 : Nat) ≠ 5 by decide), slot_set_ne (show (12 : Nat) ≠ 6 by decide), slot_set_ne (show (12 : Nat) ≠ 7 by decide), slot_set_ne (show (12 : Nat) ≠ 8 by decide), slot_set_ne (show (12 : Nat) ≠ 9 by decide), slot_set_ne (show (12 : Nat) ≠ 10 by decide), slot_set_ne (show (12 : Nat) ≠ 11 by decide), slot_set_ne (show (12 : Nat) ≠ 13 by decide), slot_set_ne (show (12 : Nat) ≠ 14 by decide), slot_yes H10.out, slot_yes H11.out, slot_yes H9.out], HS.out⟩
              · have l12 : L.getD 12 false = true := hdep _ rfl ⟨12, .data⟩ (by simp) rfl
                have l9 : L.getD 9 false = true := hdep _ rfl ⟨9, .guard⟩ (by simp) rfl
                have HS := Lib.hid hS
                refine wpOpIn_list (o := _) rfl (fun K hK => ?_)
                dsimp only
                simp only [slot_yes l12, slot_yes l9]
                have HE := Lib.hid (show ∀ v u, slot (L.setIfInBounds 13 true) 13 v u = v from slot_set_eq (by omega))
                have H12 := Lib.hid l12
                have H9 := Lib.hid l9
                clear hLs hcl hun hdep hS hL15 hi15 hi l12 l9
                gi_wp2_with fail
                exact ⟨by simp only [HE.out, slot_set_ne (show (13 : Nat) ≠ 0 by decide), slot_set_ne (show (13 : Nat) ≠ 1 by decide), slot_set_ne (show (13 : Nat) ≠ 2 by decide), slot_set_ne (show (13 : Nat) ≠ 3 by decide), slot_set_ne (show (13 : Nat) ≠ 4 by decide), slot_set_ne (show (13 : Nat) ≠ 5 by decide), slot_set_ne (show (13 : Nat) ≠ 6 by decide), slot_set_ne (show (13 : Nat) ≠ 7 by decide), slot_set_ne (show (13 : Nat) ≠ 8 by decide), slot_set_ne (show (13 : Nat) ≠ 9 by decide), slot_set_ne (show (13 : Nat) ≠ 10 by decide), slot_set_ne (show (13 : Nat) ≠ 11 by decide), slot_set_ne (show (13 : Nat) ≠ 12 by decide), slot_set_ne (show (13 : Nat) ≠ 14 by decide), slot_yes H12.out, slot_yes H9.out, and_self], HS.out⟩
              · have l9 : L.getD 9 false = true := hdep _ rfl ⟨9, .data⟩ (by simp) rfl
                have l13 : L.getD 13 false = true := hdep _ rfl ⟨13, .data⟩ (by simp) rfl
                have HS := Lib.hid hS
                refine wpOpIn_list (o := _) rfl (fun K hK => ?_)
                dsimp only
                simp only [slot_yes l9, slot_yes l13]
                have HE := Lib.hid (show ∀ v u, slot (L.setIfInBounds 14 true) 14 v u = v from slot_set_eq (by omega))
                have H9 := Lib.hid l9
                have H13 := Lib.hid l13
                clear hLs hcl hun hdep hS hL15 hi15 hi l9 l13
                gi_wp2_with fail
                exact ⟨by simp only [HE.out, slot_set_ne (show (14 : Nat) ≠ 0 by decide), slot_set_ne (show (14 : Nat) ≠ 1 by decide), slot_set_ne (show (14 : Nat) ≠ 2 by decide), slot_set_ne (show (14 : Nat) ≠ 3 by decide), slot_set_ne (show (14 : Nat) ≠ 4 by decide), slot_set_ne (show (14 : Nat) ≠ 5 by decide), slot_set_ne (show (14 : Nat) ≠ 6 by decide), slot_set_ne (show (14 : Nat) ≠ 7 by decide), slot_set_ne (show (14 : Nat) ≠ 8 by decide), slot_set_ne (show (14 : Nat) ≠ 9 by decide), slot_set_ne (show (14 : Nat) ≠ 10 by decide), slot_set_ne (show (14 : Nat) ≠ 11 by decide), slot_set_ne (show (14 : Nat) ≠ 12 by decide), slot_set_ne (show (14 : Nat) ≠ 13 by decide), slot_yes H9.out, slot_yes H13.out, and_self], HS.out⟩
            case fin =>
              intro w2 hF2
              have HF2 := Lib.hid hF2
              clear hF2
              dsimp only
              simp only [List.size_toArray, List.length_cons, List.length_nil, Nat.reduceAdd, slot_all (show 0 < 15 by decide), slot_all (show 1 < 15 by decide), slot_all (show 2 < 15 by decide), slot_all (show 3 < 15 by decide), slot_all (show 4 < 15 by decide), slot_all (show 5 < 15 by decide), slot_all (show 6 < 15 by decide), slot_all (show 7 < 15 by decide), slot_all (show 8 < 15 by decide), slot_all (show 9 < 15 by decide), slot_all (show 10 < 15 by decide), slot_all (show 11 < 15 by decide), slot_all (show 12 < 15 by decide), slot_all (show 13 < 15 by decide), slot_all (show 14 < 15 by decide)]
              gi_wp2_with fail
              refine bodyPost_ret (results_none rfl _ _ _) rfl ?_
              exact ⟨⟨_, rfl⟩, by rw [HT.out.stop HS1.out]; exact HJ.out _ _ _ HJ1.out HF2.out.frm⟩
    · have d8 : decide ((8 : Int) ≤ (d.length : Int)) = false := by simp; omega
      gi_wp2_with fail
      go_end0
      exact ⟨⟨_, rfl⟩, by rw [HT.out.stop (by unfold scan1; exact if_neg (fun h => by have := h.1; rw [← HD.out] at this; omega))]; exact HJ1.out⟩
end Go.Proofs.Ytlceembcehokoaa.Rc

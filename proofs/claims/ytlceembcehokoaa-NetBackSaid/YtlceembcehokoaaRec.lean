/- What slices.Grow, slices.Concat, the words of four bytes compute. -/
import Derived.Test.YtlceembcehokoaaCrcSum
import Derived.Test.YtlceembcehokoaaBss
import Derived.Lib.AppendZerosOnto
import Derived.Lib.Hide
namespace Go.Proofs.Ytlceembcehokoaa.Rc
set_option maxRecDepth 100000
open Go.RowKit

theorem info_u8 : (Try.prog.info? 5).map (fun i => (i.zero, i.size, i.bytes)) = some (some (.int .u8 0), 1, 1) := by kernel_rfl
theorem bv_eq {x : Int} {b : UInt8} (h : x = (b.toNat : Int)) : Value.int .u8 x = bv b := by rw [h]; rfl
theorem wpList_append_zeros {P : Program} {w : World} {ops : Array Oper} {rest : List Oper} {o : Oper} {a : Act} {Q : Exit → Act → World → Prop} (hgd : o.guard = none) (s x : Operand) (t tn : TypeId)
    (ho : o.op = .call { callee := .builtin .append, args := #[s, x], argTypes := #[t, tn] })
    (v x' r : Value) (w' : World) (hs : a.eval s = v) (hx : a.eval x = x') (hrun : (Builtin.append_ #[t, tn] o.type #[v, x']).run P w = .ok r w')
    (h : wpList P ops Q rest (a.put o.dst r) w') : wpList P ops Q (o :: rest) a w := by
  refine wpList_plain hgd fun K hK => ?_
  unfold Oper.wp execOp
  simp only [ho, resolve, invoke, builtin, Sem.run_bind, Sem.run_pure, Result.andThen_ok, List.map_toArray, List.map_cons, List.map_nil, hs, hx, hrun]
  exact hK _ _ h
theorem grown_zeros (w : World) (ty : TypeId) (n : Nat) (h0 : 0 < n) (hn : n ≤ 140737488355328) :
    ∃ cap w', (Builtin.append_ #[26, 3] ty #[.slice none 0 0, .int .i64 (n : Int)]).run Try.prog w = .ok (.slice (some ⟨w.heap.size, 0, none⟩) n cap) w' ∧ n ≤ cap ∧ cap ≤ maxLen ∧
      Sl w' w.heap.size 5 1 (.slice (some ⟨w.heap.size, 0, none⟩) 0 cap) 0 [] ∧ Fresh w w' := by
  obtain ⟨i0, hi, hz0, hz1, hz2⟩ := info_parts info_u8
  have h := Lib.run_append_grow_zeros (P := Try.prog) w 26 3 ty 5 i0 _ .i64 .i64 Try.underlying26 Try.underlying3 hi hz0 none 0 0 [] (run_firstCells_none w.drew i0.size 0 0 0) n h0 (by omega) (by omega) (by omega) (by rw [hz2]; omega) (growslice_fits (by omega) (by rw [hz2]; omega))
  simp only [Nat.zero_add] at h
  have hge := grownCap_ge w n 0 5
  have hmx := grownCap_le_maxLen w n 0 5 (by unfold maxLen; omega)
  refine ⟨_, _, h, hge, hmx, ⟨rfl, .inr ⟨w.heap.size, 0, _, _, rfl, Nat.le_refl _, Blk.new w.drew _ _, Nat.zero_le _, hmx, ?_, fun j u hu => by simp at hu⟩⟩, ((Frm.refl _ w).drew).alloc _⟩
  simp [size_zeroCells, Value.cells]; omega
theorem grow_any (n : Nat) (hn : n ≤ 140737488355328) (w : World) :
    Calls Try.prog 108 #[.slice none 0 0, .int .i64 (n : Int)] w fun e w' => ∃ v, e = .returned v ∧ Sl w' w.heap.size 5 1 v 0 [] ∧ Fresh w w' := by
  rcases Nat.eq_zero_or_pos n with rfl | h0
  · go_enter Try.func108, Try.ntmps108
    go_wp2_with fail
    go_ret
    exact ⟨_, rfl, Sl.nil _ _ _ _, Frm.refl _ _⟩
  · obtain ⟨cap, w', hrun, h1, h2, hs, hf⟩ := grown_zeros w 26 n h0 hn
    have HS := Lib.hid hs
    have HF := Lib.hid hf
    have HR := Lib.hid hrun
    have hg : decide (0 < (n : Int)) = true := by simp; omega
    have hn0 : (0 : Int) ≤ (n : Int) := by omega
    unfold maxLen at h2
    clear hs hf hrun
    go_enter Try.func108, Try.ntmps108
    go_wp2_with (first
      | (at_builtin; refine wpList_append_zeros rfl (.tmp 20) (.tmp 21) 26 3 rfl _ _ _ _ rfl rfl HR.out ?_))
    go_ret
    exact ⟨_, rfl, HS.out, HF.out⟩

/-! ### Concat -/
def joined (l : List Bs) : List UInt8 := l.flatMap fun b => b.2.2
theorem joined_snoc (l : List Bs) (b : Bs) : joined (l ++ [b]) = joined l ++ b.2.2 := by simp [joined]
theorem joined_take {l : List Bs} {k : Nat} (h : k < l.length) : joined (l.take (k + 1)) = joined (l.take k) ++ l[k].2.2 := by
  rw [List.take_succ_eq_append_getElem h, joined_snoc]
theorem joined_le (l : List Bs) (k : Nat) : (joined (l.take k)).length ≤ (joined l).length := by
  have : joined l = joined (l.take k) ++ joined (l.drop k) := by unfold joined; rw [← List.flatMap_append, List.take_append_drop]
  rw [this, List.length_append]; omega
/-- a slice of byte slices that can be read -/
structure RdB (w : World) (A : Option Addr) (l : List Bs) : Prop where
  rd : Rd w w.heap.size A (l.map bsv)
  all : ∀ b ∈ l, Rd w w.heap.size b.1 (b.2.2.map bv)
theorem RdB.keep {w w' : World} {A : Option Addr} {l : List Bs} (h : RdB w A l) (F : Fresh w w') : RdB w' A l :=
  ⟨(h.rd.fresh (Nat.le_refl _) F).more F.size, fun b hb => ((h.all b hb).fresh (Nat.le_refl _) F).more F.size⟩
theorem RdB.at_ {w : World} {A : Option Addr} {l : List Bs} (h : RdB w A l) {k : Nat} (hk : k < l.length) :
    ∃ b o, A = some ⟨b, o, none⟩ ∧ b < w.heap.size ∧ w.cell? ⟨b, o + k, none⟩ = some (bsv l[k]) ∧ Rd w w.heap.size l[k].1 (l[k].2.2.map bv) := by
  obtain ⟨b, o, hA, hb, hc⟩ := h.rd.at_ (k := k) (by simpa using hk)
  rw [List.getElem_map] at hc
  exact ⟨b, o, hA, hb, hc, h.all _ (List.getElem_mem hk)⟩
set_option maxRecDepth 100000 in
set_option maxHeartbeats 1000000 in
theorem concat_any (A : Option Addr) (cap : Nat) (l : List Bs) (w : World) (hb : RdB w A l) (hl : (joined l).length ≤ 140737488355328) (hl2 : l.length ≤ 1000000) :
    Calls Try.prog 80 #[.slice A l.length cap] w fun e w' => ∃ v, e = .returned v ∧ Sl w' w.heap.size 5 1 v (joined l).length ((joined l).map bv) ∧ Fresh w w' := by
  have HB := Lib.hid hb
  clear hb
  obtain ⟨i0, hi, hz0, hz1, hz2⟩ := info_parts info_u8
  go_enter Try.func80, Try.ntmps80
  go_wp2_with fail
  go_loopw [3, 11] (fun v3 v11 wr => ∃ k : Nat, k ≤ l.length ∧ v3 = .int .i64 ((joined (l.take k)).length : Int) ∧ v11 = .int .i64 (k : Int) ∧ w = wr) (fun _ v11 _ => l.length - (intOf v11).toNat)
  case atStart => exact ⟨0, by omega, rfl, rfl, rfl⟩
  case round =>
    obtain ⟨k, hk, rfl, rfl, rfl⟩ := hrel
    by_cases hkl : k < l.length
    · obtain ⟨b, o, rfl, hbw, hc, hib⟩ := HB.out.at_ hkl
      have hj := joined_take hkl
      have hjl := joined_le l (k + 1)
      generalize l[k] = x at hc hj hib
      unfold bsv at hc
      rw [hj, List.length_append] at hjl
      have HJ := Lib.hid hj
      clear hj hib
      have hk0 : (0 : Int) ≤ k := by omega
      have hk2 : (k : Int) < l.length := by omega
      have hn0 : ¬ (((joined (l.take k)).length : Int) + (x.2.2.length : Int) < 0) := by omega
      go_wp2_with fail
      go_roundw
      case rel => exact ⟨k + 1, by omega, by rw [HJ.out, List.length_append]; go_num, by go_num, trivial⟩
      case measure => simp [intOf]; omega
    · obtain rfl : k = l.length := by omega
      have HT := Lib.hid (show joined (l.take l.length) = joined l by rw [List.take_length])
      rw [HT.out]
      go_wp2_with fail
      refine (grow_any _ hl w).mono ?_
      rintro e w1 ⟨v, rfl, hs, hf⟩
      have HS := Lib.hid hs
      have HF := Lib.hid hf
      clear hs hf
      go_wp2_with fail
      go_loopw [6, 27] (fun v6 v27 wr => ∃ k : Nat, k ≤ l.length ∧ v27 = .int .i64 (k : Int) ∧ Sl wr w.heap.size 5 1 v6 (joined (l.take k)).length ((joined (l.take k)).map bv) ∧ Fresh w wr) (fun _ v27 _ => l.length - (intOf v27).toNat)
      case atStart => exact ⟨0, by omega, rfl, by simpa [joined] using HS.out, HF.out⟩
      case round =>
        obtain ⟨k, hk, rfl, hs2, hf2⟩ := hrel
        have HS2 := Lib.hid hs2
        have HF2 := Lib.hid hf2
        have hsz := hf2.size
        obtain ⟨A6, c6, rfl, hc61, hc62, _⟩ := hs2.shape
        unfold maxLen at hc62
        clear hs2 hf2
        by_cases hkl : k < l.length
        · obtain ⟨b, o, rfl, hbw, hc, hib⟩ := (HB.out.keep HF2.out).at_ hkl
          have hj := joined_take hkl
          have hjl := joined_le l (k + 1)
          generalize l[k] = x at hc hj hib
          unfold bsv at hc
          rw [hj, List.length_append] at hjl
          have HJ := Lib.hid hj
          have HX := Lib.hid hib
          clear hj hib
          have hk0 : (0 : Int) ≤ k := by omega
          have hk2 : (k : Int) < l.length := by omega
          go_wp2_with (first
            | (at_builtin; refine wpList_append_sl _ rfl (.tmp 31) (.tmp 32) _ rfl w.heap.size 5 i0 _ 1 1 Try.underlying26 hi hz0 hz1 hz2 rfl (by omega) _ _ _ rfl HS2.out _ _ _ _ _ rfl (by simp) HX.out (bv_one _) (by unfold maxLen; omega) (by omega) hsz ?_; intro v4 w4 hs4 hf4 ha4; have HS4 := Lib.hid hs4; have HF4 : Hid (Fresh w w4) := Lib.hid (HF2.out.trans' hf4 (fun i hi hk => by have := (HS2.out.lt _ hk).1; omega)); clear hs4 hf4 ha4))
          go_roundw
          case rel => exact ⟨k + 1, by omega, by go_num, by rw [HJ.out, List.map_append, List.length_append]; exact HS4.out, HF4.out⟩
          case measure => simp [intOf]; omega
        · obtain rfl : k = l.length := by omega
          rw [HT.out] at HS2
          rw [HT.out]
          go_wp2_with fail
          go_ret
          exact ⟨_, rfl, HS2.out, HF2.out⟩
end Go.Proofs.Ytlceembcehokoaa.Rc

/- What the small functions of net and the closures of its Encode compute. -/
import Derived.Test.YtlceembcehokoaaTextP
import Derived.Test.YtlceembcehokoaaIntP
import Derived.Test.YtlceembcehokoaaSlots
import Derived.Deep.RegionWith
import Derived.Deep.RegionLaw
import Derived.Deep.RegionHeld3
namespace Go.Proofs.Ytlceembcehokoaa
open Go.RowKit
set_option maxRecDepth 100000

theorem step_append_sl {P : Program} {w : World} {ops : Array Oper} {o : Oper} {a : Act} {K : Act → World → Prop} {Q : Exit → Act → World → Prop} {E : Prop} (hgd : o.guard = none) (s x : Operand) (t : TypeId)
    (ho : o.op = .call { callee := .builtin .append, args := #[s, x], argTypes := #[t, t] })
    (B : Nat) (e : TypeId) (i : TypeInfo) (z : Value) (size bytes : Nat) (ht : P.underlying t = some (.slice e)) (hi : P.info? e = some i) (hz : i.zero = some z)
    (hsize : i.size = size) (hby : i.bytes = bytes) (hzs : z.cells.size = size) (hsz : 0 < size)
    (v : Value) (n : Nat) (xs : List Value) (hs : a.eval s = v) (hown : Sl w B e size v n xs)
    (B' : Nat) (A : Option Addr) (m c : Nat) (news : List Value) (hx : a.eval x = .slice A m c) (hl : news.length = m * size) (hr : Rd w B' A news) (h1 : ∀ u ∈ news, u.oneCell' = true)
    (h63 : n + m ≤ maxLen) (hbytes : (n + m) * bytes ≤ 140737488355328) (hB : B ≤ w.heap.size)
    (h : ∀ v' w', Sl w' B e size v' (n + m) (xs ++ news) → Frm (fun k => v.ownBlock = some k) w w' → (v'.ownBlock = v.ownBlock ∨ v'.ownBlock = some w.heap.size) → K (a.put o.dst v') w') :
    if Region.wanted o (yielded ops a.tmps) = true then Oper.wp P o a w K Q else E := by
  have hw : Region.wanted o (yielded ops a.tmps) = true := by simp [Region.wanted, hgd]
  rw [if_pos hw]
  obtain ⟨v', w', hrun, h2, h3, h4⟩ := run_append_sl (P := P) w B t o.type e i z size bytes ht hi hz hsize hby hzs hsz v n xs hown B' A m c news hl hr h1 h63 hbytes hB
  unfold Oper.wp execOp
  simp only [ho, resolve, invoke, builtin, Sem.run_bind, Sem.run_pure, Result.andThen_ok, List.map_toArray, List.map_cons, List.map_nil, hs, hx, hrun]
  exact h v' w' h2 h3 h4
/-! ### Of which numbers -/
theorem within_any (n lo hi : Int) (w : World) : Calls Try.prog 73 #[.int .i64 n, .int .i64 lo, .int .i64 hi] w fun e w' => e = .returned (.bool (decide (lo ≤ n) && decide (n ≤ hi))) ∧ w' = w := by
  go_enter Try.func73, Try.ntmps73
  by_cases h1 : lo ≤ n
  · by_cases h2 : n ≤ hi
    · go_wp2_with fail
      go_ret
      exact ⟨by simp [h1, h2], rfl⟩
    · go_wp2_with fail
      go_ret
      exact ⟨by simp [h2], rfl⟩
  · go_wp2_with fail
    go_ret
    exact ⟨by rw [show decide (lo ≤ n) = false by simpa using h1]; rfl, rfl⟩
theorem node_any (n : Int) (w : World) : Calls Try.prog 67 #[.int .i64 n] w fun e w' => e = .returned (.bool (decide (1 ≤ n) && decide (n ≤ 15))) ∧ w' = w := by
  have HW := Lib.hid (within_any n 1 15 w)
  generalize (decide (1 ≤ n) && decide (n ≤ 15)) = r at HW ⊢
  go_enter Try.func67, Try.ntmps67
  go_wp2_with fail
  refine HW.out.mono ?_
  rintro e w1 ⟨rfl, rfl⟩
  go_wp2_with fail
  go_ret
  exact ⟨rfl, rfl⟩
/-! ### A buffer in a box -/
def Keep (w w' : World) : Prop := ∀ g t cs, t ≠ 5 → t ≠ 26 → Blk w g t cs → Blk w' g t cs
theorem Keep.refl (w : World) : Keep w w := fun _ _ _ _ _ h => h
theorem Keep.trans {a b c : World} (h : Keep a b) (k : Keep b c) : Keep a c := fun g t cs h1 h2 h3 => k g t cs h1 h2 (h g t cs h1 h2 h3)
theorem Keep.fresh {a b : World} (F : Fresh a b) : Keep a b := fun _ _ _ _ _ h => h.frm F (fun f => f)
def Buf (w : World) (p : Nat) (bs : List UInt8) : Prop := ∃ v, Blk w p 26 #[v] ∧ Sl w p 5 1 v bs.length (bs.map bv)
theorem Buf.fresh {w w' : World} {p : Nat} {bs : List UInt8} (h : Buf w p bs) (F : Fresh w w') : Buf w' p bs := by
  obtain ⟨v, h1, h2⟩ := h
  exact ⟨v, h1.frm F (fun f => f), h2.fresh F⟩
/-- a call has written the buffer -/
structure Wrote (w : World) (p : Nat) (bs : List UInt8) (w' : World) : Prop where
  buf : Buf w' p bs
  frm : Frm (fun k => p ≤ k) w w'
  keep : Keep w w'
theorem Wrote.trans {a b c : World} {p : Nat} {bs cs : List UInt8} (h : Wrote a p bs b) (k : Wrote b p cs c) : Wrote a p cs c := ⟨k.buf, h.frm.trans k.frm, h.keep.trans k.keep⟩
theorem Wrote.start {w w' : World} {p : Nat} {bs : List UInt8} (h : Buf w p bs) (F : Fresh w w') : Wrote w p bs w' := ⟨h.fresh F, F.frm, Keep.fresh F⟩
theorem buf_put {w w1 w5 : World} {p : Nat} {v v' : Value} {xs ys : List UInt8} (hb : Blk w p 26 #[v]) (hs : Sl w p 5 1 v xs.length (xs.map bv)) (F : Fresh w w1)
    (hf : Frm (fun k => v.ownBlock = some k) w1 w5) (hs5 : Sl w5 p 5 1 v' (xs.length + ys.length) (xs.map bv ++ ys.map bv)) : Wrote w p (xs ++ ys) (w5.setCell ⟨p, 0, none⟩ v') := by
  have hb1 : Blk w1 p 26 #[v] := hb.frm F (fun f => f)
  have hs1 := hs.fresh F
  have hb5 : Blk w5 p 26 #[v] := hb1.frm hf (fun e => hs1.apart hb1 (by decide) e)
  have hb6 := hb5.set 0 v'
  refine ⟨⟨v', by simpa using hb6, ?_⟩, ?_, ?_⟩
  · rw [List.length_append, List.map_append]
    exact hs5.frm ((Frm.refl (fun k => k = p) w5).setCell (p := ⟨p, 0, none⟩) (fun _ => rfl) v') (fun k hk e => by subst e; exact hs5.apart hb5 (by decide) hk)
  · have h1 : Frm (fun k => p ≤ k) w w1 := F.frm
    have h2 : Frm (fun k => p ≤ k) w w5 := h1.trans' hf (fun k _ e => (hs1.lt k e).1)
    exact Frm.setCell h2 (p := ⟨p, 0, none⟩) (fun _ => Nat.le_refl p) v'
  · intro g t cs n1 n2 hg
    have hg1 : Blk w1 g t cs := hg.frm F (fun f => f)
    have hg5 : Blk w5 g t cs := hg1.frm hf (fun e => hs1.apart hg1 (Ne.symm n1) e)
    exact hg5.far (hg.apart hb n2) v'
theorem int_le {x : Int} (h1 : -9223372036854775808 ≤ x) (h2 : x ≤ 9223372036854775807) : (FieldM.int x).length ≤ 9 := by
  rw [FieldM.int_length]
  have := FieldM.wid_le (n := x.natAbs) (by omega)
  omega
def WPost (w : World) (p : Nat) (bs : List UInt8) (e : Ending) (w' : World) : Prop := e = .returned (.tuple #[]) ∧ Wrote w p bs w'
theorem signedC_any (w : World) (p : Nat) (bs : List UInt8) (x : Int) (h1 : -9223372036854775808 ≤ x) (h2 : x ≤ 9223372036854775807) (h : Buf w p bs) (hl : bs.length ≤ 1000000000000) :
    Calls Try.prog 38 #[.int .i64 x, .pointer (some ⟨p, 0, none⟩)] w fun e w' => WPost w p (bs ++ FieldM.int x) e w' := by
  obtain ⟨i0, hi, hz0, hz1, hz2⟩ := info_parts info_u8
  obtain ⟨v, hb, hs⟩ := h
  have HB := Lib.hid hb
  have HS := Lib.hid hs
  have HN := Lib.hid (int_any x h1 h2)
  have hil : (FieldM.int x).length ≤ 9 := int_le h1 h2
  have hpw := hb.lt
  have c0 : w.drew.cell? ⟨p, 0, none⟩ = some v := hb.cell 0
  obtain ⟨A0, cap0, rfl, _⟩ := hs.shape
  generalize hcs : FieldM.int x = cs at HN hil
  clear hcs hb hs
  go_enter Try.func38, Try.ntmps38
  go_wp2_with fail
  go_region_law
    ((first
      | (refine step_append_sl (by rfl) (.tmp 3) (.tmp 5) 26 (by rfl) p 5 i0 _ 1 1 Try.underlying26 hi hz0 hz1 hz2 rfl (by omega) (.slice A0 bs.length cap0) bs.length (bs.map bv) (by rfl) HSA.out _ A3 cs.length c3 (cs.map bv) (by rfl) (by rw [List.length_map, Nat.mul_one]) HS3.out.rd (bv_one _) (by unfold maxLen; omega) (by omega) (by have := HF3.out.size; omega) ?_; intro v5 w5 hs5 hf5 _; have HW := Lib.hid (buf_put HB.out HS.out HF3.out hf5 hs5); have hb5 : Blk w5 p 26 #[.slice A0 bs.length cap0] := (HB.out.frm HF3.out (fun f => f)).frm hf5 (fun e => HSA.out.apart (HB.out.frm HF3.out (fun f => f)) (by decide) e); have c5 : w5.cell? ⟨p, 0, none⟩ = some (.slice A0 bs.length cap0) := hb5.cell 0; have z5 := hb5.frozen 0; obtain ⟨A5, cp5, rfl, _⟩ := hs5.shape; clear hs5 hf5 hb5)
      | (go_simp; go_at_call 39; refine (HN.out _).mono ?_; rintro e w3 ⟨v3, rfl, hs3, f3⟩; obtain ⟨A3, c3, rfl, _⟩ := hs3.shape; have HS3 := Lib.hid hs3; have HF3 := Lib.hid (((Frm.refl _ w).drew).trans f3); clear hs3 f3; have c1 : w3.cell? ⟨p, 0, none⟩ = some (.slice A0 bs.length cap0) := (HB.out.frm HF3.out (fun f => f)).cell 0; have HSA := Lib.hid (HS.out.fresh HF3.out))))
  all_goals
    go_wp2_with fail
    refine bodyPost_ret (v := .tuple #[]) (by simp [results, Try.results38, go_sem]) rfl ⟨rfl, ?_⟩
    exact HW.out
theorem textC_any (w : World) (p : Nat) (bs : List UInt8) (A : Option Addr) (cap : Nat) (ts : List UInt8) (ht : Rd w w.heap.size A (ts.map bv)) (htl : ts.length ≤ 1000000000000) (h : Buf w p bs) (hl : bs.length ≤ 1000000000000) :
    Calls Try.prog 40 #[.slice A ts.length cap, .pointer (some ⟨p, 0, none⟩)] w fun e w' => WPost w p (bs ++ FieldM.text ts) e w' := by
  obtain ⟨i0, hi, hz0, hz1, hz2⟩ := info_parts info_u8
  obtain ⟨v, hb, hs⟩ := h
  have HB := Lib.hid hb
  have HS := Lib.hid hs
  have HN : Hid (∀ w', Fresh w w' → _) := Lib.hid (fun w' (F : Fresh w w') => text_any A cap ts w' ((ht.fresh (Nat.le_refl _) F).more F.size) (by omega))
  have hil : (FieldM.text ts).length ≤ 10 + ts.length := by
    rw [FieldM.text_length]
    have := FieldM.wid_le (n := ts.length) (by omega)
    omega
  have hpw := hb.lt
  have c0 : w.drew.cell? ⟨p, 0, none⟩ = some v := hb.cell 0
  obtain ⟨A0, cap0, rfl, _⟩ := hs.shape
  generalize hcs : FieldM.text ts = cs at HN hil
  clear hcs hb hs ht
  go_enter Try.func40, Try.ntmps40
  go_wp2_with fail
  go_region_law
    ((first
      | (refine step_append_sl (by rfl) (.tmp 3) (.tmp 5) 26 (by rfl) p 5 i0 _ 1 1 Try.underlying26 hi hz0 hz1 hz2 rfl (by omega) (.slice A0 bs.length cap0) bs.length (bs.map bv) (by rfl) HSA.out _ A3 cs.length c3 (cs.map bv) (by rfl) (by rw [List.length_map, Nat.mul_one]) HS3.out.rd (bv_one _) (by unfold maxLen; omega) (by omega) (by have := HF3.out.size; omega) ?_; intro v5 w5 hs5 hf5 _; have HW := Lib.hid (buf_put HB.out HS.out HF3.out hf5 hs5); have hb5 : Blk w5 p 26 #[.slice A0 bs.length cap0] := (HB.out.frm HF3.out (fun f => f)).frm hf5 (fun e => HSA.out.apart (HB.out.frm HF3.out (fun f => f)) (by decide) e); have c5 : w5.cell? ⟨p, 0, none⟩ = some (.slice A0 bs.length cap0) := hb5.cell 0; have z5 := hb5.frozen 0; obtain ⟨A5, cp5, rfl, _⟩ := hs5.shape; clear hs5 hf5 hb5)
      | (go_simp; go_at_call 41; refine (HN.out _ ((Frm.refl _ w).drew)).mono ?_; rintro e w3 ⟨v3, rfl, hs3, f3⟩; obtain ⟨A3, c3, rfl, _⟩ := hs3.shape; have HS3 := Lib.hid hs3; have HF3 := Lib.hid (((Frm.refl _ w).drew).trans f3); clear hs3 f3; have c1 : w3.cell? ⟨p, 0, none⟩ = some (.slice A0 bs.length cap0) := (HB.out.frm HF3.out (fun f => f)).cell 0; have HSA := Lib.hid (HS.out.fresh HF3.out))))
  all_goals
    go_wp2_with fail
    refine bodyPost_ret (v := .tuple #[]) (by simp [results, Try.results40, go_sem]) rfl ⟨rfl, ?_⟩
    exact HW.out
theorem nums_le : ∀ (ns : List Nat), (∀ n ∈ ns, n < 18446744073709551616) → (ns.flatMap FieldM.num).length ≤ 9 * ns.length
  | [], _ => by simp
  | n :: ns, h => by
    have h1 : (FieldM.num n).length ≤ 9 := by
      rw [FieldM.num_length]
      have := FieldM.wid_le (n := n) (h n (by simp))
      omega
    have h2 := nums_le ns (fun m hm => h m (by simp [hm]))
    rw [List.flatMap_cons, List.length_append, List.length_cons]
    omega
theorem take_nums (ns : List Nat) {j : Nat} (hj : j < ns.length) : (ns.take (j + 1)).flatMap FieldM.num = (ns.take j).flatMap FieldM.num ++ FieldM.num ns[j] := by
  rw [List.take_succ_eq_append_getElem hj, List.flatMap_append]
  simp
set_option maxHeartbeats 2000000 in
theorem numbersC_any (w : World) (p g c : Nat) (bs : List UInt8) (ns : List Nat) (hns : ∀ n ∈ ns, n ≤ 1099511627776) (hnl : ns.length ≤ 100) (hg : Blk w g 3 (ns.map fun n : Nat => Value.int .i64 (n : Int)).toArray) (h : Buf w p bs) (hl : bs.length ≤ 1000000000000) :
    Calls Try.prog 36 #[.slice (some ⟨g, 0, none⟩) ns.length c, .pointer (some ⟨p, 0, none⟩)] w fun e w' => WPost w p (bs ++ ns.flatMap FieldM.num) e w' := by
  obtain ⟨i0, hi, hz0, hz1, hz2⟩ := info_parts info_u8
  have HW0 := Lib.hid (Wrote.start h (Frm.refl (fun _ => False) w))
  have HG := Lib.hid hg
  have hpl : p < w.heap.size := by obtain ⟨_, hb, _⟩ := h; exact hb.lt
  clear h hg
  go_enter Try.func36, Try.ntmps36
  go_wp2_with fail
  go_loopw [7] (fun v7 wr => ∃ (i : Nat) (xs : List UInt8), i ≤ ns.length ∧ v7 = .int .i64 (i : Int) ∧ xs = bs ++ (ns.take i).flatMap FieldM.num ∧ Wrote w p xs wr) (fun v7 _ => ns.length - (intOf v7).toNat)
  case atStart => exact ⟨0, bs, by omega, rfl, by simp, HW0.out⟩
  case round =>
    clear HW0
    obtain ⟨i, xs, hin, rfl, hxs, hw⟩ := hrel
    have HW := Lib.hid hw
    have HXS := Lib.hid hxs
    have hi0 : (0 : Int) ≤ (i : Int) := by omega
    have hsz : w.heap.size ≤ wr.heap.size := hw.frm.size
    have hxl : xs.length ≤ 1000000000900 := by
      have := nums_le (ns.take i) (fun n hn => by have := hns n (List.mem_of_mem_take hn); omega)
      have : (ns.take i).length ≤ 100 := by rw [List.length_take]; omega
      rw [hxs, List.length_append]
      omega
    obtain ⟨v, hb, hs⟩ := hw.buf
    clear hxs
    by_cases hlt : i < ns.length
    · have hlti : (i : Int) < (ns.length : Int) := by omega
      have hcell : wr.cell? ⟨g, i, none⟩ = some (.int .i64 (ns[i] : Int)) := by
        rw [(HW.out.keep g _ _ (by decide) (by decide) HG.out).cell i]
        simp [hlt]
      have hnx := hns _ (List.getElem_mem hlt)
      have HT := Lib.hid (take_nums ns hlt)
      generalize ns[i] = x at hcell hnx HT
      have hx1 : IntKind.u64.wrap (x : Int) = (x : Int) := by rw [IntKind.wrap_u64]; omega
      have HN := Lib.hid (number_any x (by omega))
      have hil : (FieldM.num x).length ≤ 9 := by
        rw [FieldM.num_length]
        have := FieldM.wid_le (n := x) (by omega)
        omega
      have HB := Lib.hid hb
      have HS := Lib.hid hs
      have c0 : wr.drew.cell? ⟨p, 0, none⟩ = some v := hb.cell 0
      obtain ⟨A0, cap0, rfl, _⟩ := hs.shape
      generalize FieldM.num x = cs at HN hil HT
      clear hb hs hw
      go_wp2_with fail
      go_region_law
        ((first
          | (refine step_append_sl (by rfl) (.tmp 11) (.tmp 14) 26 (by rfl) p 5 i0 _ 1 1 Try.underlying26 hi hz0 hz1 hz2 rfl (by omega) (.slice A0 xs.length cap0) xs.length (xs.map bv) (by rfl) HSA.out _ A3 cs.length c3 (cs.map bv) (by rfl) (by rw [List.length_map, Nat.mul_one]) HS3.out.rd (bv_one _) (by unfold maxLen; omega) (by omega) (by have := HF3.out.size; omega) ?_; intro v5 w5 hs5 hf5 _; have HWN := Lib.hid (HW.out.trans (buf_put HB.out HS.out HF3.out hf5 hs5)); have hb5 : Blk w5 p 26 #[.slice A0 xs.length cap0] := (HB.out.frm HF3.out (fun f => f)).frm hf5 (fun e => HSA.out.apart (HB.out.frm HF3.out (fun f => f)) (by decide) e); have c5 : w5.cell? ⟨p, 0, none⟩ = some (.slice A0 xs.length cap0) := hb5.cell 0; have z5 := hb5.frozen 0; obtain ⟨A5, cp5, rfl, _⟩ := hs5.shape; clear hs5 hf5 hb5)
          | (go_simp; go_at_call 37; refine (HN.out _).mono ?_; rintro e w3 ⟨v3, rfl, hs3, f3⟩; obtain ⟨A3, c3, rfl, _⟩ := hs3.shape; have HS3 := Lib.hid hs3; have HF3 := Lib.hid (((Frm.refl _ wr).drew).trans f3); clear hs3 f3; have c1 : w3.cell? ⟨p, 0, none⟩ = some (.slice A0 xs.length cap0) := (HB.out.frm HF3.out (fun f => f)).cell 0; have HSA := Lib.hid (HS.out.fresh HF3.out))))
      all_goals
        go_wp2_with fail
        go_roundw
        case rel => exact ⟨i + 1, _, by omega, by go_num, by rw [HT.out, ← List.append_assoc, ← HXS.out], HWN.out⟩
        case measure => simp [intOf]; omega
    · obtain rfl : i = ns.length := by omega
      rw [List.take_length] at HXS
      go_wp2_with fail
      refine bodyPost_ret (v := .tuple #[]) (by simp [results, Try.results36, go_sem]) rfl ⟨rfl, ?_⟩
      rw [← HXS.out]
      exact HW.out
end Go.Proofs.Ytlceembcehokoaa

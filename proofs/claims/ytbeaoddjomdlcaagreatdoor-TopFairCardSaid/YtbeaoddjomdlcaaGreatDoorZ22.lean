/- Proved here, for the statement TopFairCardSaid: laws that its walk leans on. It holds with no condition. (Put together and shortened by a program out of many texts: Queue10, Keys, Queue11.) -/
import Derived.Test.YtbeaoddjomdlcaaGreatDoorZ21
set_option linter.unusedVariables false
set_option linter.unusedSimpArgs false
set_option maxRecDepth 100000
set_option maxHeartbeats 64000000
namespace Go.Proofs.YtbeaoddjomdlcaaGreatDoor
section
open Go.RowKit QueueM
attribute [local go_sem] run_store_float
def RemovePost (w : World) (B b : Nat) (v : Value) (id : Int) (l : List Wt) (e : Ending) (w' : World) : Prop :=
  e = .returned (.int .i64 (remove id l).1) ∧ StepQ w B b v (remove id l).2 w'
theorem del_length {id : Int} {l : List Wt} (h : place id l < l.length) : (del id l).length = l.length - 1 := by
  rw [del_eq, List.length_eraseIdx, if_pos h]
theorem remove_any (w : World) (B b : Nat) (v : Value) (l : List Wt) (id : Int) (h : IsQ w B b v l) (hl : l.length ≤ 1000) :
    Calls Tryz.prog 35 #[.pointer (some ⟨b, 0, none⟩), .int .i64 id] w fun e w' => RemovePost w B b v id l e w' := by
  have HQ := zh h
  have HPL := zh (place_any w B b v l id h hl)
  have HREM := zh (show remove id l = if has id l = true then (0, del id l) else (2, l) from rfl)
  clear h
  rcases Bool.eq_false_or_eq_true (has id l) with hh | hh
  · obtain ⟨hp, hpl⟩ := plc_yes hh
    rw [hh, if_pos rfl] at HREM
    rw [hp] at HPL
    have HDL := zh (del_length hpl)
    have HDC := zh (wcells_del id l)
    generalize place id l = p at HPL hpl HDC
    clear hp hh
    have hp0 : ¬ (p : Int) < 0 := by omega
    have hp1 : (0 : Int) ≤ (p : Int) := by omega
    have hp2 : (p : Int) ≤ 1000 := by omega
    go_in
    go_wp2_with fail
    refine HPL.out.mono ?_
    rintro e w1 ⟨rfl, f1⟩
    have HF1 := zh f1
    have HQ1 := zh (HQ.out.fresh f1)
    obtain ⟨A, cap, rfl, hnc, hcm, _⟩ := HQ.out.sl.shape
    have hc : w1.cell? ⟨b, 0, none⟩ = some (.slice A l.length cap) := HQ1.out.blk.cell 0
    have HAP := zh (HQ1.out.sl.apart HQ1.out.blk (by decide))
    have HDE := zh (delete_any w1 B _ l.length _ HQ1.out.sl (by omega) p hpl (wcells_one l))
    have hge := HQ1.out.ge
    clear f1
    go_wp2_with fail
    refine HDE.out.mono ?_
    rintro e w5 ⟨v5, rfl, hs5, hf5, ho5⟩
    have k := HQ1.out.blk.frm hf5 HAP.out
    have k1 : w5.cell? ⟨b, 0, none⟩ = some (.slice A l.length cap) := k.cell 0
    have k2 := k.frozen 0
    have HS6 := zh (stored hge k hs5)
    have HFF := zh (own_frm (b := b) (v' := v5) HF1.out hf5)
    have HO5 := zh ho5
    have hsz := HF1.out.size
    obtain ⟨A5, c5, rfl, _⟩ := hs5.shape
    clear hs5 hf5 ho5 k
    go_wp2_with fail
    go_ret
    exact ⟨by rw [HREM.out]; exact rfl, by rw [HREM.out]; exact ⟨_, ⟨HS6.out.1, hge, by show Sl _ _ _ _ _ (del id l).length _; rw [HDL.out, HDC.out]; exact HS6.out.2⟩, HFF.out, HO5.out.elim .inl (fun ⟨k, h1, h2⟩ => .inr ⟨k, h1, by omega⟩)⟩⟩
  · rw [hh, if_neg (by simp)] at HREM
    rw [plc_no hh] at HPL
    clear hh
    go_in
    go_wp2_with fail
    refine HPL.out.mono ?_
    rintro e w1 ⟨rfl, f1⟩
    have HF1 := zh f1
    clear f1
    go_wp2_with fail
    go_ret
    exact ⟨by rw [HREM.out]; exact rfl, by rw [HREM.out]; exact StepQ.still HQ.out HF1.out⟩
def Waits (w : World) (B : Nat) (v : Value) (l : List Wt) : Prop := Sl w B 69 5 v l.length (l.flatMap wcells)
theorem info_a : (Tryz.prog.info? 69).map (fun i => (i.zero, i.size, i.bytes)) = some (some (.agg #[.int .i64 0, .int .i64 0, .int .i64 0, .int .i64 0, .float .f64 0]), 5, 40) := by kernel_rfl
def AllPost (w : World) (l : List Wt) (e : Ending) (w' : World) : Prop := ∃ v, e = .returned v ∧ Waits w' w.heap.size v l ∧ Fresh w w'
theorem all_any (w : World) (B b : Nat) (v : Value) (l : List Wt) (h : IsQ w B b v l) (hl : l.length ≤ 1000) :
    Calls Tryz.prog 34 #[.pointer (some ⟨b, 0, none⟩)] w fun e w' => AllPost w l e w' := by
  obtain ⟨i0, hi, hz0, hz1, hz2⟩ := info_parts info_a
  have HQ := zh h
  obtain ⟨A, cap, rfl, hnc, hcm, _⟩ := h.sl.shape
  have hc : w.cell? ⟨b, 0, none⟩ = some (.slice A l.length cap) := h.blk.cell 0
  have HR := zh h.sl.rd
  clear h
  go_in
  go_wp2_with fail
  go_loopw [3, 11] (fun v3 v11 wr => ∃ (i : Nat) (u : Value), u = v3 ∧ i ≤ l.length ∧ v11 = .int .i64 (i : Int) ∧ Sl wr w.heap.size 69 5 u i ((l.take i).flatMap wcells) ∧ Fresh w wr) (fun _ v11 _ => l.length - (RowKit.intOf v11).toNat)
  case atStart => exact ⟨0, _, rfl, by omega, rfl, by simpa using Sl.nil _ _ _ _, Frm.refl _ _⟩
  case round =>
    obtain ⟨i, u, rfl, hi1, rfl, hs, hf⟩ := hrel
    have HS := zh hs
    have HF := zh hf
    have hsz := hf.size
    have hi0 : (0 : Int) ≤ (i : Int) := by omega
    by_cases hlt : i < l.length
    · obtain ⟨b', o, rfl, _, h5⟩ := five_at ((HR.out.fresh (Nat.le_refl _) hf).more hf.size) hlt
      have HT := zh (show (l.take (i + 1)).flatMap wcells = (l.take i).flatMap wcells ++ wcells l[i] by rw [List.take_succ_eq_append_getElem hlt, List.flatMap_append]; simp)
      have h1x : ∀ u ∈ wcells l[i], u.oneCell' = true := by have := wcells_one [l[i]]; simpa using this
      obtain ⟨x, hx⟩ : ∃ x, x = l[i] := ⟨_, rfl⟩
      rw [← hx] at h5 HT h1x
      clear hx
      obtain ⟨xi, xc, xm, xt, xs⟩ := x
      obtain ⟨c0, c1, c2, c3, c4⟩ := h5
      dsimp only at c0 c1 c2 c3 c4
      have H1X := zh h1x
      have hlti : (i : Int) < (l.length : Int) := by omega
      obtain ⟨W, hW⟩ : ∃ W, W = wr.alloc (.cells #[.int .i64 xi, .int .i64 xc, .int .i64 xm, .int .i64 xt, .float .f64 xs] 141) := ⟨_, rfl⟩
      have R1 : Hid (Rd (W.alloc (.cells #[.int .i64 xi, .int .i64 xc, .int .i64 xm, .int .i64 xt, .float .f64 xs] 69)) (W.heap.size + 1) (some ⟨W.heap.size, 0, none⟩) (wcells ⟨xi, xc, xm, xt, xs⟩)) := zh (rd_new W (wcells ⟨xi, xc, xm, xt, xs⟩) 69)
      have HSA := zh ((HS.out.alloc (.cells #[.int .i64 xi, .int .i64 xc, .int .i64 xm, .int .i64 xt, .float .f64 xs] 141)).alloc (.cells #[.int .i64 xi, .int .i64 xc, .int .i64 xm, .int .i64 xt, .float .f64 xs] 69))
      rw [hW, World.size_alloc] at R1
      clear hs hf h1x hW
      go_wp2_with (at_builtin; refine wpList_append_sl _ rfl (.tmp 15) (.tmp 18) _ rfl w.heap.size 69 i0 _ 5 40 Tryz.underlying40 hi hz0 hz1 hz2 rfl (by omega) _ _ _ rfl HSA.out _ _ 1 _ _ rfl (by rfl) R1.out H1X.out (by unfold maxLen; omega) (by omega) (by simp; omega) ?_; intro v1 w1 hs1 hf1 ha1)
      have HS1 : Hid (Sl w1 w.heap.size 69 5 v1 (i + 1) ((l.take (i + 1)).flatMap wcells)) := zh (by rw [HT.out]; exact hs1)
      have HF1 : Hid (Fresh w w1) := zh (((HF.out.alloc _).alloc _).trans' hf1 (fun i hi hk => by have := (HSA.out.lt _ hk).1; omega))
      clear hs1 hf1 ha1
      go_wp2_with fail
      go_roundw
      case rel => exact ⟨i + 1, _, rfl, by omega, by go_num, HS1.out, HF1.out⟩
      case measure => simp [RowKit.intOf]; omega
    · obtain rfl : i = l.length := by omega
      have HT := zh (show l.take l.length = l from List.take_length)
      clear hs hf
      go_wp2_with fail
      go_ret
      exact ⟨_, rfl, by have := HS.out; rw [HT.out] at this; exact this, HF.out⟩
end
section
open Go.RowKit
theorem and_top (u : Nat) (hu : u < 18446744073709551616) : bits .and .u64 (u : Int) 9223372036854775808 = if u < 9223372036854775808 then 0 else 9223372036854775808 := by
  have h := u64_and_nat u 9223372036854775808 hu (by omega)
  have e : u &&& 9223372036854775808 = if u < 9223372036854775808 then 0 else 9223372036854775808 := by
    have := nat_bit 63 u
    rw [show (2 : Nat) ^ 63 = 9223372036854775808 by decide] at this
    rw [this]
    split <;> omega
  rw [e] at h
  rw [show ((9223372036854775808 : Nat) : Int) = 9223372036854775808 by rfl] at h
  rw [h]
  split <;> rfl
theorem or_top (u : Nat) (hu : u < 9223372036854775808) : bits .or .u64 (u : Int) 9223372036854775808 = ((u + 9223372036854775808 : Nat) : Int) := by
  have h := u64_or_nat u 9223372036854775808 (by omega) (by omega)
  have e : u ||| 9223372036854775808 = 9223372036854775808 + u := by
    rw [Nat.or_comm]
    exact nat_join 63 9223372036854775808 u (by decide) (by omega)
  rw [e, Nat.add_comm] at h
  exact h
theorem nat_not64 (u : Nat) (hu : u < 18446744073709551616) : 18446744073709551615 ^^^ u = 18446744073709551615 - u := by
  have h := congrArg BitVec.toNat (BitVec.allOnes_xor (x := BitVec.ofNat 64 u))
  rw [BitVec.toNat_xor, BitVec.toNat_not, BitVec.toNat_allOnes, BitVec.toNat_ofNat, Nat.mod_eq_of_lt (by simpa using hu)] at h
  simpa using h
theorem xor_max (u : Nat) (hu : u < 18446744073709551616) : bits .xor .u64 IntKind.u64.max (u : Int) = ((18446744073709551615 - u : Nat) : Int) := by
  have h := u64_xor_nat 18446744073709551615 u (by omega) hu
  rw [nat_not64 u hu] at h
  exact h
theorem key_hi {u : Nat} (hu : u < 18446744073709551616) (h : (bits .and .u64 (u : Int) 9223372036854775808 != 0) = true) : bits .xor .u64 IntKind.u64.max (u : Int) = ((FareM.key u : Nat) : Int) := by
  rw [and_top u hu] at h
  rw [xor_max u hu]
  unfold FareM.key
  split at h
  · simp at h
  · rename_i h2; rw [if_neg h2]
theorem key_lo {u : Nat} (hu : u < 18446744073709551616) (h : (bits .and .u64 (u : Int) 9223372036854775808 != 0) = false) : bits .or .u64 (u : Int) 9223372036854775808 = ((FareM.key u : Nat) : Int) := by
  rw [and_top u hu] at h
  unfold FareM.key
  split at h
  · rename_i h2; rw [if_pos h2, or_top u h2]
  · simp at h
theorem run_f64bits (w : World) (b : Nat) : (callFunc 133 #[.float .f64 b]).run Tryz.prog w = .ok (.value (.int .u64 (b : Int))) w := by kernel_rfl
def f64of (n : Int) : Nat := n.toNat
theorem run_f64from_int (w : World) (n : Int) : (callFunc 126 #[.int .u64 n]).run Tryz.prog w = .ok (.value (.float .f64 (f64of n))) w := by kernel_rfl
theorem ret_u64 {a b : Int} (h : a = b) : Ending.returned (.int .u64 a) = .returned (.int .u64 b) := by rw [h]
theorem ret_f64 {a b : Nat} (h : a = b) : Ending.returned (.float .f64 a) = .returned (.float .f64 b) := by rw [h]
theorem key_any (u : Nat) (hu : u < 18446744073709551616) (w : World) :
    Calls Tryz.prog 91 #[.float .f64 u] w fun e w' => e = .returned (.int .u64 (FareM.key u : Int)) ∧ w' = w := by
  have hb := fun w => run_f64bits w u
  have HU := zh hu
  clear hu
  go_in
  go_wp2
  · go_ret
    exact ⟨ret_u64 (key_hi HU.out ‹_›), rfl⟩
  · go_ret
    exact ⟨ret_u64 (key_lo HU.out ‹_›), rfl⟩
theorem refKey_any (u : Nat) (hu : u < 18446744073709551616) (w : World) :
    Calls Tryz.prog 130 #[.float .f64 u] w fun e w' => e = .returned (.int .u64 (FareM.key u : Int)) ∧ w' = w := by
  have hb := fun w => run_f64bits w u
  by_cases h : u < 9223372036854775808
  · have e1 : IntKind.u64.wrap ((u : Int) + 9223372036854775808) = (FareM.key u : Int) := by
      unfold FareM.key
      rw [if_pos h, IntKind.wrap_u64]
      omega
    have h1 : decide ((u : Int) < 9223372036854775808) = true := by simp; omega
    have HU := zh hu
    have HH := zh h
    have H1 := zh e1
    clear hu h e1
    go_in
    go_wp2
    go_ret
    exact ⟨ret_u64 H1.out, rfl⟩
  · have e1 : IntKind.u64.wrap (18446744073709551615 - (u : Int)) = (FareM.key u : Int) := by
      unfold FareM.key
      rw [if_neg h, IntKind.wrap_u64]
      omega
    have h1 : decide ((u : Int) < 9223372036854775808) = false := by simp; omega
    have HU := zh hu
    have HH := zh h
    have H1 := zh e1
    clear hu h e1
    go_in
    go_wp2
    go_ret
    exact ⟨ret_u64 H1.out, rfl⟩
theorem refOf_any (u : Nat) (hu : u < 18446744073709551616) (w : World) :
    Calls Tryz.prog 81 #[.int .u64 (u : Int)] w fun e w' => e = .returned (.float .f64 (FareM.of u)) ∧ w' = w := by
  have hb := fun w n => run_f64from_int w n
  by_cases h : u < 9223372036854775808
  · have e1 : f64of (IntKind.u64.wrap (18446744073709551615 - (u : Int))) = FareM.of u := by
      unfold FareM.of f64of
      rw [if_pos h, IntKind.wrap_u64]
      omega
    have h1 : decide ((u : Int) < 9223372036854775808) = true := by simp; omega
    have h2 : decide (9223372036854775808 ≤ (u : Int)) = false := by simp; omega
    have HU := zh hu
    have HE := zh e1
    clear hu h e1
    go_in
    go_wp2
    go_ret
    exact ⟨ret_f64 HE.out, rfl⟩
  · have e1 : f64of (IntKind.u64.wrap ((u : Int) - 9223372036854775808)) = FareM.of u := by
      unfold FareM.of f64of
      rw [if_neg h, IntKind.wrap_u64]
      omega
    have h1 : 9223372036854775808 ≤ (u : Int) := by omega
    have HU := zh hu
    have HE := zh e1
    clear hu h e1
    go_in
    go_wp2
    go_ret
    exact ⟨ret_f64 HE.out, rfl⟩
end
section
open Go.RowKit QueueM
attribute [local go_sem] run_store_float
def Words (l : List Wt) : Prop := ∀ x ∈ l, x.score < 18446744073709551616
theorem ahead_by (a b : Wt) : QueueM.ahead a b = if FareM.rank a.score b.score ≠ 0 then decide (0 < FareM.rank a.score b.score) else if a.time ≠ b.time then decide (a.time < b.time) else decide (a.id < b.id) := by
  rw [Bool.eq_iff_iff, ahead_iff, rank_eq]
  generalize QueueM.wv a.score = p
  generalize QueueM.wv b.score = q
  unfold FareM.sgnI
  split <;> (repeat' (first | omega | split at *)) <;> simp <;> omega
theorem refAhead_any (a b : Wt) (w : World) :
    Calls Tryz.prog 19 #[wagg a, wagg b] w fun e w' => e = .returned (.bool (QueueM.ahead a b)) ∧ Fresh w w' := by
  have HA := zh (ahead_by a b)
  unfold wagg
  obtain ⟨ai, ac, am, at_, as_⟩ := a
  obtain ⟨bi, bc, bm, bt, bs⟩ := b
  dsimp only at HA ⊢
  have HF : Hid (∀ o o', Fresh w ((w.alloc o).alloc o')) := zh fun o o' => ((Frm.refl _ w).alloc o).alloc o'
  have HR := zh (fun w => refRank_any as_ bs w)
  generalize FareM.rank as_ bs = r at HA HR
  rcases Bool.eq_false_or_eq_true (r != 0) with h1 | h1
  · have e := HA.out
    rw [if_pos (by simpa using h1)] at e
    have HE := zh e
    clear e
    go_in
    go_wp2_with fail
    refine (HR.out _).mono ?_
    rintro e w1 ⟨rfl, rfl⟩
    go_wp2_with fail
    go_ret
    exact ⟨ret_bool HE.out.symm, HF.out _ _⟩
  · have e := HA.out
    rw [if_neg (by simpa using h1)] at e
    rcases Bool.eq_false_or_eq_true (at_ != bt) with h2 | h2
    · rw [if_pos (by simpa using h2)] at e
      have HE := zh e
      clear e
      go_in
      go_wp2_with fail
      refine (HR.out _).mono ?_
      rintro e w1 ⟨rfl, rfl⟩
      go_wp2_with fail
      go_ret
      exact ⟨ret_bool HE.out.symm, HF.out _ _⟩
    · rw [if_neg (by simpa using h2)] at e
      have HE := zh e
      clear e
      go_in
      go_wp2_with fail
      refine (HR.out _).mono ?_
      rintro e w1 ⟨rfl, rfl⟩
      go_wp2_with fail
      go_ret
      exact ⟨ret_bool HE.out.symm, HF.out _ _⟩
end
end Go.Proofs.YtbeaoddjomdlcaaGreatDoor

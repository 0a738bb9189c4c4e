/- The law RecordTurned walked. -/
import Derived.Test.YtpfelhgihbeeeaaScanLaws2
import Derived.IntWalk
namespace Go.Proofs.Ytpfelhgihbeeeaa
open Go.RowKit

theorem set4 (p q : List UInt8) (c0 c1 c2 c3 x0 x1 x2 x3 : UInt8) :
    (((((p ++ [c0, c1, c2, c3] ++ q).map bv).set p.length (bv x0)).set (p.length + 1) (bv x1)).set (p.length + 2) (bv x2)).set (p.length + 3) (bv x3) = (p ++ [x0, x1, x2, x3] ++ q).map bv := by
  have e : (p ++ [c0, c1, c2, c3] ++ q).map bv = p.map bv ++ (bv c0 :: bv c1 :: bv c2 :: bv c3 :: q.map bv) := by simp
  have e2 : (p ++ [x0, x1, x2, x3] ++ q).map bv = p.map bv ++ (bv x0 :: bv x1 :: bv x2 :: bv x3 :: q.map bv) := by simp
  have hl : p.length = (p.map bv).length := by simp
  rw [e, e2, hl, List.set_append_right _ _ (Nat.le_refl _), List.set_append_right _ _ (by omega), List.set_append_right _ _ (by omega), List.set_append_right _ _ (by omega)]
  congr 1
  rw [Nat.sub_self, show (p.map bv).length + 1 - (p.map bv).length = 1 by omega, show (p.map bv).length + 2 - (p.map bv).length = 2 by omega, show (p.map bv).length + 3 - (p.map bv).length = 3 by omega]
  rfl
theorem split4 (a : List UInt8) (k : Nat) (h : k + 4 ≤ a.length) : ∃ (p q : List UInt8) (c0 c1 c2 c3 : UInt8), a = p ++ [c0, c1, c2, c3] ++ q ∧ p.length = k := by
  refine ⟨a.take k, a.drop (k + 4), a[k], a[k + 1], a[k + 2], a[k + 3], ?_, by simp; omega⟩
  have e : a.drop k = [a[k], a[k + 1], a[k + 2], a[k + 3]] ++ a.drop (k + 4) := by
    rw [List.drop_eq_getElem_cons (by omega), List.drop_eq_getElem_cons (by omega), List.drop_eq_getElem_cons (by omega), List.drop_eq_getElem_cons (by omega)]
    rfl
  rw [List.append_assoc, ← e, List.take_append_drop]
theorem xor_by (c : UInt8) (n : Nat) : bits .xor .u8 (c.toNat : Int) ((n : Int) % 256) = ((c ^^^ UInt8.ofNat (n % 256)).toNat : Int) := by
  have hc := c.toNat_lt
  have h := u8_xor_nat c.toNat (n % 256) hc (by omega)
  rw [UInt8.toNat_xor, UInt8.toNat_ofNat']
  rw [show n % 256 % 2 ^ 8 = n % 256 by omega]
  exact h
theorem cell_of4 {w : World} {B e g o cap n : Nat} {p q : List UInt8} {c0 c1 c2 c3 : UInt8} (h : Sl w B e 1 (.slice (some ⟨g, o, none⟩) n cap) n ((p ++ [c0, c1, c2, c3] ++ q).map bv)) :
    w.cell? ⟨g, o + p.length, none⟩ = some (.int .u8 (c0.toNat : Int)) ∧ w.cell? ⟨g, o + (p.length + 1), none⟩ = some (.int .u8 (c1.toNat : Int)) ∧ w.cell? ⟨g, o + (p.length + 2), none⟩ = some (.int .u8 (c2.toNat : Int)) ∧ w.cell? ⟨g, o + (p.length + 3), none⟩ = some (.int .u8 (c3.toNat : Int)) := by
  have e : (p ++ [c0, c1, c2, c3] ++ q).map bv = p.map bv ++ (bv c0 :: bv c1 :: bv c2 :: bv c3 :: q.map bv) := by simp
  have hl : (p.map bv).length = p.length := by simp
  have get : ∀ j (hj : j < ((p ++ [c0, c1, c2, c3] ++ q).map bv).length), w.cell? ⟨g, o + j, none⟩ = some (((p ++ [c0, c1, c2, c3] ++ q).map bv)[j]) := fun j hj => h.cell hj
  refine ⟨?_, ?_, ?_, ?_⟩
  · rw [get _ (by simp)]; simp [bv]
  · rw [get _ (by simp)]; simp [bv]
  · rw [get _ (by simp)]; simp [bv]
  · rw [get _ (by simp)]; simp [bv]

/-- of a record of which bits were turned, and those behind, nothing is told -/
theorem turned_scan {l : List (List UInt8)} (hall : ∀ x ∈ l, x.length ≤ 65536) {i : Nat} (hi : i < l.length) {p q : List UInt8} {a b c d : UInt8} {t : BitVec 32} (ht : t ≠ 0#32) (hx : l[i] = p ++ [a, b, c, d] ++ q) :
    ∃ P Q : List UInt8, recs l = P ++ [a, b, c, d] ++ Q ∧ P.length = (recs (l.take i)).length + 8 + p.length ∧ scan (P ++ [a ^^^ CrcM.by0 t, b ^^^ CrcM.by1 t, c ^^^ CrcM.by2 t, d ^^^ CrcM.by3 t] ++ Q) = (l.take i, (recs (l.take i)).length) := by
  have e : recs l = recs (l.take i) ++ (rec l[i] ++ recs (l.drop (i + 1))) := by
    conv => lhs; rw [← List.take_append_drop i l, List.drop_eq_getElem_cons hi]
    unfold recs
    rw [List.flatMap_append, List.flatMap_cons]
  have hlen := hall _ (List.getElem_mem hi)
  have hb := CrcM.sum_burst (w4 l[i].length ++ p) q a b c d t ht
  generalize hy : [a ^^^ CrcM.by0 t, b ^^^ CrcM.by1 t, c ^^^ CrcM.by2 t, d ^^^ CrcM.by3 t] = y at hb ⊢
  have hyl : y.length = 4 := by rw [← hy]; rfl
  have h1 := scan1_other l[i] (p ++ y ++ q) (recs (l.drop (i + 1))) (by rw [hx]; simp [hyl]; omega) hlen (by
    rw [show w4 l[i].length ++ l[i] = w4 l[i].length ++ p ++ [a, b, c, d] ++ q from by conv => lhs; rhs; rw [hx]
                                                                                       simp]
    rw [show w4 l[i].length ++ (p ++ y ++ q) = w4 l[i].length ++ p ++ y ++ q from by simp]
    exact fun h => hb h.symm)
  refine ⟨recs (l.take i) ++ (w4 l[i].length ++ w4 (CrcM.sum (w4 l[i].length ++ l[i])).toNat) ++ p, q ++ recs (l.drop (i + 1)), ?_, ?_, ?_⟩
  · rw [e]
    unfold rec
    conv => lhs; rhs; lhs; rhs; rw [hx]
    simp
  · simp [w4_len]; omega
  · rw [show recs (l.take i) ++ (w4 l[i].length ++ w4 (CrcM.sum (w4 l[i].length ++ l[i])).toNat) ++ p ++ y ++ (q ++ recs (l.drop (i + 1))) = recs (l.take i) ++ (w4 l[i].length ++ w4 (CrcM.sum (w4 l[i].length ++ l[i])).toNat ++ (p ++ y ++ q) ++ recs (l.drop (i + 1))) from by simp]
    rw [scan_recs _ _ (fun x hx => hall x (List.mem_of_mem_take hx)), scan_none h1]
    simp

set_option maxRecDepth 100000 in
set_option maxHeartbeats 4000000 in
theorem turned_any (w : World) (A : Option Addr) (cap : Nat) (l : List (List UInt8)) (hb : RdLs w A l) (hle : l.length ≤ cap) (hcap : cap ≤ 140737488351232) (x y : Int) (hx : x ≤ 9223372036854775807) (hy : y ≤ 9223372036854775807) (t : BitVec 32) :
    Calls Try.prog 7 #[.slice A l.length cap, .agg #[.int .i64 x, .int .i64 y], .int .u32 (t.toNat : Int)] w fun e w' => e = .returned (.bool true) ∧ Below w.heap.size w w' := by
  obtain ⟨i0, hi, hz0, hz1, hz2⟩ := info_parts info_u8
  have HB := Lib.hid hb
  have htl := bv_lt t
  clear hb
  go_enter Try.func7, Try.ntmps7
  go_wp2_with fail
  obtain ⟨w0, hw0⟩ : ∃ w0, w.alloc (.cells #[.int .i64 x, .int .i64 y] 36) = w0 := ⟨_, rfl⟩
  rw [hw0]
  have HF0 : Hid (Fresh w w0) := Lib.hid (by rw [← hw0]; exact (Frm.refl _ w).alloc _)
  have BX : Hid (∀ w', Fresh w0 w' → w'.cell? ⟨w.heap.size, 0, none⟩ = some (.int .i64 x) ∧ w'.cell? ⟨w.heap.size, 1, none⟩ = some (.int .i64 y)) := Lib.hid fun w' F => by
    have B1 : Blk w0 w.heap.size 36 #[.int .i64 x, .int .i64 y] := by rw [← hw0]; exact Blk.new w _ _
    exact ⟨(B1.frm F (fun f => f)).cell 0, (B1.frm F (fun f => f)).cell 1⟩
  have HB0 := Lib.hid (HB.out.fresh HF0.out)
  clear hw0
  refine (awake_any w0).mono ?_
  rintro e w1 ⟨rfl, hf1⟩
  have HF1 := Lib.hid hf1
  have HB1 := Lib.hid (HB0.out.fresh hf1)
  clear hf1
  go_wp2_with fail
  refine (whole_any w1 A cap l HB1.out (by omega)).mono ?_
  rintro e w2 ⟨hf2, ⟨hfit, v, v2, rfl, hs, hs2⟩ | ⟨_, rfl⟩⟩
  · have HF02 := Lib.hid (HF1.out.trans hf2)
    have HF2 := Lib.hid (HF0.out.trans (HF1.out.trans hf2))
    have HB2 := Lib.hid (HB1.out.fresh hf2)
    have HFT := Lib.hid hfit
    have HS := Lib.hid hs
    have HS2 := Lib.hid hs2
    have hlen := hfit.len
    have hcnt := recs_cnt l
    obtain ⟨A3, c3, rfl, h31, h32, _⟩ := hs.shape
    obtain ⟨A4, c4, rfl, h41, h42, _⟩ := hs2.shape
    unfold maxLen at h32 h42
    clear hfit hs hs2 hf2
    by_cases q0 : l.length = 0
    · have q0b : ((l.length : Int) == 0) = true := by rw [beq_iff_eq]; omega
      clear q0
      go_wp2_with fail
      go_ret
      exact ⟨rfl, Fresh.below HF2.out⟩
    have q0b : ((l.length : Int) == 0) = false := by rw [beq_eq_false_iff_ne]; omega
    obtain ⟨cx, cy⟩ := BX.out w2 HF02.out
    by_cases hx0 : x < 0
    · go_wp2_with fail
      go_ret
      exact ⟨rfl, Fresh.below HF2.out⟩
    by_cases hy0 : y < 0
    · go_wp2_with fail
      go_ret
      exact ⟨rfl, Fresh.below HF2.out⟩
    by_cases ht0 : t.toNat = 0
    · have ht0b : ((t.toNat : Int) == 0) = true := by rw [beq_iff_eq]; omega
      clear ht0
      go_wp2_with fail
      go_ret
      exact ⟨rfl, Fresh.below HF2.out⟩
    have ht0b : ((t.toNat : Int) == 0) = false := by rw [beq_eq_false_iff_ne]; omega
    have HT0 : Hid (t ≠ 0#32) := Lib.hid fun h => ht0 (by rw [h]; rfl)
    have h8 : ¬ ((l.length : Nat) : Int) * 8 > ((recs l).length : Int) := by omega
    have h80 : ¬ ((recs l).length : Int) < 8 * (l.length : Int) := by omega
    have h81 : ¬ (recs l).length < 8 * l.length := by omega
    have hlm : (8 * (l.length : Int)) ≤ 600000 := by omega
    obtain ⟨xn, rfl⟩ := Int.eq_ofNat_of_zero_le (show 0 ≤ x by omega)
    obtain ⟨yn, rfl⟩ := Int.eq_ofNat_of_zero_le (show 0 ≤ y by omega)
    obtain ⟨i, hi⟩ : ∃ i, xn % l.length = i := ⟨_, rfl⟩
    have hil : i < l.length := by rw [← hi]; exact Nat.mod_lt _ (by omega)
    have hii : (xn : Int) % (l.length : Int) = (i : Int) := by rw [← hi, Int.natCast_emod]
    have hxn : (0 : Int) ≤ (xn : Int) := by omega
    have hyn : (0 : Int) ≤ (yn : Int) := by omega
    have hl0 : (0 : Int) < (l.length : Int) := by omega
    have hil2 : (i : Int) < (l.length : Int) := by omega
    have hi0 : (0 : Int) ≤ (i : Int) := by omega
    clear hi hx0 hy0 q0 ht0
    obtain ⟨b, o, A5, c5, rfl, hc, _⟩ := HB2.out.at_ hil
    obtain ⟨p2, o2, rfl, _, hc2⟩ := HS2.out.rd.at_ (k := i) (by simp [ends]; omega)
    rw [List.getElem_map, (List.getElem?_eq_some_iff.1 (ends_get hil)).2] at hc2
    unfold nv at hc2
    have he : (recs (l.take (i + 1))).length = (recs (l.take i)).length + (l[i].length + 8) := by rw [List.take_succ_eq_append_getElem hil, recs_snoc, List.length_append, rec_len]
    rw [he] at hc2
    have hn1 : l[i].length ≤ 65536 := HFT.out.all _ (List.getElem_mem hil)
    have hm1 := recs_take_le l (i + 1)
    rw [he] at hm1
    have HN := Lib.hid (show l[i].length = l[i].length from rfl)
    generalize hn : l[i].length = n at HN hc hc2 hn1 hm1
    have HN := Lib.hid hn
    generalize hm : (recs (l.take i)).length = m at hc2 hm1
    have HM := Lib.hid hm
    clear hn hm he
    by_cases hn4 : n < 4
    · go_wp2_with fail
      go_ret
      exact ⟨rfl, Fresh.below HF2.out⟩
    obtain ⟨k, hk⟩ : ∃ k, yn % (n - 3) = k := ⟨_, rfl⟩
    have hkl : k + 4 ≤ n := by have := Nat.mod_lt yn (show 0 < n - 3 by omega); rw [hk] at this; omega
    obtain ⟨p, q, e0, e1, e2, e3, hpq, hp⟩ := split4 l[i] k (by rw [HN.out]; exact hkl)
    obtain ⟨P, Q, hP, hPl, hsc⟩ := turned_scan HFT.out.all hil HT0.out hpq
    rw [HM.out, hp] at hPl
    rw [HM.out] at hsc
    have HP := Lib.hid hP
    have HPL := Lib.hid hPl
    have HSC := Lib.hid hsc
    obtain ⟨E, hE⟩ : ∃ E, m + (n + 8) = E := ⟨_, rfl⟩
    obtain ⟨d, hd⟩ : ∃ d, m + 8 = d := ⟨_, rfl⟩
    obtain ⟨n3, hn3⟩ : ∃ n3, n - 3 = n3 := ⟨_, rfl⟩
    obtain ⟨X, hX⟩ : ∃ X, d + k = X := ⟨_, rfl⟩
    rw [hE] at hc2 hm1
    have s1 : IntKind.i64.wrap ((E : Int) - (n : Int)) = (d : Int) := by rw [IntWalk.i64_in _ (by omega)]; omega
    have s2 : IntKind.i64.wrap ((n : Int) - 3) = (n3 : Int) := by rw [IntWalk.i64_in _ (by omega)]; omega
    have s3 : (yn : Int).tmod (n3 : Int) = (k : Int) := by rw [Int.tmod_eq_emod_of_nonneg (by omega), ← Int.natCast_emod, hn3.symm, hk]
    have s4 : IntKind.i64.wrap ((d : Int) + (k : Int)) = (X : Int) := by rw [IntWalk.i64_in _ (by omega)]; omega
    have s5 : IntKind.i64.wrap ((d : Int) - 8) = (m : Int) := by rw [IntWalk.i64_in _ (by omega)]; omega
    have s6 : ((n3 : Int) == 0) = false := by rw [beq_eq_false_iff_ne]; omega
    have s7 : ¬ ((n3 : Int) = 0) := by omega
    have hXl : X + 4 ≤ (recs l).length := by omega
    have HPX := Lib.hid (show P.length = X by omega)
    have HCC : Hid (∀ w', Fresh w2 w' → w'.cell? ⟨b, o + i, none⟩ = some (.slice A5 n c5) ∧ w'.cell? ⟨p2, o2 + i, none⟩ = some (.int .i64 (E : Int))) := Lib.hid fun w' F =>
      ⟨(F.cell (World.block_lt_of_cell? _ _ hc) (fun f => f)).trans hc, (F.cell (World.block_lt_of_cell? _ _ hc2) (fun f => f)).trans hc2⟩
    have HS1 := Lib.hid s1
    have g1 : ∀ q, (w2.drewN q).cell? ⟨b, o + i, none⟩ = some (.slice A5 n c5) := fun _ => hc
    have g2 : ∀ q, (w2.drewN q).cell? ⟨p2, o2 + i, none⟩ = some (.int .i64 (E : Int)) := fun _ => hc2
    have g3 : ∀ q, (w2.drewN q).cell? ⟨w.heap.size, 1, none⟩ = some (.int .i64 (yn : Int)) := fun _ => cy
    clear hPl hsc hE hd hn3 hX hk hP hpq hp
    go_wp2_with fail
    go_quiet (fail)
    rename_i nq
    have F3 : Fresh w2 (w2.drewN nq) := (Frm.refl _ w2).drewN nq
    obtain ⟨w3, hw3⟩ : ∃ w3, w2.drewN nq = w3 := ⟨_, rfl⟩
    rw [hw3] at F3 ⊢
    have HF3 := Lib.hid F3
    clear hw3 F3 g1 g2 g3 cy hc hc2
    have S0 : Hid (Sl (w3.alloc (.cells #[] 5)) w3.heap.size 5 1 (.slice (some ⟨w3.heap.size, 0, none⟩) 0 0) 0 []) := Lib.hid (sl_new w3 _ [] _ (Nat.le_refl _) (by simp [maxLen]))
    have R1 := Lib.hid (((HS.out.fresh HF3.out).alloc (.cells #[] 5)).rd)
    go_wp2_with (at_builtin; refine wpList_append_sl _ rfl (.tmp 94) (.tmp 95) _ rfl w3.heap.size 5 i0 _ 1 1 Try.underlying22 hi hz0 hz1 hz2 rfl (by omega) _ _ _ rfl S0.out _ _ _ _ _ rfl (by rw [List.length_map, Nat.mul_one]) R1.out (bv_one _) (by unfold maxLen; omega) (by omega) (by simp) ?_; intro v4 w4 hs1 hf1 ha1)
    rw [Nat.zero_add, List.nil_append] at hs1
    have F4 : Fresh w3 w4 := ((Frm.refl _ w3).alloc _).trans' hf1 (fun i hi hk => by have := own_at hk; omega)
    obtain ⟨g, oo, cap4, rfl, hg, hgl, hcap4, hmax4⟩ := hs1.head (by omega)
    have hs2 : Sl w4 w3.heap.size 5 1 (.slice (some ⟨g, oo, none⟩) (recs l).length cap4) (recs l).length ((P ++ [e0, e1, e2, e3] ++ Q).map bv) := by rw [← HP.out]; exact hs1
    obtain ⟨d0, d1, d2, d3⟩ := cell_of4 hs2
    rw [HPX.out] at d0 d1 d2 d3
    have hfz := fun j => hs2.frozen j
    have HS4 := Lib.hid hs2
    have HF4 := Lib.hid F4
    clear hs1 hs2 hf1 ha1 F4
    unfold maxLen at hmax4
    have b0 : X < (recs l).length := by omega
    have b1 : (X : Int) + 1 < ((recs l).length : Int) := by omega
    have b2 : (X : Int) + 2 < ((recs l).length : Int) := by omega
    have b3 : (X : Int) + 3 < ((recs l).length : Int) := by omega
    have x0 : bits .xor .u8 (e0.toNat : Int) ((t.toNat : Int) % 256) = ((e0 ^^^ CrcM.by0 t).toNat : Int) := xor_by e0 t.toNat
    have x1 : bits .xor .u8 (e1.toNat : Int) ((t.toNat : Int) / 256 % 256) = ((e1 ^^^ CrcM.by1 t).toNat : Int) := xor_by e1 (t.toNat / 256)
    have x2 : bits .xor .u8 (e2.toNat : Int) ((t.toNat : Int) / 65536 % 256) = ((e2 ^^^ CrcM.by2 t).toNat : Int) := xor_by e2 (t.toNat / 65536)
    have x3 : bits .xor .u8 (e3.toNat : Int) ((t.toNat : Int) / 16777216) = ((e3 ^^^ CrcM.by3 t).toNat : Int) := by
      have h := xor_by e3 (t.toNat / 16777216)
      have e : (((t.toNat / 16777216 : Nat) : Int) % 256) = (t.toNat : Int) / 16777216 := by omega
      rw [e] at h
      exact h
    generalize e0 ^^^ CrcM.by0 t = y0 at *
    generalize e1 ^^^ CrcM.by1 t = y1 at *
    generalize e2 ^^^ CrcM.by2 t = y2 at *
    generalize e3 ^^^ CrcM.by3 t = y3 at *
    clear s1 s2 s3 s4 s6 s7
    go_simp
    go_wp2_with fail
    have hl4 : ((P ++ [e0, e1, e2, e3] ++ Q).map bv).length = (recs l).length := by rw [List.length_map, ← HP.out]
    have hs3 := (((HS4.out.store (j := X) (by omega) (.int .u8 (y0.toNat : Int))).store (j := X + 1) (by rw [List.length_set]; omega) (.int .u8 (y1.toNat : Int))).store (j := X + 2) (by rw [List.length_set, List.length_set]; omega) (.int .u8 (y2.toNat : Int))).store (j := X + 3) (by rw [List.length_set, List.length_set, List.length_set]; omega) (.int .u8 (y3.toNat : Int))
    have F5 : Fresh w3 ((((w4.setCell ⟨g, oo + X, none⟩ (.int .u8 (y0.toNat : Int))).setCell ⟨g, oo + (X + 1), none⟩ (.int .u8 (y1.toNat : Int))).setCell ⟨g, oo + (X + 2), none⟩ (.int .u8 (y2.toNat : Int))).setCell ⟨g, oo + (X + 3), none⟩ (.int .u8 (y3.toNat : Int))) :=
      (((HF4.out.setCell (p := ⟨g, oo + X, none⟩) (fun h => by simp at h; omega) _).setCell (p := ⟨g, oo + (X + 1), none⟩) (fun h => by simp at h; omega) _).setCell (p := ⟨g, oo + (X + 2), none⟩) (fun h => by simp at h; omega) _).setCell (p := ⟨g, oo + (X + 3), none⟩) (fun h => by simp at h; omega) _
    have hset : ((((((P ++ [e0, e1, e2, e3] ++ Q).map bv).set X (.int .u8 (y0.toNat : Int))).set (X + 1) (.int .u8 (y1.toNat : Int))).set (X + 2) (.int .u8 (y2.toNat : Int))).set (X + 3) (.int .u8 (y3.toNat : Int))) = (P ++ [y0, y1, y2, y3] ++ Q).map bv := by
      rw [← HPX.out]
      exact set4 P Q e0 e1 e2 e3 y0 y1 y2 y3
    rw [hset] at hs3
    generalize (((w4.setCell ⟨g, oo + X, none⟩ (.int .u8 (y0.toNat : Int))).setCell ⟨g, oo + (X + 1), none⟩ (.int .u8 (y1.toNat : Int))).setCell ⟨g, oo + (X + 2), none⟩ (.int .u8 (y2.toNat : Int))).setCell ⟨g, oo + (X + 3), none⟩ (.int .u8 (y3.toNat : Int)) = w5 at *
    have hl5 : (P ++ [y0, y1, y2, y3] ++ Q).length = (recs l).length := by
      rw [List.length_map] at hl4
      rw [← hl4]
      simp
    have hsc := scan_any w5 (some ⟨g, oo, none⟩) cap4 (P ++ [y0, y1, y2, y3] ++ Q) hs3.rd (by omega) (by omega) (by omega)
    rw [hl5] at hsc
    have HSN := Lib.hid hsc
    have HF5 := Lib.hid F5
    clear hsc hs3 hset hl4 hl5 F5 d0 d1 d2 d3 hfz
    refine HSN.out.mono ?_
    rintro e w6 ⟨v6, rfl, hl6, hf6⟩
    obtain ⟨e1, e2⟩ := pair_eq HSC.out
    rw [e1] at hl6
    rw [e2]
    obtain ⟨A7, c7, rfl, h71, h72, r7⟩ := hl6.reads
    have HF6 := Lib.hid ((HF3.out.trans HF5.out).trans hf6)
    have htl : (l.take i).length = i := by rw [List.length_take]; omega
    have hsm := same_any w6 A7 (some ⟨b, o, none⟩) c7 cap (l.take i) r7 ((HB2.out.fresh HF6.out).take i) (by rw [htl]; omega)
    rw [htl] at hsm ⊢
    have HSM := Lib.hid hsm
    obtain ⟨g1, g2⟩ := HCC.out w6 HF6.out
    clear hsm htl hl6 r7 hf6 e1 e2 h71 h72
    have hic : i ≤ cap := by omega
    have hici : (i : Int) ≤ (cap : Int) := by omega
    go_wp2_with fail
    refine HSM.out.mono ?_
    rintro e w7 ⟨rfl, q7, hw7⟩
    have k1 : ∀ q, (w7.drewN q).cell? ⟨b, o + i, none⟩ = some (.slice A5 n c5) := fun q => by rw [hw7]; exact g1
    have k2 : ∀ q, (w7.drewN q).cell? ⟨p2, o2 + i, none⟩ = some (.int .i64 (E : Int)) := fun q => by rw [hw7]; exact g2
    have HF7 : Hid (Fresh w w7) := Lib.hid (by rw [hw7]; exact (HF2.out.trans HF6.out).drewN _)
    clear g1 g2 hw7
    have s1 : IntKind.i64.wrap ((E : Int) - (n : Int)) = (d : Int) := HS1.out
    go_wp2_with fail
    go_quiet (fail)
    go_wp2_with fail
    go_ret
    exact ⟨by simp, Fresh.below (HF7.out.drewN _)⟩
  · go_wp2_with fail
    go_ret
    exact ⟨rfl, Fresh.below (HF0.out.trans (HF1.out.trans hf2))⟩
theorem wf_u32' {n : Int} (h : (Lit.int .u32 n).wf = true) : ∃ t : BitVec 32, n = (t.toNat : Int) := by
  have : 0 ≤ n ∧ n ≤ 4294967295 := by simpa [Lit.wf, IntKind.min, IntKind.max, IntKind.signed, IntKind.bits] using h
  obtain ⟨m, rfl⟩ := Int.eq_ofNat_of_zero_le this.1
  exact ⟨BitVec.ofNat 32 m, by rw [BitVec.toNat_ofNat]; omega⟩
def i64f : List Int → List Value := fun xs => xs.flatMap fun n => [.int .i64 n]
theorem turned_walk (w : World) (s : Option Addr × Nat × List (Option Addr × Nat × List Int)) (hs : IsL w 24 (fun s => [sv s]) (IsL w 1 u8f u8q) s) (xs : List Int) (hx : xs.length = 2 ∧ ∀ x ∈ xs, (Lit.int .i64 x).wf = true) (t : Int) (wt : (Lit.int .u32 t).wf = true) :
    Calls Try.prog 7 #[sv s, .agg (i64f xs).toArray, .int .u32 t] w fun e w' => e = .returned (.bool true) ∧ Below w.heap.size w w' := by
  obtain ⟨bl, hv, hb⟩ := to_bss hs
  have hr := hs.reach
  rw [hv]
  obtain ⟨t, rfl⟩ := wf_u32' wt
  obtain ⟨hx2, hxa⟩ := hx
  obtain ⟨x, y, rfl⟩ : ∃ x y, xs = [x, y] := by
    match xs, hx2 with
    | [x, y], _ => exact ⟨x, y, rfl⟩
  have h := turned_any w s.1 s.2.1 (bl.map (·.2.2)) (bss_lists hb) (by rw [List.length_map]; exact hb.le) (by unfold reachBytes at hr; omega) x y (wf_i64 (hxa x (by simp))).2 (wf_i64 (hxa y (by simp))).2 t
  rw [List.length_map] at h
  exact h
end Go.Proofs.Ytpfelhgihbeeeaa

/- The law CrcBurst, walked. -/
import Derived.Test.YtppcfhlipoiakaaCrcLaws2
namespace Go.Proofs.Ytppcfhlipoiakaa
open Go.RowKit

theorem set4 (p q : List UInt8) (c0 c1 c2 c3 x0 x1 x2 x3 : UInt8) :
    (((((p ++ [c0, c1, c2, c3] ++ q).map bv).set p.length (bv x0)).set (p.length + 1) (bv x1)).set (p.length + 2) (bv x2)).set (p.length + 3) (bv x3) = (p ++ [x0, x1, x2, x3] ++ q).map bv := by
  have e : (p ++ [c0, c1, c2, c3] ++ q).map bv = p.map bv ++ (bv c0 :: bv c1 :: bv c2 :: bv c3 :: q.map bv) := by simp
  have e2 : (p ++ [x0, x1, x2, x3] ++ q).map bv = p.map bv ++ (bv x0 :: bv x1 :: bv x2 :: bv x3 :: q.map bv) := by simp
  have hl : p.length = (p.map bv).length := by simp
  rw [e, e2, hl, List.set_append_right _ _ (Nat.le_refl _), List.set_append_right _ _ (by omega), List.set_append_right _ _ (by omega), List.set_append_right _ _ (by omega)]
  congr 1
  rw [Nat.sub_self, show (p.map bv).length + 1 - (p.map bv).length = 1 by omega, show (p.map bv).length + 2 - (p.map bv).length = 2 by omega, show (p.map bv).length + 3 - (p.map bv).length = 3 by omega]
  rfl
theorem split4 (a : List UInt8) (k : Nat) (h : k + 4 ≤ a.length) : ∃ (p q : List UInt8) (c0 c1 c2 c3 : UInt8), a = p ++ [c0, c1, c2, c3] ++ q ∧ p.length = k := by
  refine ⟨a.take k, a.drop (k + 4), a[k], a[k + 1], a[k + 2], a[k + 3], ?_, by simp; omega⟩
  have e : a.drop k = [a[k], a[k + 1], a[k + 2], a[k + 3]] ++ a.drop (k + 4) := by
    rw [List.drop_eq_getElem_cons (by omega), List.drop_eq_getElem_cons (by omega), List.drop_eq_getElem_cons (by omega), List.drop_eq_getElem_cons (by omega)]
    rfl
  rw [List.append_assoc, ← e, List.take_append_drop]
theorem xor_by (c : UInt8) (n : Nat) : bits .xor .u8 (c.toNat : Int) ((n : Int) % 256) = ((c ^^^ UInt8.ofNat (n % 256)).toNat : Int) := by
  have hc := c.toNat_lt
  have h := u8_xor_nat c.toNat (n % 256) hc (by omega)
  rw [UInt8.toNat_xor, UInt8.toNat_ofNat']
  rw [show n % 256 % 2 ^ 8 = n % 256 by omega]
  exact h
theorem cell_of4 {w : World} {B e g o cap n : Nat} {p q : List UInt8} {c0 c1 c2 c3 : UInt8} (h : Sl w B e 1 (.slice (some ⟨g, o, none⟩) n cap) n ((p ++ [c0, c1, c2, c3] ++ q).map bv)) :
    w.cell? ⟨g, o + p.length, none⟩ = some (.int .u8 (c0.toNat : Int)) ∧ w.cell? ⟨g, o + (p.length + 1), none⟩ = some (.int .u8 (c1.toNat : Int)) ∧ w.cell? ⟨g, o + (p.length + 2), none⟩ = some (.int .u8 (c2.toNat : Int)) ∧ w.cell? ⟨g, o + (p.length + 3), none⟩ = some (.int .u8 (c3.toNat : Int)) := by
  have e : (p ++ [c0, c1, c2, c3] ++ q).map bv = p.map bv ++ (bv c0 :: bv c1 :: bv c2 :: bv c3 :: q.map bv) := by simp
  have hl : (p.map bv).length = p.length := by simp
  have get : ∀ j (hj : j < ((p ++ [c0, c1, c2, c3] ++ q).map bv).length), w.cell? ⟨g, o + j, none⟩ = some (((p ++ [c0, c1, c2, c3] ++ q).map bv)[j]) := fun j hj => h.cell hj
  refine ⟨?_, ?_, ?_, ?_⟩
  · rw [get _ (by simp)]; simp [bv]
  · rw [get _ (by simp)]; simp [bv]
  · rw [get _ (by simp)]; simp [bv]
  · rw [get _ (by simp)]; simp [bv]

set_option maxHeartbeats 1000000 in
theorem burst_walk (w : World) (A : Option Addr) (ca : Nat) (a : List UInt8) (ha : IsBytes w A ca a) (_ : ca ≤ 140737488351232) (at' : Int) (_ : (Lit.int .i64 at').wf = true) (t : Int) (ht : (Lit.int .u32 t).wf = true) :
    Calls Try.prog 7 #[.slice A a.length ca, .int .i64 at', .int .u32 t] w fun e w' => e = .returned (.bool true) ∧ Below w.heap.size w w' := by
  obtain ⟨i0, hi, hz0, hz1, hz2⟩ := info_parts info_u8
  obtain ⟨t, rfl⟩ := wf_u32 ht
  have HA := Lib.hid ha.rd
  clear ha ht
  have hskip : ∀ (_ : a.length < 4 ∨ 1000000 < a.length ∨ at' < 0 ∨ t.toNat = 0), Calls Try.prog 7 #[.slice A a.length ca, .int .i64 at', .int .u32 (t.toNat : Int)] w fun e w' => e = .returned (.bool true) ∧ Below w.heap.size w w' := by
    intro h
    by_cases h1 : a.length < 4
    · go_enter Try.func7, Try.ntmps7
      go_wp2_with fail
      go_ret
      exact ⟨rfl, Below.refl _ _⟩
    by_cases h2 : 1000000 < a.length
    · clear h
      go_enter Try.func7, Try.ntmps7
      go_wp2_with fail
      go_ret
      exact ⟨rfl, Below.refl _ _⟩
    by_cases h3 : at' < 0
    · clear h
      go_enter Try.func7, Try.ntmps7
      go_wp2_with fail
      go_ret
      exact ⟨rfl, Below.refl _ _⟩
    have h4 : ((t.toNat : Int) == 0) = true := by rw [beq_iff_eq]; omega
    clear h
    go_enter Try.func7, Try.ntmps7
    go_wp2_with fail
    go_ret
    exact ⟨rfl, Below.refl _ _⟩
  by_cases h1 : a.length < 4
  · exact hskip (.inl h1)
  by_cases h2 : 1000000 < a.length
  · exact hskip (.inr (.inl h2))
  by_cases h3 : at' < 0
  · exact hskip (.inr (.inr (.inl h3)))
  by_cases h4 : t.toNat = 0
  · exact hskip (.inr (.inr (.inr h4)))
  clear hskip
  have ht0 : t ≠ 0#32 := fun h => h4 (by rw [h]; rfl)
  have h4 : ((t.toNat : Int) == 0) = false := by rw [beq_eq_false_iff_ne]; omega
  obtain ⟨k, hk⟩ : ∃ k : Nat, at' % ((a.length : Int) - 3) = (k : Int) := ⟨(at' % ((a.length : Int) - 3)).toNat, by have := Int.emod_nonneg at' (show (a.length : Int) - 3 ≠ 0 by omega); omega⟩
  have hkl : k + 4 ≤ a.length := by have := Int.emod_lt_of_pos at' (show (0 : Int) < (a.length : Int) - 3 by omega); omega
  obtain ⟨p, q, c0, c1, c2, c3, hapq, hp⟩ := split4 a k hkl
  have HB := Lib.hid (CrcM.sum_burst p q c0 c1 c2 c3 t ht0)
  have HAPQ := Lib.hid hapq
  have HP := Lib.hid hp
  have htl := bv_lt t
  have x0 : bits .xor .u8 (c0.toNat : Int) ((t.toNat : Int) % 256) = ((c0 ^^^ CrcM.by0 t).toNat : Int) := xor_by c0 t.toNat
  have x1 : bits .xor .u8 (c1.toNat : Int) ((t.toNat : Int) / 256 % 256) = ((c1 ^^^ CrcM.by1 t).toNat : Int) := xor_by c1 (t.toNat / 256)
  have x2 : bits .xor .u8 (c2.toNat : Int) ((t.toNat : Int) / 65536 % 256) = ((c2 ^^^ CrcM.by2 t).toNat : Int) := xor_by c2 (t.toNat / 65536)
  have x3 : bits .xor .u8 (c3.toNat : Int) ((t.toNat : Int) / 16777216) = ((c3 ^^^ CrcM.by3 t).toNat : Int) := by
    have h := xor_by c3 (t.toNat / 16777216)
    have e : (((t.toNat / 16777216 : Nat) : Int) % 256) = (t.toNat : Int) / 16777216 := by omega
    rw [e] at h
    exact h
  generalize c0 ^^^ CrcM.by0 t = y0 at *
  generalize c1 ^^^ CrcM.by1 t = y1 at *
  generalize c2 ^^^ CrcM.by2 t = y2 at *
  generalize c3 ^^^ CrcM.by3 t = y3 at *
  clear hapq hp ht0
  go_enter Try.func7, Try.ntmps7
  have S0 := Lib.hid (show Sl (w.alloc (.cells #[] 5)) w.heap.size 5 1 (.slice (some ⟨w.heap.size, 0, none⟩) 0 0) 0 [] from sl_new w _ [] _ (Nat.le_refl _) (by simp [maxLen]))
  have f0 : Fresh w (w.alloc (.cells #[] 5)) := (Frm.refl _ w).alloc _
  go_wp2_with (first
    | (at_builtin; refine wpList_append_sl _ rfl (.tmp 25) (.tmp 26) _ rfl w.heap.size 5 i0 _ 1 1 Try.underlying27 hi hz0 hz1 hz2 rfl (by omega) _ _ _ rfl S0.out _ _ _ _ _ rfl (by simp) (HA.out.alloc (Nat.le_refl _) _) (bv_one _) (by unfold maxLen; omega) (by omega) (by simp) ?_; intro v1 w2 hs1 hf1 ha1))
  have F2 : Fresh w w2 := f0.trans' hf1 (fun i hi hk => by have := own_at hk; omega)
  have HA2 := Lib.hid ((HA.out.fresh (Nat.le_refl _) F2).more F2.size)
  rw [Nat.zero_add, List.nil_append] at hs1
  obtain ⟨g, o, cap, rfl, hg, hgl, hcap, hmax⟩ := hs1.head (by omega)
  have hs2 : Sl w2 w.heap.size 5 1 (.slice (some ⟨g, o, none⟩) a.length cap) a.length ((p ++ [c0, c1, c2, c3] ++ q).map bv) := by rw [← HAPQ.out]; exact hs1
  obtain ⟨d0, d1, d2, d3⟩ := cell_of4 hs2
  rw [HP.out] at d0 d1 d2 d3
  have hfz := fun j => hs2.frozen j
  have HS := Lib.hid hs2
  clear hs1 hs2 hf1 ha1
  unfold maxLen at hmax
  have b0 : k < a.length := by omega
  have b1 : (k : Int) + 1 < (a.length : Int) := by omega
  have b2 : (k : Int) + 2 < (a.length : Int) := by omega
  have b3 : (k : Int) + 3 < (a.length : Int) := by omega
  go_simp
  go_wp2_with fail
  have hs3 := (((HS.out.store (j := k) (by rw [← HAPQ.out, List.length_map]; omega) (.int .u8 (y0.toNat : Int))).store (j := k + 1) (by rw [List.length_set, ← HAPQ.out, List.length_map]; omega) (.int .u8 (y1.toNat : Int))).store (j := k + 2) (by rw [List.length_set, List.length_set, ← HAPQ.out, List.length_map]; omega) (.int .u8 (y2.toNat : Int))).store (j := k + 3) (by rw [List.length_set, List.length_set, List.length_set, ← HAPQ.out, List.length_map]; omega) (.int .u8 (y3.toNat : Int))
  have F3 : Fresh w ((((w2.setCell ⟨g, o + k, none⟩ (.int .u8 (y0.toNat : Int))).setCell ⟨g, o + (k + 1), none⟩ (.int .u8 (y1.toNat : Int))).setCell ⟨g, o + (k + 2), none⟩ (.int .u8 (y2.toNat : Int))).setCell ⟨g, o + (k + 3), none⟩ (.int .u8 (y3.toNat : Int))) :=
    (((F2.setCell (p := ⟨g, o + k, none⟩) (fun h => by simp at h; omega) _).setCell (p := ⟨g, o + (k + 1), none⟩) (fun h => by simp at h; omega) _).setCell (p := ⟨g, o + (k + 2), none⟩) (fun h => by simp at h; omega) _).setCell (p := ⟨g, o + (k + 3), none⟩) (fun h => by simp at h; omega) _
  have hset : ((((((p ++ [c0, c1, c2, c3] ++ q).map bv).set k (.int .u8 (y0.toNat : Int))).set (k + 1) (.int .u8 (y1.toNat : Int))).set (k + 2) (.int .u8 (y2.toNat : Int))).set (k + 3) (.int .u8 (y3.toNat : Int))) = (p ++ [y0, y1, y2, y3] ++ q).map bv := by
    rw [← HP.out]
    exact set4 p q c0 c1 c2 c3 y0 y1 y2 y3
  rw [hset] at hs3
  have HS3 := Lib.hid hs3
  have HA3 := Lib.hid ((HA.out.fresh (Nat.le_refl _) F3).more F3.size)
  clear hs3 hset d0 d1 d2 d3 hfz
  generalize (((w2.setCell ⟨g, o + k, none⟩ (.int .u8 (y0.toNat : Int))).setCell ⟨g, o + (k + 1), none⟩ (.int .u8 (y1.toNat : Int))).setCell ⟨g, o + (k + 2), none⟩ (.int .u8 (y2.toNat : Int))).setCell ⟨g, o + (k + 3), none⟩ (.int .u8 (y3.toNat : Int)) = w3 at *
  refine (sum_any _ _ a _ HA3.out (by omega)).mono ?_
  rintro e w4 ⟨rfl, F4⟩
  go_wp2_with fail
  refine (sum_sl (bs := p ++ [y0, y1, y2, y3] ++ q) (HS3.out.fresh F4) rfl (by have := congrArg List.length HAPQ.out; simp at this ⊢; omega)).mono ?_
  rintro e w5 ⟨rfl, F5⟩
  have hne : (((CrcM.sum a).toNat : Int) != ((CrcM.sum (p ++ [y0, y1, y2, y3] ++ q)).toNat : Int)) = true := by
    rw [bne_iff_ne]
    intro h
    apply HB.out
    rw [← HAPQ.out]
    exact BitVec.eq_of_toNat_eq (by omega)
  have HN := Lib.hid hne
  clear hne
  generalize CrcM.sum (p ++ [y0, y1, y2, y3] ++ q) = s2 at *
  go_wp2_with fail
  go_ret
  exact ⟨congrArg (fun b => Ending.returned (.bool b)) HN.out, Fresh.below ((F3.trans F4).trans F5)⟩
end Go.Proofs.Ytppcfhlipoiakaa

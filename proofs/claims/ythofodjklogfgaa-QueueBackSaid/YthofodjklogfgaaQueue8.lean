/- slices.Delete, of one. -/
import Derived.Test.YthofodjklogfgaaQueue7
namespace Go.Proofs.Ythofodjklogfgaa
open Go.RowKit QueueM
attribute [local go_sem ↓] Go.wp_at_zero Go.wp_at_succ

theorem zero_w (w : World) : (zeroValue 62).run Try.prog w = .ok (.agg #[.int .i64 0, .int .i64 0, .int .i64 0, .int .i64 0, .float .f64 0]) w := by kernel_rfl
theorem zero_one : ∀ u ∈ (Value.agg #[.int .i64 0, .int .i64 0, .int .i64 0, .int .i64 0, .float .f64 0]).cells.toList, u.oneCell' = true := wcells_one [⟨0, 0, 0, 0, 0⟩]
theorem del_cells {cur cur2 cur3 : Array Value} {o i m z : Nat} {xs : List Value} (hx : xs.length = (i + 1 + m) * 5) (hc : ∀ (j : Nat) (u : Value), xs[j]? = some u → cur[o + j]? = some u)
    (h2 : ∀ (j : Nat), j < o + i * 5 ∨ z ≤ j → cur2[j]? = cur[j]?) (k2 : ∀ (j : Nat) (u : Value), (xs.drop ((i + 1) * 5))[j]? = some u → cur2[o + i * 5 + j]? = some u)
    {z3 : Nat} (h3 : ∀ (j : Nat), j < o + (i + m) * 5 ∨ z3 ≤ j → cur3[j]? = cur2[j]?) :
    ∀ (j : Nat) (u : Value), (xs.take (i * 5) ++ xs.drop ((i + 1) * 5))[j]? = some u → cur3[o + j]? = some u := by
  intro j u hu
  have htl : (xs.take (i * 5)).length = i * 5 := by rw [List.length_take]; omega
  have hj0 := (List.getElem?_eq_some_iff.1 hu).1
  rw [List.length_append, htl, List.length_drop] at hj0
  rw [h3 _ (.inl (by omega))]
  rw [List.getElem?_append] at hu
  split at hu
  · rename_i hj
    rw [htl] at hj
    rw [List.getElem?_take, if_pos hj] at hu
    rw [h2 _ (.inl (by omega))]
    exact hc j u hu
  · rename_i hj
    rw [htl] at hj hu
    have := k2 _ u hu
    rw [show o + i * 5 + (j - i * 5) = o + j by omega] at this
    exact this
set_option maxHeartbeats 4000000 in
set_option maxRecDepth 100000 in
theorem delete_any (w : World) (B : Nat) (v : Value) (n : Nat) (xs : List Value) (hs : Sl w B 62 5 v n xs) (hn : n ≤ 1000) (i : Nat) (hin : i < n) (h1s : ∀ u ∈ xs, u.oneCell' = true) :
    Calls Try.prog 29 #[v, .int .i64 (i : Int), .int .i64 ((i : Int) + 1)] w fun e w' => InsPost w B v (n - 1) (xs.take (i * 5) ++ xs.drop ((i + 1) * 5)) e w' := by
  obtain ⟨i0, hi, hz0, hz1, hz2⟩ := info_parts info_w
  obtain ⟨g, o, cap, rfl, _, _, hnc, hcm⟩ := hs.head (by omega)
  obtain ⟨_, hBg, _, _, cur, hblk, hsz, hc⟩ := hs.open'
  have hxsl := hs.1
  unfold maxLen at hcm
  obtain ⟨m, hm⟩ : ∃ m, n - (i + 1) = m := ⟨_, rfl⟩
  obtain ⟨n', hn'⟩ : ∃ n', n - 1 = n' := ⟨_, rfl⟩
  rw [hn']
  have him : i + m = n' := by omega
  have hxs2 : xs.length = (i + 1 + m) * 5 := by rw [hxsl, show i + 1 + m = n by omega]
  have HX2 := Lib.hid hxs2
  have HC := Lib.hid hc
  have HM := Lib.hid hm
  have HIM := Lib.hid him
  have hdl : (xs.drop ((i + 1) * 5)).length = m * 5 := by rw [List.length_drop, hxs2, Nat.add_mul]; omega
  have H1 := Lib.hid (fun u (hu : u ∈ xs.drop ((i + 1) * 5)) => h1s u (List.mem_of_mem_drop hu))
  have hblk' : Blk w.drew g 62 cur := hblk
  have HB := Lib.hid hblk'
  have HDL := Lib.hid hdl
  have hfit : o + i * 5 + m * 5 ≤ cur.size := by omega
  have q1 : ¬ ((i : Int) = (i : Int) + 1) := by omega
  have q2 : (0 : Int) ≤ (i : Int) := by omega
  have q3 : (i : Int) + 1 ≤ (n : Int) := by omega
  have q4 : (i : Int) ≤ (n : Int) := by omega
  have q5 : (i : Int) ≤ (i : Int) + 1 := by omega
  have q6 : (n : Int) ≤ (cap : Int) := by omega
  have w2' : ((i : Int) + 1).toNat = i + 1 := by omega
  have w3 : (0 : Int) ≤ (i : Int) + 1 := by omega
  have q7 : (n' : Int) ≤ (n : Int) := by omega
  have q8 : n - n' = 1 := by omega
  have q9 : ¬ (cap = n') := by omega
  have q10 : (0 : Int) ≤ (n' : Int) := by omega
  have q11 : (n' : Int) ≤ (cap : Int) := by omega
  have q12 : ¬ (n = i) := by omega
  have q13 : i ≤ cap := by omega
  have q14 : n ≤ cap := by omega
  have q15 : n' ≤ n := by omega
  have q16 : n' ≤ cap := by omega
  by_cases hci : cap = i + 1
  · have hm0 : m = 0 := by omega
    have hsrc : ∀ j v, (xs.drop ((i + 1) * 5))[j]? = some v → w.drew.cell? ((⟨g, o, none⟩ : Addr).add j) = some v := fun j v hj => by
      have := (List.getElem?_eq_some_iff.1 hj).1
      omega
    have HM0 := Lib.hid hm0
    clear hm0
    have HSRC := Lib.hid hsrc
    clear hsrc hdl hc hblk hblk' hxsl hxs2 hn' him hs h1s
    have hnm : n - cap = m := by omega
    have hci' : i + 1 = cap := by omega
    have HCI := Lib.hid hci'
    clear hm hci
    go_enter Try.func29, Try.ntmps29
    go_wp2_with fail
    go_region_law (refine step_append_in (P := Try.prog) w.drew rfl (.tmp 22) (.tmp 25) _ rfl 62 i0 5 Try.underlying58 hi hz1 g o i cap (by simp [Act.eval, Act.put]) ⟨g, o, none⟩ m 0 (by simp [Act.eval, Act.put]) (xs.drop ((i + 1) * 5)) HDL.out HSRC.out H1.out (by omega) n' HIM.out 62 cur HB.out (by rw [HDL.out]; exact hfit) ?_; intro w2 cur2 hb2 hz2' ho2 hi2 hf2)
    have HB2 := Lib.hid hb2
    have HO2 := Lib.hid ho2
    have HI2 := Lib.hid hi2
    have HF2 := Lib.hid hf2
    have hfit2 : o + n' * 5 + 1 * 5 ≤ cur2.size := by omega
    have hcap2 : o + cap * 5 ≤ cur2.size := by omega
    clear hb2 ho2 hi2 hf2 hz2'
    go_wp2_with (with_reducible refine wpList_clear_blk (P := Try.prog) w2 rfl (.tmp 31) _ rfl 62 5 _ Try.underlying58 zero_w rfl zero_one g (o + n' * 5) 1 (cap - n') (by simp [Act.eval, Act.put]) (by omega) 62 cur2 HB2.out hfit2 ?_; intro w3 cur3 hb3 hz3 ho3 hf3)
    have hcells := del_cells (i := i) (m := m) HX2.out HC.out HO2.out HI2.out (cur3 := cur3) (z3 := o + n' * 5 + 1 * 5) (by rw [HIM.out]; exact ho3)
    have HSL : Hid (Sl w3 B 62 5 (.slice (some ⟨g, o, none⟩) n' cap) n' (xs.take (i * 5) ++ xs.drop ((i + 1) * 5))) := Lib.hid (Sl.mk' hBg hb3 (by
      have h1 := HX2.out
      have h2 := HIM.out
      rw [List.length_append, List.length_take, List.length_drop]
      omega) (by omega) (by unfold maxLen; omega) (by omega) hcells)
    have HFF : Hid (Frm (fun k => (Value.slice (some ⟨g, o, none⟩) n cap).ownBlock = some k) w w3) := Lib.hid ((((Frm.refl _ w).drew).trans HF2.out).trans hf3 |>.mono (fun k _ h => by subst h; rfl))
    clear hcells hb3 hz3 ho3 hf3
    go_wp2_with fail
    go_ret
    exact ⟨_, rfl, HSL.out, HFF.out, .inl rfl⟩
  · have hsrc : ∀ j v, (xs.drop ((i + 1) * 5))[j]? = some v → w.drew.cell? ((⟨g, o + (i + 1) * 5, none⟩ : Addr).add j) = some v := fun j v hj => by
      rw [Addr.add_lit, show w.drew.cell? ⟨g, o + (i + 1) * 5 + j, none⟩ = w.cell? ⟨g, o + (i + 1) * 5 + j, none⟩ from rfl, hblk.cell, Nat.add_assoc]
      exact hc _ _ (by rwa [List.getElem?_drop] at hj)
    have HSRC := Lib.hid hsrc
    clear hsrc hdl hc hblk hblk' hxsl hxs2 hn' him hs h1s
    go_enter Try.func29, Try.ntmps29
    go_wp2_with fail
    go_region_law (refine step_append_in (P := Try.prog) w.drew rfl (.tmp 22) (.tmp 25) _ rfl 62 i0 5 Try.underlying58 hi hz1 g o i cap (by simp [Act.eval, Act.put]) ⟨g, o + (i + 1) * 5, none⟩ m (cap - (i + 1)) (by simp [Act.eval, Act.put]) (xs.drop ((i + 1) * 5)) HDL.out HSRC.out H1.out (by omega) n' HIM.out 62 cur HB.out (by rw [HDL.out]; exact hfit) ?_; intro w2 cur2 hb2 hz2' ho2 hi2 hf2)
    have HB2 := Lib.hid hb2
    have HO2 := Lib.hid ho2
    have HI2 := Lib.hid hi2
    have HF2 := Lib.hid hf2
    have hfit2 : o + n' * 5 + 1 * 5 ≤ cur2.size := by omega
    have hcap2 : o + cap * 5 ≤ cur2.size := by omega
    clear hb2 ho2 hi2 hf2 hz2'
    go_wp2_with (with_reducible refine wpList_clear_blk (P := Try.prog) w2 rfl (.tmp 31) _ rfl 62 5 _ Try.underlying58 zero_w rfl zero_one g (o + n' * 5) 1 (cap - n') (by simp [Act.eval, Act.put]) (by omega) 62 cur2 HB2.out hfit2 ?_; intro w3 cur3 hb3 hz3 ho3 hf3)
    have hcells := del_cells (i := i) (m := m) HX2.out HC.out HO2.out HI2.out (cur3 := cur3) (z3 := o + n' * 5 + 1 * 5) (by rw [HIM.out]; exact ho3)
    have HSL : Hid (Sl w3 B 62 5 (.slice (some ⟨g, o, none⟩) n' cap) n' (xs.take (i * 5) ++ xs.drop ((i + 1) * 5))) := Lib.hid (Sl.mk' hBg hb3 (by
      have h1 := HX2.out
      have h2 := HIM.out
      rw [List.length_append, List.length_take, List.length_drop]
      omega) (by omega) (by unfold maxLen; omega) (by omega) hcells)
    have HFF : Hid (Frm (fun k => (Value.slice (some ⟨g, o, none⟩) n cap).ownBlock = some k) w w3) := Lib.hid ((((Frm.refl _ w).drew).trans HF2.out).trans hf3 |>.mono (fun k _ h => by subst h; rfl))
    clear hcells hb3 hz3 ho3 hf3
    go_wp2_with fail
    go_ret
    exact ⟨_, rfl, HSL.out, HFF.out, .inl rfl⟩
end Go.Proofs.Ythofodjklogfgaa

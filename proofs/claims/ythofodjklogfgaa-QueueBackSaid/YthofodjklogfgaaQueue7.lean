/- slices.Insert, of one more, ahead of others, where there is no room; all its ways together. -/
import Derived.Test.YthofodjklogfgaaQueue6
namespace Go.Proofs.Ythofodjklogfgaa
open Go.RowKit QueueM
attribute [local go_sem ↓] Go.wp_at_zero Go.wp_at_succ

theorem ins_cells2 {cur cur4 cur5 : Array Value} {i z : Nat} {xs cx : List Value} (hix : i * 5 ≤ xs.length) (hxl : cx.length = 5) (hc : ∀ (j : Nat) (u : Value), (xs.take (i * 5))[j]? = some u → cur[j]? = some u)
    (h4 : ∀ (j : Nat), j < i * 5 ∨ i * 5 + cx.length ≤ j → cur4[j]? = cur[j]?) (k4 : ∀ (j : Nat) (u : Value), cx[j]? = some u → cur4[i * 5 + j]? = some u)
    (h5 : ∀ (j : Nat), j < (i + 1) * 5 ∨ z ≤ j → cur5[j]? = cur4[j]?) (k5 : ∀ (j : Nat) (u : Value), (xs.drop (i * 5))[j]? = some u → cur5[(i + 1) * 5 + j]? = some u) :
    ∀ (j : Nat) (u : Value), (xs.take (i * 5) ++ cx ++ xs.drop (i * 5))[j]? = some u → cur5[0 + j]? = some u := by
  intro j u hu
  rw [Nat.zero_add]
  have htl : (xs.take (i * 5)).length = i * 5 := by rw [List.length_take]; omega
  rw [List.append_assoc, List.getElem?_append] at hu
  split at hu
  · rename_i hj
    rw [htl] at hj
    rw [h5 _ (.inl (by omega)), h4 _ (.inl (by omega))]
    exact hc j u hu
  · rename_i hj
    rw [htl] at hj hu
    rw [List.getElem?_append] at hu
    split at hu
    · rename_i hj2
      have := k4 _ u hu
      rw [show i * 5 + (j - i * 5) = j by omega] at this
      rw [h5 _ (.inl (by omega))]
      exact this
    · rename_i hj2
      rw [hxl] at hj2 hu
      have := k5 _ u hu
      rw [show (i + 1) * 5 + (j - i * 5 - 5) = j by omega] at this
      exact this
set_option maxHeartbeats 4000000 in
set_option maxRecDepth 100000 in
theorem insert_grow (w : World) (B : Nat) (g o n : Nat) (xs : List Value) (hs : Sl w B 62 5 (.slice (some ⟨g, o, none⟩) n n) n xs) (hn : n ≤ 1000) (hB : B ≤ w.heap.size) (i : Nat) (hin : i < n) (h1s : ∀ u ∈ xs, u.oneCell' = true)
    (gx : Nat) (cx : List Value) (hx : Blk w gx 62 cx.toArray) (hxl : cx.length = 5) (h1x : ∀ u ∈ cx, u.oneCell' = true) :
    Calls Try.prog 27 #[.slice (some ⟨g, o, none⟩) n n, .int .i64 (i : Int), .slice (some ⟨gx, 0, none⟩) 1 1] w fun e w' => InsPost w B (.slice (some ⟨g, o, none⟩) n n) (n + 1) (xs.take (i * 5) ++ cx ++ xs.drop (i * 5)) e w' := by
  obtain ⟨i0, hi, hz0, hz1, hz2⟩ := info_parts info_w
  obtain ⟨_, hBg, hnc, hcm, cur, hblk, hsz, hc⟩ := hs.open'
  have hxsl := hs.1
  have hglt := hblk.lt
  have hxlt := hx.lt
  unfold maxLen at hcm
  obtain ⟨k, hk⟩ : ∃ k, n + 1 - i = k := ⟨_, rfl⟩
  have hik : i + k = n + 1 := by omega
  obtain ⟨c, cur1, hrun, hc1, hc2, hc3, hc4⟩ := run_append_zeros (P := Try.prog) w 58 3 58 62 i0 _ 5 40 .i64 .i64 Try.underlying58 Try.underlying3 hi hz0 hz1 hz2 rfl (by omega) B i n k g o _ (hs.cutN (k := i) (by omega)) (by omega) (by omega) (by unfold maxLen; omega) (by omega)
  rw [hik] at hrun hc1
  unfold maxLen at hc2
  have B1 : Blk (w.drew.alloc (.cells cur1 62)) w.heap.size 62 cur1 := Blk.new w.drew _ _
  have F1 : Fresh w (w.drew.alloc (.cells cur1 62)) := ((Frm.refl _ w).drew).alloc _
  have X1 : Blk (w.drew.alloc (.cells cur1 62)) gx 62 cx.toArray := hx.frm F1 (fun f => f)
  have G1 : Blk (w.drew.alloc (.cells cur1 62)) g 62 cur := hblk.frm F1 (fun f => f)
  generalize w.drew.alloc (.cells cur1 62) = w1 at hrun B1 F1 X1 G1
  obtain ⟨N, hN⟩ : ∃ N, w.heap.size = N := ⟨_, rfl⟩
  rw [hN] at hrun B1 hglt hxlt hB
  have HRUN := Lib.hid hrun
  have HB1 := Lib.hid B1
  have HF1 := Lib.hid F1
  have HX1 := Lib.hid X1
  have HG1 := Lib.hid G1
  have HC := Lib.hid hc
  have HC4 := Lib.hid hc4
  have HXL := Lib.hid hxl
  have H1X := Lib.hid h1x
  have H1 := Lib.hid (fun u (hu : u ∈ xs.drop (i * 5)) => h1s u (List.mem_of_mem_drop hu))
  have HXS := Lib.hid hxsl
  have hsrc : ∀ j v, cx[j]? = some v → w1.cell? ((⟨gx, 0, none⟩ : Addr).add j) = some v := fun j v hj => by
    rw [Addr.add_lit, Nat.zero_add, X1.cell]
    simpa using hj
  have hmin : Nat.min 1 k = 1 := by simp only [Nat.min_def]; split <;> omega
  have HSRC := Lib.hid hsrc
  have HMIN := Lib.hid hmin
  have q1 : ¬ (i : Int) = (n : Int) := by omega
  have q2 : (n : Int) < (n : Int) + 1 := by omega
  have q4 : (0 : Int) ≤ (i : Int) := by omega
  have q5 : ¬ (c = i + 1) := by omega
  have q6 : ¬ (c = i) := by omega
  have q7 : (i : Int) ≤ (n : Int) := by omega
  have q8 : ¬ (n = i) := by omega
  have q9 : (i : Int) ≤ (n : Int) + 1 := by omega
  have hkk : (n : Int) + 1 - (i : Int) = (k : Int) := by omega
  have w1' : IntKind.i64.wrap ((i : Int) + 1) = (i : Int) + 1 := IntWalk.i64_in _ (by omega)
  have w2' : ((i : Int) + 1).toNat = i + 1 := by omega
  have w3 : (0 : Int) ≤ (i : Int) + 1 := by omega
  have w4 : (i : Int) + 1 ≤ (n : Int) + 1 := by omega
  have hfit : 0 + i * 5 + 5 ≤ cur1.size := by omega
  have hfit' : i * 5 + 5 ≤ cur1.size := by omega
  have hcsz : (n + 1) * 5 ≤ cur1.size := by omega
  clear hrun B1 F1 X1 G1 hc hc4 hxl h1x hs hx hblk hxsl hsrc hmin
  go_enter Try.func27, Try.ntmps27
  go_wp2_with (first
    | (at_builtin; refine Lib.wpList_append_run _ rfl (.tmp 34) (.tmp 39) _ _ rfl _ _ rfl rfl _ _ HRUN.out ?_)
    | (with_reducible refine wpList_copy_blk (P := Try.prog) w1 rfl (.tmp 43) (.tmp 44) _ _ rfl 62 5 Try.underlying58 size_w N (i * 5) k (c - i) ⟨gx, 0, none⟩ 1 1 (by simp [Act.eval, Act.put]) (by simp [Act.eval, Act.put]) 62 cur1 HB1.out cx (by rw [HXL.out, HMIN.out]) HSRC.out (by rw [HXL.out]; exact hfit') H1X.out ?_; intro w2 cur2 hb2 hz2' ho2 hi2 hf2))
  have G2 : Blk w2 g 62 cur := HG1.out.frm hf2 (fun h => by omega)
  have hdl : (xs.drop (i * 5)).length = (n - i) * 5 := by rw [List.length_drop, HXS.out, Nat.sub_mul]
  have hmin2 : Nat.min (n - i) (n - i) = n - i := Nat.min_self _
  have hsrc2 : ∀ j v, (xs.drop (i * 5))[j]? = some v → w2.drew.cell? ((⟨g, o + i * 5, none⟩ : Addr).add j) = some v := fun j v hj => by
    rw [Addr.add_lit, show w2.drew.cell? ⟨g, o + i * 5 + j, none⟩ = w2.cell? ⟨g, o + i * 5 + j, none⟩ from rfl, G2.cell, Nat.add_assoc]
    exact HC.out _ _ (by rwa [List.getElem?_drop] at hj)
  have hb2' : Blk w2.drew N 62 cur2 := hb2
  have HB2 := Lib.hid hb2'
  have HDL := Lib.hid hdl
  have HMIN2 := Lib.hid hmin2
  have HSRC2 := Lib.hid hsrc2
  have HO2 := Lib.hid ho2
  have HI2 := Lib.hid hi2
  have HF2 := Lib.hid hf2
  have hfit2 : (i + 1) * 5 + (n - i) * 5 ≤ cur2.size := by omega
  have hsz2 : 0 + c * 5 ≤ cur2.size := by omega
  clear G2 hdl hmin2 hsrc2 hb2 hb2' ho2 hi2 hf2 hz2' hkk hc3
  go_region_law (refine step_copy_blk (P := Try.prog) w2.drew rfl (.tmp 50) (.tmp 53) _ _ rfl 62 5 Try.underlying58 size_w N ((i + 1) * 5) (n - i) (c - (i + 1)) ⟨g, o + i * 5, none⟩ (n - i) (n - i) (by simp [Act.eval, Act.put]) (by simp [Act.eval, Act.put]) 62 cur2 HB2.out (xs.drop (i * 5)) (by rw [HDL.out, HMIN2.out]) HSRC2.out (by rw [HDL.out]; exact hfit2) H1.out ?_; intro w3 cur3 hb3 hz3 ho3 hi3 hf3)
  have hcells := ins_cells2 (by have := HXS.out; omega) HXL.out HC4.out HO2.out HI2.out ho3 hi3
  have HSL : Hid (Sl w3 B 62 5 (.slice (some ⟨N, 0, none⟩) (n + 1) c) (n + 1) (xs.take (i * 5) ++ cx ++ xs.drop (i * 5))) := Lib.hid (Sl.mk' hB hb3 (by
    have := HXS.out
    rw [List.length_append, List.length_append, List.length_take, List.length_drop, HXL.out]
    omega) hc1 (by unfold maxLen; omega) (by omega) hcells)
  have HFF : Hid (Frm (fun k => (Value.slice (some ⟨g, o, none⟩) n n).ownBlock = some k) w w3) := Lib.hid (((HF1.out.trans' HF2.out (fun j h1 h2 => by omega)).drew).trans' hf3 (fun j h1 h2 => by omega) |>.mono (fun _ _ h => h.elim))
  clear hcells hb3 hz3 ho3 hi3 hf3
  go_wp2_with fail
  go_ret
  exact ⟨_, rfl, HSL.out, HFF.out, .inr ⟨N, rfl, by omega⟩⟩
/-- all ways together -/
theorem insert_any (w : World) (B : Nat) (v : Value) (n : Nat) (xs : List Value) (hs : Sl w B 62 5 v n xs) (hB : B ≤ w.heap.size) (hn : n ≤ 1000) (i : Nat) (hin : i ≤ n) (h1s : ∀ u ∈ xs, u.oneCell' = true)
    (gx : Nat) (cx : List Value) (hx : Blk w gx 62 cx.toArray) (hxl : cx.length = 5) (h1x : ∀ u ∈ cx, u.oneCell' = true) (hne : v.ownBlock ≠ some gx) :
    Calls Try.prog 27 #[v, .int .i64 (i : Int), .slice (some ⟨gx, 0, none⟩) 1 1] w fun e w' => InsPost w B v (n + 1) (xs.take (i * 5) ++ cx ++ xs.drop (i * 5)) e w' := by
  have hl := hs.1
  rcases Nat.eq_or_lt_of_le hin with rfl | hlt
  · have h := insert_end w B v i xs hs hB hn gx cx hx hxl h1x
    rw [← hl, List.take_length, List.drop_length, List.append_nil]
    exact h
  · obtain ⟨g, o, cap, rfl, _, _, hnc, _⟩ := hs.head (by omega)
    have hne' : gx ≠ g := fun h => hne (by rw [h]; rfl)
    rcases Nat.eq_or_lt_of_le hnc with rfl | hr
    · exact insert_grow w B g o n xs hs hn hB i hlt h1s gx cx hx hxl h1x
    · exact insert_shift w B g o n cap xs hs hn i hlt hr h1s gx cx hx hxl h1x hne'
end Go.Proofs.Ythofodjklogfgaa

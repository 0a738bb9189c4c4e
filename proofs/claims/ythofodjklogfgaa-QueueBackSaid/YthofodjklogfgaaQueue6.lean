/- slices.Insert, of one more, ahead of others, where there is room. -/
import Derived.Test.YthofodjklogfgaaQueue5
namespace Go.Proofs.Ythofodjklogfgaa
open Go.RowKit QueueM
attribute [local go_sem ↓] Go.wp_at_zero Go.wp_at_succ

theorem hov_any (w : World) (gx g : Nat) (cx cur : Array Value) (off lb cb : Nat) (hx : Blk w gx 62 cx) (hb : Blk w g 62 cur) (hk : 0 < cur.size) (hne : gx ≠ g) :
    (callFunc 51 #[.slice (some ⟨gx, 0, none⟩) 1 1, .slice (some ⟨g, off, none⟩) lb cb]).run Try.prog w = .ok (.value (.bool false)) w := by
  have hA : w.shape? gx = some (62, cx.size) := by unfold Blk at hx; simp [World.shape?, hx]
  have hB : w.shape? g = some (62, cur.size) := by unfold Blk at hb; simp [World.shape?, hb]
  rw [run_callFunc_extern Try.func51 (by kernel_rfl) (by kernel_rfl) (by kernel_rfl) (e := Extern.SlicesOverlaps.overlaps #[58, 58] #[4]) (by kernel_rfl),
    Lib.run_overlaps_apart w 58 4 62 Try.underlying58 5 sizeOf_w ⟨gx, 0, none⟩ ⟨g, off, none⟩ 1 1 lb cb hne _ _ _ _ hA hB (by omega) (hx.frozen 0) (hx.frozen _)]
  rfl
theorem ins_cells {cur cur4 cur5 : Array Value} {o i z : Nat} {xs cx : List Value} (hix : i * 5 ≤ xs.length) (hxl : cx.length = 5) (hc : ∀ j u, xs[j]? = some u → cur[o + j]? = some u)
    (h4 : ∀ j, j < o + (i + 1) * 5 ∨ z ≤ j → cur4[j]? = cur[j]?) (k4 : ∀ j u, (xs.drop (i * 5))[j]? = some u → cur4[o + (i + 1) * 5 + j]? = some u)
    (h5 : ∀ j, j < o + i * 5 ∨ o + i * 5 + cx.length ≤ j → cur5[j]? = cur4[j]?) (k5 : ∀ j u, cx[j]? = some u → cur5[o + i * 5 + j]? = some u) :
    ∀ j u, (xs.take (i * 5) ++ cx ++ xs.drop (i * 5))[j]? = some u → cur5[o + j]? = some u := by
  intro j u hu
  have htl : (xs.take (i * 5)).length = i * 5 := by rw [List.length_take]; omega
  rw [List.append_assoc, List.getElem?_append] at hu
  split at hu
  · rename_i hj
    rw [htl] at hj
    rw [List.getElem?_take, if_pos hj] at hu
    rw [h5 _ (.inl (by omega)), h4 _ (.inl (by omega))]
    exact hc j u hu
  · rename_i hj
    rw [htl] at hj hu
    rw [List.getElem?_append] at hu
    split at hu
    · rename_i hj2
      have := k5 _ u hu
      rw [show o + i * 5 + (j - i * 5) = o + j by omega] at this
      exact this
    · rename_i hj2
      rw [hxl] at hj2 hu
      have := k4 _ u hu
      rw [show o + (i + 1) * 5 + (j - i * 5 - 5) = o + j by omega] at this
      rw [h5 _ (.inr (by omega))]
      exact this
set_option maxHeartbeats 4000000 in
set_option maxRecDepth 100000 in
theorem insert_shift (w : World) (B : Nat) (g o n cap : Nat) (xs : List Value) (hs : Sl w B 62 5 (.slice (some ⟨g, o, none⟩) n cap) n xs) (hn : n ≤ 1000) (i : Nat) (hin : i < n) (hroom : n + 1 ≤ cap) (h1s : ∀ u ∈ xs, u.oneCell' = true)
    (gx : Nat) (cx : List Value) (hx : Blk w gx 62 cx.toArray) (hxl : cx.length = 5) (h1x : ∀ u ∈ cx, u.oneCell' = true) (hne : gx ≠ g) :
    Calls Try.prog 27 #[.slice (some ⟨g, o, none⟩) n cap, .int .i64 (i : Int), .slice (some ⟨gx, 0, none⟩) 1 1] w fun e w' => InsPost w B (.slice (some ⟨g, o, none⟩) n cap) (n + 1) (xs.take (i * 5) ++ cx ++ xs.drop (i * 5)) e w' := by
  obtain ⟨_, hBg, hnc, hcm, cur, hblk, hsz, hc⟩ := hs.open'
  have hxsl := hs.1
  unfold maxLen at hcm
  have hov := fun off lb cb => hov_any w gx g cx.toArray cur off lb cb hx hblk (by omega) hne
  have q1 : ¬ (i : Int) = (n : Int) := by omega
  have q2 : ¬ (cap : Int) < (n : Int) + 1 := by omega
  have q3 : (i : Int) + 1 ≤ (n : Int) + 1 := by omega
  have q4 : (0 : Int) ≤ (i : Int) := by omega
  have q5 : ¬ (cap = i + 1) := by omega
  have q6 : ¬ (cap = i) := by omega
  have q7 : (i : Int) ≤ (n : Int) := by omega
  have q8 : (n : Int) + 1 ≤ (cap : Int) := by omega
  have w1 : IntKind.i64.wrap ((i : Int) + 1) = (i : Int) + 1 := IntWalk.i64_in _ (by omega)
  have w2 : ((i : Int) + 1).toNat = i + 1 := by omega
  have w3 : (0 : Int) ≤ (i : Int) + 1 := by omega
  have w4 : (i : Int) ≤ (n : Int) + 1 := by omega
  go_enter Try.func27, Try.ntmps27
  have hdl : (xs.drop (i * 5)).length = (n - i) * 5 := by rw [List.length_drop, hxsl, Nat.sub_mul]
  have hmin : Nat.min (n + 1 - i) (n - i) = n - i := by simp only [Nat.min_def]; split <;> omega
  have hsrc : ∀ j v, (xs.drop (i * 5))[j]? = some v → w.drew.cell? ((⟨g, o + i * 5, none⟩ : Addr).add j) = some v := fun j v hj => by
    rw [Addr.add_lit, show w.drew.cell? ⟨g, o + i * 5 + j, none⟩ = w.cell? ⟨g, o + i * 5 + j, none⟩ from rfl, hblk.cell, Nat.add_assoc]
    exact hc _ _ (by rwa [List.getElem?_drop] at hj)
  have HDL := Lib.hid hdl
  have HSRC := Lib.hid hsrc
  have HMIN := Lib.hid hmin
  have HXS := Lib.hid hxsl
  have hfit : o + (i + 1) * 5 + (n - i) * 5 ≤ cur.size := by omega
  have hblk' : Blk w.drew g 62 cur := hblk
  have HB := Lib.hid hblk'
  have H1 := Lib.hid (fun u (hu : u ∈ xs.drop (i * 5)) => h1s u (List.mem_of_mem_drop hu))
  clear hdl hmin hsrc hblk' hxsl
  go_wp2_with fail
  go_region_law (refine step_copy_blk (P := Try.prog) w.drew rfl (.tmp 73) (.tmp 76) _ _ rfl 62 5 Try.underlying58 size_w g (o + (i + 1) * 5) (n - i) (cap - (i + 1)) ⟨g, o + i * 5, none⟩ (n + 1 - i) (cap - i) (by simp [Act.eval, Act.put]) (by simp [Act.eval, Act.put]) 62 cur HB.out (xs.drop (i * 5)) (by rw [HDL.out, HMIN.out]) HSRC.out (by rw [HDL.out]; exact hfit) H1.out ?_; intro w4 cur4 hb4 hz4 ho4 hi4 hf4)
  have hx4 : Blk w4 gx 62 cx.toArray := (show Blk w.drew gx 62 cx.toArray from hx).frm hf4 (fun h => hne h.symm)
  have hsrc4 : ∀ j v, cx[j]? = some v → w4.cell? ((⟨gx, 0, none⟩ : Addr).add j) = some v := fun j v hj => by
    rw [Addr.add_lit, Nat.zero_add, hx4.cell]
    simpa using hj
  have hmin4 : Nat.min 1 (n + 1 - i) = 1 := by simp only [Nat.min_def]; split <;> omega
  have HSRC4 := Lib.hid hsrc4
  have HMIN4 := Lib.hid hmin4
  have HB4 := Lib.hid hb4
  have HO4 := Lib.hid ho4
  have HI4 := Lib.hid hi4
  have HF4 := Lib.hid hf4
  have HC := Lib.hid hc
  have HXL := Lib.hid hxl
  have HX1 := Lib.hid h1x
  have hfit4 : o + i * 5 + 5 ≤ cur4.size := by omega
  have hcapfit : o + cap * 5 ≤ cur4.size := by omega
  clear hx4 hsrc4 hmin4 hb4 ho4 hi4 hf4 hov hx hblk hc hxl h1x hz4
  go_wp2_with (with_reducible refine wpList_copy_blk (P := Try.prog) w4 rfl (.tmp 80) (.tmp 81) _ _ rfl 62 5 Try.underlying58 size_w g (o + i * 5) (n + 1 - i) (cap - i) ⟨gx, 0, none⟩ 1 1 (by simp [Act.eval, Act.put]) (by simp [Act.eval, Act.put]) 62 cur4 HB4.out cx (by rw [HXL.out, HMIN4.out]) HSRC4.out (by rw [HXL.out]; exact hfit4) HX1.out ?_; intro w5 cur5 hb5 hz5 ho5 hi5 hf5)
  have hcells := ins_cells (by have := HXS.out; omega) HXL.out HC.out HO4.out HI4.out ho5 hi5
  have HSL : Hid (Sl w5 B 62 5 (.slice (some ⟨g, o, none⟩) (n + 1) cap) (n + 1) (xs.take (i * 5) ++ cx ++ xs.drop (i * 5))) := Lib.hid (Sl.mk' hBg hb5 (by
    have := HXS.out
    rw [List.length_append, List.length_append, List.length_take, List.length_drop, HXL.out]
    omega) hroom (by unfold maxLen; omega) (by omega) hcells)
  have HFF : Hid (Frm (fun k => (Value.slice (some ⟨g, o, none⟩) n cap).ownBlock = some k) w w5) := Lib.hid ((((Frm.refl _ w).drew).trans HF4.out).trans hf5 |>.mono (fun k _ h => by subst h; rfl))
  clear hcells hb5 hz5 ho5 hi5 hf5
  go_wp2_with fail
  go_ret
  exact ⟨_, rfl, HSL.out, HFF.out, .inl rfl⟩
end Go.Proofs.Ythofodjklogfgaa

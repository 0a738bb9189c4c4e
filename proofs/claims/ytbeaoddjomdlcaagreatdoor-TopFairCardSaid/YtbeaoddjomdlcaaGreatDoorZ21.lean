/- Proved here, for the statement TopFairCardSaid: laws that its walk leans on. It holds with no condition. (Put together and shortened by a program out of many texts: Queue5, Queue6, Queue7, Queue8, Queue9.) -/
import Derived.Test.YtbeaoddjomdlcaaGreatDoorZ13
set_option linter.unusedVariables false
set_option linter.unusedSimpArgs false
set_option maxRecDepth 100000
set_option maxHeartbeats 64000000
namespace Go.Proofs.YtbeaoddjomdlcaaGreatDoor
section
open Go.RowKit QueueM
attribute [local go_sem ↓] Go.wp_at_zero Go.wp_at_succ
theorem info_w : (Tryz.prog.info? 141).map (fun i => (i.zero, i.size, i.bytes)) = some (some (.agg #[.int .i64 0, .int .i64 0, .int .i64 0, .int .i64 0, .float .f64 0]), 5, 40) := by kernel_rfl
theorem size_w : (Tryz.prog.info? 141).map (·.size) = some 5 := by kernel_rfl
theorem sizeOf_w (w : World) : (Go.sizeOf 141).run Tryz.prog w = .ok 5 w := by kernel_rfl
def InsPost (w : World) (B : Nat) (v : Value) (n : Nat) (ys : List Value) (e : Ending) (w' : World) : Prop :=
  ∃ v', e = .returned v' ∧ Sl w' B 141 5 v' n ys ∧ Frm (fun k => v.ownBlock = some k) w w' ∧ (v'.ownBlock = v.ownBlock ∨ ∃ k, v'.ownBlock = some k ∧ w.heap.size ≤ k)
set_option maxRecDepth 100000 in
theorem insert_end (w : World) (B : Nat) (v : Value) (n : Nat) (xs : List Value) (hs : Sl w B 141 5 v n xs) (hB : B ≤ w.heap.size) (hn : n ≤ 1000) (gx : Nat) (cx : List Value) (hx : Blk w gx 141 cx.toArray) (hxl : cx.length = 5) (h1x : ∀ u ∈ cx, u.oneCell' = true) :
    Calls Tryz.prog 61 #[v, .int .i64 (n : Int), .slice (some ⟨gx, 0, none⟩) 1 1] w fun e w' => InsPost w B v (n + 1) (xs ++ cx) e w' := by
  obtain ⟨i0, hi, hz0, hz1, hz2⟩ := info_parts info_w
  have HS := zh hs
  have R : Rd w w.heap.size (some ⟨gx, 0, none⟩) cx := fun _ => ⟨gx, 0, rfl, hx.lt, fun j u hu => by rw [Nat.zero_add, hx.cell]; simpa using hu⟩
  have HR := zh R
  have HX1 := zh h1x
  have HXL := zh hxl
  obtain ⟨A, cap, rfl, hnc, hcm, hnone⟩ := hs.shape
  have HE : Hid (∀ v' w', Sl w' B 141 5 v' (n + 1) (xs ++ cx) → Frm (fun k => (Value.slice A n cap).ownBlock = some k) w w' → (v'.ownBlock = (Value.slice A n cap).ownBlock ∨ v'.ownBlock = some w.heap.size) → InsPost w B (.slice A n cap) (n + 1) (xs ++ cx) (.returned v') w') := zh fun v' w' a b c =>
    ⟨v', rfl, a, b, c.elim .inl (fun h => .inr ⟨_, h, Nat.le_refl _⟩)⟩
  unfold maxLen at hcm
  clear R hx hs h1x hxl
  rcases A with _ | ⟨g, o, sp⟩
  · obtain ⟨rfl, rfl⟩ := hnone rfl
    go_in
    go_wp2_with (at_builtin; refine wpList_append_sl _ rfl (.tmp 23) (.tmp 24) _ rfl B 141 i0 _ 5 40 Tryz.underlying127 hi hz0 hz1 hz2 rfl (by omega) _ _ _ rfl HS.out _ _ 1 _ _ rfl (by rw [HXL.out]) HR.out HX1.out (by unfold maxLen; omega) (by omega) hB ?_; intro v1 w1 hs1 hf1 ha1)
    have HF := zh (HE.out _ _ hs1 hf1 ha1)
    clear hs1 hf1 ha1
    go_wp2_with fail
    go_ret
    exact HF.out
  · clear hnone
    obtain rfl : sp = none := by
      rcases HS.out.2 with ⟨h, _⟩ | ⟨g', o', c', cur, h, _⟩
      · cases h
      · injection h with h _ _; injection h with h; injection h
    by_cases hc : cap = n
    · go_in
      go_wp2_with (at_builtin; refine wpList_append_sl _ rfl (.tmp 23) (.tmp 24) _ rfl B 141 i0 _ 5 40 Tryz.underlying127 hi hz0 hz1 hz2 rfl (by omega) _ _ _ rfl HS.out _ _ 1 _ _ rfl (by rw [HXL.out]) HR.out HX1.out (by unfold maxLen; omega) (by omega) hB ?_; intro v1 w1 hs1 hf1 ha1)
      have HF := zh (HE.out _ _ hs1 hf1 ha1)
      clear hs1 hf1 ha1
      go_wp2_with fail
      go_ret
      exact HF.out
    · go_in
      go_wp2_with (at_builtin; refine wpList_append_sl _ rfl (.tmp 23) (.tmp 24) _ rfl B 141 i0 _ 5 40 Tryz.underlying127 hi hz0 hz1 hz2 rfl (by omega) _ _ _ rfl HS.out _ _ 1 _ _ rfl (by rw [HXL.out]) HR.out HX1.out (by unfold maxLen; omega) (by omega) hB ?_; intro v1 w1 hs1 hf1 ha1)
      have HF := zh (HE.out _ _ hs1 hf1 ha1)
      clear hs1 hf1 ha1
      go_wp2_with fail
      go_ret
      exact HF.out
theorem hov_any (w : World) (gx g : Nat) (cx cur : Array Value) (off lb cb : Nat) (hx : Blk w gx 141 cx) (hb : Blk w g 141 cur) (hk : 0 < cur.size) (hne : gx ≠ g) :
    (callFunc 106 #[.slice (some ⟨gx, 0, none⟩) 1 1, .slice (some ⟨g, off, none⟩) lb cb]).run Tryz.prog w = .ok (.value (.bool false)) w := by
  have hA : w.shape? gx = some (141, cx.size) := by unfold Blk at hx; simp [World.shape?, hx]
  have hB : w.shape? g = some (141, cur.size) := by unfold Blk at hb; simp [World.shape?, hb]
  rw [run_callFunc_extern Tryz.func106 (by kernel_rfl) (by kernel_rfl) (by kernel_rfl) (e := Extern.SlicesOverlaps.overlaps #[127, 127] #[4]) (by kernel_rfl),
    Lib.run_overlaps_apart w 127 4 141 Tryz.underlying127 5 sizeOf_w ⟨gx, 0, none⟩ ⟨g, off, none⟩ 1 1 lb cb hne _ _ _ _ hA hB (by omega) (hx.frozen 0) (hx.frozen _)]
  rfl
theorem ins_cells {cur cur4 cur5 : Array Value} {o i z : Nat} {xs cx : List Value} (hix : i * 5 ≤ xs.length) (hxl : cx.length = 5) (hc : ∀ j u, xs[j]? = some u → cur[o + j]? = some u)
    (h4 : ∀ j, j < o + (i + 1) * 5 ∨ z ≤ j → cur4[j]? = cur[j]?) (k4 : ∀ j u, (xs.drop (i * 5))[j]? = some u → cur4[o + (i + 1) * 5 + j]? = some u)
    (h5 : ∀ j, j < o + i * 5 ∨ o + i * 5 + cx.length ≤ j → cur5[j]? = cur4[j]?) (k5 : ∀ j u, cx[j]? = some u → cur5[o + i * 5 + j]? = some u) :
    ∀ j u, (xs.take (i * 5) ++ cx ++ xs.drop (i * 5))[j]? = some u → cur5[o + j]? = some u := by
  intro j u hu
  have htl : (xs.take (i * 5)).length = i * 5 := by rw [List.length_take]; omega
  rw [List.append_assoc, List.getElem?_append] at hu
  split at hu
  · rename_i hj
    rw [htl] at hj
    rw [List.getElem?_take, if_pos hj] at hu
    rw [h5 _ (.inl (by omega)), h4 _ (.inl (by omega))]
    exact hc j u hu
  · rename_i hj
    rw [htl] at hj hu
    rw [List.getElem?_append] at hu
    split at hu
    · rename_i hj2
      have := k5 _ u hu
      rw [show o + i * 5 + (j - i * 5) = o + j by omega] at this
      exact this
    · rename_i hj2
      rw [hxl] at hj2 hu
      have := k4 _ u hu
      rw [show o + (i + 1) * 5 + (j - i * 5 - 5) = o + j by omega] at this
      rw [h5 _ (.inr (by omega))]
      exact this
set_option maxRecDepth 100000 in
theorem insert_shift (w : World) (B : Nat) (g o n cap : Nat) (xs : List Value) (hs : Sl w B 141 5 (.slice (some ⟨g, o, none⟩) n cap) n xs) (hn : n ≤ 1000) (i : Nat) (hin : i < n) (hroom : n + 1 ≤ cap) (h1s : ∀ u ∈ xs, u.oneCell' = true)
    (gx : Nat) (cx : List Value) (hx : Blk w gx 141 cx.toArray) (hxl : cx.length = 5) (h1x : ∀ u ∈ cx, u.oneCell' = true) (hne : gx ≠ g) :
    Calls Tryz.prog 61 #[.slice (some ⟨g, o, none⟩) n cap, .int .i64 (i : Int), .slice (some ⟨gx, 0, none⟩) 1 1] w fun e w' => InsPost w B (.slice (some ⟨g, o, none⟩) n cap) (n + 1) (xs.take (i * 5) ++ cx ++ xs.drop (i * 5)) e w' := by
  obtain ⟨_, hBg, hnc, hcm, cur, hblk, hsz, hc⟩ := hs.open'
  have hxsl := hs.1
  unfold maxLen at hcm
  have hov := fun off lb cb => hov_any w gx g cx.toArray cur off lb cb hx hblk (by omega) hne
  have q1 : ¬ (i : Int) = (n : Int) := by omega
  have q2 : ¬ (cap : Int) < (n : Int) + 1 := by omega
  have q3 : (i : Int) + 1 ≤ (n : Int) + 1 := by omega
  have q4 : (0 : Int) ≤ (i : Int) := by omega
  have q5 : ¬ (cap = i + 1) := by omega
  have q6 : ¬ (cap = i) := by omega
  have q7 : (i : Int) ≤ (n : Int) := by omega
  have q8 : (n : Int) + 1 ≤ (cap : Int) := by omega
  have w1 : IntKind.i64.wrap ((i : Int) + 1) = (i : Int) + 1 := IntWalk.i64_in _ (by omega)
  have w2 : ((i : Int) + 1).toNat = i + 1 := by omega
  have w3 : (0 : Int) ≤ (i : Int) + 1 := by omega
  have w4 : (i : Int) ≤ (n : Int) + 1 := by omega
  go_in
  have hdl : (xs.drop (i * 5)).length = (n - i) * 5 := by rw [List.length_drop, hxsl, Nat.sub_mul]
  have hmin : Nat.min (n + 1 - i) (n - i) = n - i := by simp only [Nat.min_def]; split <;> omega
  have hsrc : ∀ j v, (xs.drop (i * 5))[j]? = some v → w.drew.cell? ((⟨g, o + i * 5, none⟩ : Addr).add j) = some v := fun j v hj => by
    rw [Addr.add_lit, show w.drew.cell? ⟨g, o + i * 5 + j, none⟩ = w.cell? ⟨g, o + i * 5 + j, none⟩ from rfl, hblk.cell, Nat.add_assoc]
    exact hc _ _ (by rwa [List.getElem?_drop] at hj)
  have HDL := zh hdl
  have HSRC := zh hsrc
  have HMIN := zh hmin
  have HXS := zh hxsl
  have hfit : o + (i + 1) * 5 + (n - i) * 5 ≤ cur.size := by omega
  have hblk' : Blk w.drew g 141 cur := hblk
  have HB := zh hblk'
  have H1 := zh (fun u (hu : u ∈ xs.drop (i * 5)) => h1s u (List.mem_of_mem_drop hu))
  clear hdl hmin hsrc hblk' hxsl
  go_wp2_with fail
  go_region_law (refine step_copy_blk (P := Tryz.prog) w.drew rfl (.tmp 73) (.tmp 76) _ _ rfl 141 5 Tryz.underlying127 size_w g (o + (i + 1) * 5) (n - i) (cap - (i + 1)) ⟨g, o + i * 5, none⟩ (n + 1 - i) (cap - i) (by simp [Act.eval, Act.put]) (by simp [Act.eval, Act.put]) 141 cur HB.out (xs.drop (i * 5)) (by rw [HDL.out, HMIN.out]) HSRC.out (by rw [HDL.out]; exact hfit) H1.out ?_; intro w4 cur4 hb4 hz4 ho4 hi4 hf4)
  have hx4 : Blk w4 gx 141 cx.toArray := (show Blk w.drew gx 141 cx.toArray from hx).frm hf4 (fun h => hne h.symm)
  have hsrc4 : ∀ j v, cx[j]? = some v → w4.cell? ((⟨gx, 0, none⟩ : Addr).add j) = some v := fun j v hj => by
    rw [Addr.add_lit, Nat.zero_add, hx4.cell]
    simpa using hj
  have hmin4 : Nat.min 1 (n + 1 - i) = 1 := by simp only [Nat.min_def]; split <;> omega
  have HSRC4 := zh hsrc4
  have HMIN4 := zh hmin4
  have HB4 := zh hb4
  have HO4 := zh ho4
  have HI4 := zh hi4
  have HF4 := zh hf4
  have HC := zh hc
  have HXL := zh hxl
  have HX1 := zh h1x
  have hfit4 : o + i * 5 + 5 ≤ cur4.size := by omega
  have hcapfit : o + cap * 5 ≤ cur4.size := by omega
  clear hx4 hsrc4 hmin4 hb4 ho4 hi4 hf4 hov hx hblk hc hxl h1x hz4
  go_wp2_with (with_reducible refine wpList_copy_blk (P := Tryz.prog) w4 rfl (.tmp 80) (.tmp 81) _ _ rfl 141 5 Tryz.underlying127 size_w g (o + i * 5) (n + 1 - i) (cap - i) ⟨gx, 0, none⟩ 1 1 (by simp [Act.eval, Act.put]) (by simp [Act.eval, Act.put]) 141 cur4 HB4.out cx (by rw [HXL.out, HMIN4.out]) HSRC4.out (by rw [HXL.out]; exact hfit4) HX1.out ?_; intro w5 cur5 hb5 hz5 ho5 hi5 hf5)
  have hcells := ins_cells (by have := HXS.out; omega) HXL.out HC.out HO4.out HI4.out ho5 hi5
  have HSL : Hid (Sl w5 B 141 5 (.slice (some ⟨g, o, none⟩) (n + 1) cap) (n + 1) (xs.take (i * 5) ++ cx ++ xs.drop (i * 5))) := zh (Sl.mk' hBg hb5 (by
    have := HXS.out
    rw [List.length_append, List.length_append, List.length_take, List.length_drop, HXL.out]
    omega) hroom (by unfold maxLen; omega) (by omega) hcells)
  have HFF : Hid (Frm (fun k => (Value.slice (some ⟨g, o, none⟩) n cap).ownBlock = some k) w w5) := zh ((((Frm.refl _ w).drew).trans HF4.out).trans hf5 |>.mono (fun k _ h => by subst h; rfl))
  clear hcells hb5 hz5 ho5 hi5 hf5
  go_wp2_with fail
  go_ret
  exact ⟨_, rfl, HSL.out, HFF.out, .inl rfl⟩
theorem ins_cells2 {cur cur4 cur5 : Array Value} {i z : Nat} {xs cx : List Value} (hix : i * 5 ≤ xs.length) (hxl : cx.length = 5) (hc : ∀ (j : Nat) (u : Value), (xs.take (i * 5))[j]? = some u → cur[j]? = some u)
    (h4 : ∀ (j : Nat), j < i * 5 ∨ i * 5 + cx.length ≤ j → cur4[j]? = cur[j]?) (k4 : ∀ (j : Nat) (u : Value), cx[j]? = some u → cur4[i * 5 + j]? = some u)
    (h5 : ∀ (j : Nat), j < (i + 1) * 5 ∨ z ≤ j → cur5[j]? = cur4[j]?) (k5 : ∀ (j : Nat) (u : Value), (xs.drop (i * 5))[j]? = some u → cur5[(i + 1) * 5 + j]? = some u) :
    ∀ (j : Nat) (u : Value), (xs.take (i * 5) ++ cx ++ xs.drop (i * 5))[j]? = some u → cur5[0 + j]? = some u := by
  intro j u hu
  rw [Nat.zero_add]
  have htl : (xs.take (i * 5)).length = i * 5 := by rw [List.length_take]; omega
  rw [List.append_assoc, List.getElem?_append] at hu
  split at hu
  · rename_i hj
    rw [htl] at hj
    rw [h5 _ (.inl (by omega)), h4 _ (.inl (by omega))]
    exact hc j u hu
  · rename_i hj
    rw [htl] at hj hu
    rw [List.getElem?_append] at hu
    split at hu
    · rename_i hj2
      have := k4 _ u hu
      rw [show i * 5 + (j - i * 5) = j by omega] at this
      rw [h5 _ (.inl (by omega))]
      exact this
    · rename_i hj2
      rw [hxl] at hj2 hu
      have := k5 _ u hu
      rw [show (i + 1) * 5 + (j - i * 5 - 5) = j by omega] at this
      exact this
set_option maxRecDepth 100000 in
theorem insert_grow (w : World) (B : Nat) (g o n : Nat) (xs : List Value) (hs : Sl w B 141 5 (.slice (some ⟨g, o, none⟩) n n) n xs) (hn : n ≤ 1000) (hB : B ≤ w.heap.size) (i : Nat) (hin : i < n) (h1s : ∀ u ∈ xs, u.oneCell' = true)
    (gx : Nat) (cx : List Value) (hx : Blk w gx 141 cx.toArray) (hxl : cx.length = 5) (h1x : ∀ u ∈ cx, u.oneCell' = true) :
    Calls Tryz.prog 61 #[.slice (some ⟨g, o, none⟩) n n, .int .i64 (i : Int), .slice (some ⟨gx, 0, none⟩) 1 1] w fun e w' => InsPost w B (.slice (some ⟨g, o, none⟩) n n) (n + 1) (xs.take (i * 5) ++ cx ++ xs.drop (i * 5)) e w' := by
  obtain ⟨i0, hi, hz0, hz1, hz2⟩ := info_parts info_w
  obtain ⟨_, hBg, hnc, hcm, cur, hblk, hsz, hc⟩ := hs.open'
  have hxsl := hs.1
  have hglt := hblk.lt
  have hxlt := hx.lt
  unfold maxLen at hcm
  obtain ⟨k, hk⟩ : ∃ k, n + 1 - i = k := ⟨_, rfl⟩
  have hik : i + k = n + 1 := by omega
  obtain ⟨c, cur1, hrun, hc1, hc2, hc3, hc4⟩ := run_append_zeros (P := Tryz.prog) w 127 3 127 141 i0 _ 5 40 .i64 .i64 Tryz.underlying127 Tryz.underlying3 hi hz0 hz1 hz2 rfl (by omega) B i n k g o _ (hs.cutN (k := i) (by omega)) (by omega) (by omega) (by unfold maxLen; omega) (by omega)
  rw [hik] at hrun hc1
  unfold maxLen at hc2
  have B1 : Blk (w.drew.alloc (.cells cur1 141)) w.heap.size 141 cur1 := Blk.new w.drew _ _
  have F1 : Fresh w (w.drew.alloc (.cells cur1 141)) := ((Frm.refl _ w).drew).alloc _
  have X1 : Blk (w.drew.alloc (.cells cur1 141)) gx 141 cx.toArray := hx.frm F1 (fun f => f)
  have G1 : Blk (w.drew.alloc (.cells cur1 141)) g 141 cur := hblk.frm F1 (fun f => f)
  generalize w.drew.alloc (.cells cur1 141) = w1 at hrun B1 F1 X1 G1
  obtain ⟨N, hN⟩ : ∃ N, w.heap.size = N := ⟨_, rfl⟩
  rw [hN] at hrun B1 hglt hxlt hB
  have HRUN := zh hrun
  have HB1 := zh B1
  have HF1 := zh F1
  have HX1 := zh X1
  have HG1 := zh G1
  have HC := zh hc
  have HC4 := zh hc4
  have HXL := zh hxl
  have H1X := zh h1x
  have H1 := zh (fun u (hu : u ∈ xs.drop (i * 5)) => h1s u (List.mem_of_mem_drop hu))
  have HXS := zh hxsl
  have hsrc : ∀ j v, cx[j]? = some v → w1.cell? ((⟨gx, 0, none⟩ : Addr).add j) = some v := fun j v hj => by
    rw [Addr.add_lit, Nat.zero_add, X1.cell]
    simpa using hj
  have hmin : Nat.min 1 k = 1 := by simp only [Nat.min_def]; split <;> omega
  have HSRC := zh hsrc
  have HMIN := zh hmin
  have q1 : ¬ (i : Int) = (n : Int) := by omega
  have q2 : (n : Int) < (n : Int) + 1 := by omega
  have q4 : (0 : Int) ≤ (i : Int) := by omega
  have q5 : ¬ (c = i + 1) := by omega
  have q6 : ¬ (c = i) := by omega
  have q7 : (i : Int) ≤ (n : Int) := by omega
  have q8 : ¬ (n = i) := by omega
  have q9 : (i : Int) ≤ (n : Int) + 1 := by omega
  have hkk : (n : Int) + 1 - (i : Int) = (k : Int) := by omega
  have w1' : IntKind.i64.wrap ((i : Int) + 1) = (i : Int) + 1 := IntWalk.i64_in _ (by omega)
  have w2' : ((i : Int) + 1).toNat = i + 1 := by omega
  have w3 : (0 : Int) ≤ (i : Int) + 1 := by omega
  have w4 : (i : Int) + 1 ≤ (n : Int) + 1 := by omega
  have hfit : 0 + i * 5 + 5 ≤ cur1.size := by omega
  have hfit' : i * 5 + 5 ≤ cur1.size := by omega
  have hcsz : (n + 1) * 5 ≤ cur1.size := by omega
  clear hrun B1 F1 X1 G1 hc hc4 hxl h1x hs hx hblk hxsl hsrc hmin
  go_in
  go_wp2_with (first
    | (at_builtin; refine Lib.wpList_append_run _ rfl (.tmp 34) (.tmp 39) _ _ rfl _ _ rfl rfl _ _ HRUN.out ?_)
    | (with_reducible refine wpList_copy_blk (P := Tryz.prog) w1 rfl (.tmp 43) (.tmp 44) _ _ rfl 141 5 Tryz.underlying127 size_w N (i * 5) k (c - i) ⟨gx, 0, none⟩ 1 1 (by simp [Act.eval, Act.put]) (by simp [Act.eval, Act.put]) 141 cur1 HB1.out cx (by rw [HXL.out, HMIN.out]) HSRC.out (by rw [HXL.out]; exact hfit') H1X.out ?_; intro w2 cur2 hb2 hz2' ho2 hi2 hf2))
  have G2 : Blk w2 g 141 cur := HG1.out.frm hf2 (fun h => by omega)
  have hdl : (xs.drop (i * 5)).length = (n - i) * 5 := by rw [List.length_drop, HXS.out, Nat.sub_mul]
  have hmin2 : Nat.min (n - i) (n - i) = n - i := Nat.min_self _
  have hsrc2 : ∀ j v, (xs.drop (i * 5))[j]? = some v → w2.drew.cell? ((⟨g, o + i * 5, none⟩ : Addr).add j) = some v := fun j v hj => by
    rw [Addr.add_lit, show w2.drew.cell? ⟨g, o + i * 5 + j, none⟩ = w2.cell? ⟨g, o + i * 5 + j, none⟩ from rfl, G2.cell, Nat.add_assoc]
    exact HC.out _ _ (by rwa [List.getElem?_drop] at hj)
  have hb2' : Blk w2.drew N 141 cur2 := hb2
  have HB2 := zh hb2'
  have HDL := zh hdl
  have HMIN2 := zh hmin2
  have HSRC2 := zh hsrc2
  have HO2 := zh ho2
  have HI2 := zh hi2
  have HF2 := zh hf2
  have hfit2 : (i + 1) * 5 + (n - i) * 5 ≤ cur2.size := by omega
  have hsz2 : 0 + c * 5 ≤ cur2.size := by omega
  clear G2 hdl hmin2 hsrc2 hb2 hb2' ho2 hi2 hf2 hz2' hkk hc3
  go_region_law (refine step_copy_blk (P := Tryz.prog) w2.drew rfl (.tmp 50) (.tmp 53) _ _ rfl 141 5 Tryz.underlying127 size_w N ((i + 1) * 5) (n - i) (c - (i + 1)) ⟨g, o + i * 5, none⟩ (n - i) (n - i) (by simp [Act.eval, Act.put]) (by simp [Act.eval, Act.put]) 141 cur2 HB2.out (xs.drop (i * 5)) (by rw [HDL.out, HMIN2.out]) HSRC2.out (by rw [HDL.out]; exact hfit2) H1.out ?_; intro w3 cur3 hb3 hz3 ho3 hi3 hf3)
  have hcells := ins_cells2 (by have := HXS.out; omega) HXL.out HC4.out HO2.out HI2.out ho3 hi3
  have HSL : Hid (Sl w3 B 141 5 (.slice (some ⟨N, 0, none⟩) (n + 1) c) (n + 1) (xs.take (i * 5) ++ cx ++ xs.drop (i * 5))) := zh (Sl.mk' hB hb3 (by
    have := HXS.out
    rw [List.length_append, List.length_append, List.length_take, List.length_drop, HXL.out]
    omega) hc1 (by unfold maxLen; omega) (by omega) hcells)
  have HFF : Hid (Frm (fun k => (Value.slice (some ⟨g, o, none⟩) n n).ownBlock = some k) w w3) := zh (((HF1.out.trans' HF2.out (fun j h1 h2 => by omega)).drew).trans' hf3 (fun j h1 h2 => by omega) |>.mono (fun _ _ h => h.elim))
  clear hcells hb3 hz3 ho3 hi3 hf3
  go_wp2_with fail
  go_ret
  exact ⟨_, rfl, HSL.out, HFF.out, .inr ⟨N, rfl, by omega⟩⟩
theorem insert_any (w : World) (B : Nat) (v : Value) (n : Nat) (xs : List Value) (hs : Sl w B 141 5 v n xs) (hB : B ≤ w.heap.size) (hn : n ≤ 1000) (i : Nat) (hin : i ≤ n) (h1s : ∀ u ∈ xs, u.oneCell' = true)
    (gx : Nat) (cx : List Value) (hx : Blk w gx 141 cx.toArray) (hxl : cx.length = 5) (h1x : ∀ u ∈ cx, u.oneCell' = true) (hne : v.ownBlock ≠ some gx) :
    Calls Tryz.prog 61 #[v, .int .i64 (i : Int), .slice (some ⟨gx, 0, none⟩) 1 1] w fun e w' => InsPost w B v (n + 1) (xs.take (i * 5) ++ cx ++ xs.drop (i * 5)) e w' := by
  have hl := hs.1
  rcases Nat.eq_or_lt_of_le hin with rfl | hlt
  · have h := insert_end w B v i xs hs hB hn gx cx hx hxl h1x
    rw [← hl, List.take_length, List.drop_length, List.append_nil]
    exact h
  · obtain ⟨g, o, cap, rfl, _, _, hnc, _⟩ := hs.head (by omega)
    have hne' : gx ≠ g := fun h => hne (by rw [h]; rfl)
    rcases Nat.eq_or_lt_of_le hnc with rfl | hr
    · exact insert_grow w B g o n xs hs hn hB i hlt h1s gx cx hx hxl h1x
    · exact insert_shift w B g o n cap xs hs hn i hlt hr h1s gx cx hx hxl h1x hne'
theorem zero_w (w : World) : (zeroValue 141).run Tryz.prog w = .ok (.agg #[.int .i64 0, .int .i64 0, .int .i64 0, .int .i64 0, .float .f64 0]) w := by kernel_rfl
theorem zero_one : ∀ u ∈ (Value.agg #[.int .i64 0, .int .i64 0, .int .i64 0, .int .i64 0, .float .f64 0]).cells.toList, u.oneCell' = true := wcells_one [⟨0, 0, 0, 0, 0⟩]
theorem del_cells {cur cur2 cur3 : Array Value} {o i m z : Nat} {xs : List Value} (hx : xs.length = (i + 1 + m) * 5) (hc : ∀ (j : Nat) (u : Value), xs[j]? = some u → cur[o + j]? = some u)
    (h2 : ∀ (j : Nat), j < o + i * 5 ∨ z ≤ j → cur2[j]? = cur[j]?) (k2 : ∀ (j : Nat) (u : Value), (xs.drop ((i + 1) * 5))[j]? = some u → cur2[o + i * 5 + j]? = some u)
    {z3 : Nat} (h3 : ∀ (j : Nat), j < o + (i + m) * 5 ∨ z3 ≤ j → cur3[j]? = cur2[j]?) :
    ∀ (j : Nat) (u : Value), (xs.take (i * 5) ++ xs.drop ((i + 1) * 5))[j]? = some u → cur3[o + j]? = some u := by
  intro j u hu
  have htl : (xs.take (i * 5)).length = i * 5 := by rw [List.length_take]; omega
  have hj0 := (List.getElem?_eq_some_iff.1 hu).1
  rw [List.length_append, htl, List.length_drop] at hj0
  rw [h3 _ (.inl (by omega))]
  rw [List.getElem?_append] at hu
  split at hu
  · rename_i hj
    rw [htl] at hj
    rw [List.getElem?_take, if_pos hj] at hu
    rw [h2 _ (.inl (by omega))]
    exact hc j u hu
  · rename_i hj
    rw [htl] at hj hu
    have := k2 _ u hu
    rw [show o + i * 5 + (j - i * 5) = o + j by omega] at this
    exact this
set_option maxRecDepth 100000 in
theorem delete_any (w : World) (B : Nat) (v : Value) (n : Nat) (xs : List Value) (hs : Sl w B 141 5 v n xs) (hn : n ≤ 1000) (i : Nat) (hin : i < n) (h1s : ∀ u ∈ xs, u.oneCell' = true) :
    Calls Tryz.prog 70 #[v, .int .i64 (i : Int), .int .i64 ((i : Int) + 1)] w fun e w' => InsPost w B v (n - 1) (xs.take (i * 5) ++ xs.drop ((i + 1) * 5)) e w' := by
  obtain ⟨i0, hi, hz0, hz1, hz2⟩ := info_parts info_w
  obtain ⟨g, o, cap, rfl, _, _, hnc, hcm⟩ := hs.head (by omega)
  obtain ⟨_, hBg, _, _, cur, hblk, hsz, hc⟩ := hs.open'
  have hxsl := hs.1
  unfold maxLen at hcm
  obtain ⟨m, hm⟩ : ∃ m, n - (i + 1) = m := ⟨_, rfl⟩
  obtain ⟨n', hn'⟩ : ∃ n', n - 1 = n' := ⟨_, rfl⟩
  rw [hn']
  have him : i + m = n' := by omega
  have hxs2 : xs.length = (i + 1 + m) * 5 := by rw [hxsl, show i + 1 + m = n by omega]
  have HX2 := zh hxs2
  have HC := zh hc
  have HM := zh hm
  have HIM := zh him
  have hdl : (xs.drop ((i + 1) * 5)).length = m * 5 := by rw [List.length_drop, hxs2, Nat.add_mul]; omega
  have H1 := zh (fun u (hu : u ∈ xs.drop ((i + 1) * 5)) => h1s u (List.mem_of_mem_drop hu))
  have hblk' : Blk w.drew g 141 cur := hblk
  have HB := zh hblk'
  have HDL := zh hdl
  have hfit : o + i * 5 + m * 5 ≤ cur.size := by omega
  have q1 : ¬ ((i : Int) = (i : Int) + 1) := by omega
  have q2 : (0 : Int) ≤ (i : Int) := by omega
  have q3 : (i : Int) + 1 ≤ (n : Int) := by omega
  have q4 : (i : Int) ≤ (n : Int) := by omega
  have q5 : (i : Int) ≤ (i : Int) + 1 := by omega
  have q6 : (n : Int) ≤ (cap : Int) := by omega
  have w2' : ((i : Int) + 1).toNat = i + 1 := by omega
  have w3 : (0 : Int) ≤ (i : Int) + 1 := by omega
  have q7 : (n' : Int) ≤ (n : Int) := by omega
  have q8 : n - n' = 1 := by omega
  have q9 : ¬ (cap = n') := by omega
  have q10 : (0 : Int) ≤ (n' : Int) := by omega
  have q11 : (n' : Int) ≤ (cap : Int) := by omega
  have q12 : ¬ (n = i) := by omega
  have q13 : i ≤ cap := by omega
  have q14 : n ≤ cap := by omega
  have q15 : n' ≤ n := by omega
  have q16 : n' ≤ cap := by omega
  by_cases hci : cap = i + 1
  · have hm0 : m = 0 := by omega
    have hsrc : ∀ j v, (xs.drop ((i + 1) * 5))[j]? = some v → w.drew.cell? ((⟨g, o, none⟩ : Addr).add j) = some v := fun j v hj => by
      have := (List.getElem?_eq_some_iff.1 hj).1
      omega
    have HM0 := zh hm0
    clear hm0
    have HSRC := zh hsrc
    clear hsrc hdl hc hblk hblk' hxsl hxs2 hn' him hs h1s
    have hnm : n - cap = m := by omega
    have hci' : i + 1 = cap := by omega
    have HCI := zh hci'
    clear hm hci
    go_in
    go_wp2_with fail
    go_region_law (refine step_append_in (P := Tryz.prog) w.drew rfl (.tmp 22) (.tmp 25) _ rfl 141 i0 5 Tryz.underlying127 hi hz1 g o i cap (by simp [Act.eval, Act.put]) ⟨g, o, none⟩ m 0 (by simp [Act.eval, Act.put]) (xs.drop ((i + 1) * 5)) HDL.out HSRC.out H1.out (by omega) n' HIM.out 141 cur HB.out (by rw [HDL.out]; exact hfit) ?_; intro w2 cur2 hb2 hz2' ho2 hi2 hf2)
    have HB2 := zh hb2
    have HO2 := zh ho2
    have HI2 := zh hi2
    have HF2 := zh hf2
    have hfit2 : o + n' * 5 + 1 * 5 ≤ cur2.size := by omega
    have hcap2 : o + cap * 5 ≤ cur2.size := by omega
    clear hb2 ho2 hi2 hf2 hz2'
    go_wp2_with (with_reducible refine wpList_clear_blk (P := Tryz.prog) w2 rfl (.tmp 31) _ rfl 141 5 _ Tryz.underlying127 zero_w rfl zero_one g (o + n' * 5) 1 (cap - n') (by simp [Act.eval, Act.put]) (by omega) 141 cur2 HB2.out hfit2 ?_; intro w3 cur3 hb3 hz3 ho3 hf3)
    have hcells := del_cells (i := i) (m := m) HX2.out HC.out HO2.out HI2.out (cur3 := cur3) (z3 := o + n' * 5 + 1 * 5) (by rw [HIM.out]; exact ho3)
    have HSL : Hid (Sl w3 B 141 5 (.slice (some ⟨g, o, none⟩) n' cap) n' (xs.take (i * 5) ++ xs.drop ((i + 1) * 5))) := zh (Sl.mk' hBg hb3 (by
      have h1 := HX2.out
      have h2 := HIM.out
      rw [List.length_append, List.length_take, List.length_drop]
      omega) (by omega) (by unfold maxLen; omega) (by omega) hcells)
    have HFF : Hid (Frm (fun k => (Value.slice (some ⟨g, o, none⟩) n cap).ownBlock = some k) w w3) := zh ((((Frm.refl _ w).drew).trans HF2.out).trans hf3 |>.mono (fun k _ h => by subst h; rfl))
    clear hcells hb3 hz3 ho3 hf3
    go_wp2_with fail
    go_ret
    exact ⟨_, rfl, HSL.out, HFF.out, .inl rfl⟩
  · have hsrc : ∀ j v, (xs.drop ((i + 1) * 5))[j]? = some v → w.drew.cell? ((⟨g, o + (i + 1) * 5, none⟩ : Addr).add j) = some v := fun j v hj => by
      rw [Addr.add_lit, show w.drew.cell? ⟨g, o + (i + 1) * 5 + j, none⟩ = w.cell? ⟨g, o + (i + 1) * 5 + j, none⟩ from rfl, hblk.cell, Nat.add_assoc]
      exact hc _ _ (by rwa [List.getElem?_drop] at hj)
    have HSRC := zh hsrc
    clear hsrc hdl hc hblk hblk' hxsl hxs2 hn' him hs h1s
    go_in
    go_wp2_with fail
    go_region_law (refine step_append_in (P := Tryz.prog) w.drew rfl (.tmp 22) (.tmp 25) _ rfl 141 i0 5 Tryz.underlying127 hi hz1 g o i cap (by simp [Act.eval, Act.put]) ⟨g, o + (i + 1) * 5, none⟩ m (cap - (i + 1)) (by simp [Act.eval, Act.put]) (xs.drop ((i + 1) * 5)) HDL.out HSRC.out H1.out (by omega) n' HIM.out 141 cur HB.out (by rw [HDL.out]; exact hfit) ?_; intro w2 cur2 hb2 hz2' ho2 hi2 hf2)
    have HB2 := zh hb2
    have HO2 := zh ho2
    have HI2 := zh hi2
    have HF2 := zh hf2
    have hfit2 : o + n' * 5 + 1 * 5 ≤ cur2.size := by omega
    have hcap2 : o + cap * 5 ≤ cur2.size := by omega
    clear hb2 ho2 hi2 hf2 hz2'
    go_wp2_with (with_reducible refine wpList_clear_blk (P := Tryz.prog) w2 rfl (.tmp 31) _ rfl 141 5 _ Tryz.underlying127 zero_w rfl zero_one g (o + n' * 5) 1 (cap - n') (by simp [Act.eval, Act.put]) (by omega) 141 cur2 HB2.out hfit2 ?_; intro w3 cur3 hb3 hz3 ho3 hf3)
    have hcells := del_cells (i := i) (m := m) HX2.out HC.out HO2.out HI2.out (cur3 := cur3) (z3 := o + n' * 5 + 1 * 5) (by rw [HIM.out]; exact ho3)
    have HSL : Hid (Sl w3 B 141 5 (.slice (some ⟨g, o, none⟩) n' cap) n' (xs.take (i * 5) ++ xs.drop ((i + 1) * 5))) := zh (Sl.mk' hBg hb3 (by
      have h1 := HX2.out
      have h2 := HIM.out
      rw [List.length_append, List.length_take, List.length_drop]
      omega) (by omega) (by unfold maxLen; omega) (by omega) hcells)
    have HFF : Hid (Frm (fun k => (Value.slice (some ⟨g, o, none⟩) n cap).ownBlock = some k) w w3) := zh ((((Frm.refl _ w).drew).trans HF2.out).trans hf3 |>.mono (fun k _ h => by subst h; rfl))
    clear hcells hb3 hz3 ho3 hf3
    go_wp2_with fail
    go_ret
    exact ⟨_, rfl, HSL.out, HFF.out, .inl rfl⟩
end
section
open Go.RowKit QueueM
attribute [local go_sem ↓] Go.wp_at_zero Go.wp_at_succ
attribute [local go_sem] run_store_float
theorem IsQ.fresh {w w' : World} {B b : Nat} {v : Value} {l : List Wt} (h : IsQ w B b v l) (F : Fresh w w') : IsQ w' B b v l := ⟨h.blk.frm F (fun f => f), h.ge, h.sl.fresh F⟩
def StepQ (w : World) (B b : Nat) (v : Value) (l : List Wt) (w' : World) : Prop :=
  ∃ v', IsQ w' B b v' l ∧ Frm (fun k => k = b ∨ v.ownBlock = some k) w w' ∧ (v'.ownBlock = v.ownBlock ∨ ∃ k, v'.ownBlock = some k ∧ w.heap.size ≤ k)
theorem StepQ.still {w w' : World} {B b : Nat} {v : Value} {l : List Wt} (h : IsQ w B b v l) (F : Fresh w w') : StepQ w B b v l w' := ⟨v, h.fresh F, F.frm, .inl rfl⟩
theorem new_any (w : World) : Calls Tryz.prog 23 #[] w fun e w' => e = .returned (.pointer (some ⟨w.heap.size, 0, none⟩)) ∧ IsQ w' w.heap.size w.heap.size (.slice none 0 0) [] ∧ Fresh w w' := by
  have H : IsQ (w.alloc (.cells #[.slice none 0 0] 129)) w.heap.size w.heap.size (.slice none 0 0) [] := ⟨Blk.new w _ _, Nat.le_refl _, Sl.nil _ _ _ _⟩
  have F := (Frm.refl (fun _ => False) w).alloc (.cells #[.slice none 0 0] 129)
  have HH := zh H
  have HF := zh F
  clear H F
  go_in
  go_wp2_with fail
  go_ret
  exact ⟨rfl, HH.out, HF.out⟩
theorem stored {w : World} {B b n : Nat} {v v' : Value} {xs : List Value} (hB : B ≤ b) (hb : Blk w b 129 #[v]) (hs : Sl w B 141 5 v' n xs) :
    Blk (w.setCell ⟨b, 0, none⟩ v') b 129 #[v'] ∧ Sl (w.setCell ⟨b, 0, none⟩ v') B 141 5 v' n xs := by
  have hap := hs.apart hb (by decide)
  refine ⟨hb.set 0 v', hs.frm ((Frm.refl (fun k => k = b) w).setCell (p := ⟨b, 0, none⟩) (fun _ => rfl) v') (fun k hk h => ?_)⟩
  subst h
  exact hap hk
theorem own_frm {w w3 w5 : World} {b : Nat} {v v' : Value} (F : Fresh w w3) (G : Frm (fun k => v.ownBlock = some k) w3 w5) : Frm (fun k => k = b ∨ v.ownBlock = some k) w (w5.setCell ⟨b, 0, none⟩ v') := by
  have h1 : Frm (fun k => k = b ∨ v.ownBlock = some k) w w5 := (Fresh.frm F).trans' G (fun k _ h => Or.inr h)
  exact h1.setCell (p := ⟨b, 0, none⟩) (fun _ => Or.inl rfl) v'
def AddPost (w : World) (B b : Nat) (v : Value) (x : Wt) (l : List Wt) (e : Ending) (w' : World) : Prop :=
  e = .returned (.int .i64 (add x l).1) ∧ StepQ w B b v (add x l).2 w'
set_option maxRecDepth 100000 in
theorem add_any (w : World) (B b : Nat) (v : Value) (l : List Wt) (x : Wt) (h : IsQ w B b v l) (hl : QueueM.Good l) :
    Calls Tryz.prog 27 #[.pointer (some ⟨b, 0, none⟩), wagg x] w fun e w' => AddPost w B b v x l e w' := by
  have hlen := hl.few
  have HG := zh hl
  have HQ := zh h
  clear hl h
  have HR : Hid (∀ w, Calls Tryz.prog 57 #[.agg #[.int .i64 x.id, .int .i64 x.cls, .int .i64 x.many, .int .i64 x.time, .float .f64 x.score]] w fun e w' => e = .returned (.bool (right x)) ∧ Fresh w w') := zh fun w => right_any x.id x.cls x.many x.time x.score w
  have HSE : Hid (∀ (w : World) (A : Option Addr) (cap : Nat), Rd w w.heap.size A (l.flatMap wcells) → Calls Tryz.prog 59 #[.slice A l.length cap, .agg #[.int .i64 x.id, .int .i64 x.cls, .int .i64 x.many, .int .i64 x.time, .float .f64 x.score], .func (.func 60) #[] #[]] w
      fun e w' => SearchPost w (cnt x l) e w') := zh fun w A cap hA => search_any w A cap l x hA (by omega) HG.out.sorted
  have HX1 : Hid (∀ u ∈ wcells x, u.oneCell' = true) := zh (by have := wcells_one [x]; simpa using this)
  have HADD := zh (show add x l = if right x = true then (if has x.id l = true then (7, l) else if 200 ≤ l.length then (3, l) else (0, ins x l)) else (1, l) from rfl)
  have HWC := zh (show wcells x = [.int .i64 x.id, .int .i64 x.cls, .int .i64 x.many, .int .i64 x.time, .float .f64 x.score] from rfl)
  unfold wagg
  obtain ⟨xi, xc, xm, xt, xs⟩ := x
  dsimp only at HR HSE HADD HWC ⊢
  go_in
  go_wp2_with fail
  obtain ⟨w0, hw0⟩ : ∃ w0, (w.alloc (.cells #[.int .i64 xi, .int .i64 xc, .int .i64 xm, .int .i64 xt, .float .f64 xs] 69)).alloc (.cells #[.int .i64 xi, .int .i64 xc, .int .i64 xm, .int .i64 xt, .float .f64 xs] 141) = w0 := ⟨_, rfl⟩
  rw [hw0]
  have HF0 : Hid (Fresh w w0) := zh (by rw [← hw0]; exact ((Frm.refl _ w).alloc _).alloc _)
  have BX : Hid (∀ w', Fresh w0 w' → Five w' w.heap.size 0 ⟨xi, xc, xm, xt, xs⟩ ∧ Five w' (w.heap.size + 1) 0 ⟨xi, xc, xm, xt, xs⟩) := zh fun w' F => by
    have B1 : Blk w0 w.heap.size 69 (wcells ⟨xi, xc, xm, xt, xs⟩).toArray := by rw [← hw0]; exact (Blk.new w _ _).alloc _
    have B2 : Blk w0 (w.heap.size + 1) 141 (wcells ⟨xi, xc, xm, xt, xs⟩).toArray := by
      rw [← hw0]
      have := Blk.new (w.alloc (.cells #[.int .i64 xi, .int .i64 xc, .int .i64 xm, .int .i64 xt, .float .f64 xs] 69)) 141 #[.int .i64 xi, .int .i64 xc, .int .i64 xm, .int .i64 xt, .float .f64 xs]
      rwa [World.size_alloc] at this
    exact ⟨five_blk (B1.frm F (fun f => f)), five_blk (B2.frm F (fun f => f))⟩
  have HQ0 := zh (HQ.out.fresh HF0.out)
  clear hw0
  generalize hrr : right ⟨xi, xc, xm, xt, xs⟩ = r at HR HADD
  clear hrr
  refine (HR.out w0).mono ?_
  rintro e w1 ⟨rfl, f1⟩
  have HF1 := zh f1
  have HQ1 := zh (HQ0.out.fresh f1)
  obtain ⟨⟨a0, a1, a2, a3, a4⟩, ⟨d0, d1, d2, d3, d4⟩⟩ := BX.out w1 f1
  dsimp only at a0 a1 a2 a3 a4 d0 d1 d2 d3 d4
  clear f1
  cases r with
  | false =>
    go_wp2_with fail
    go_ret
    rw [if_neg (by simp)] at HADD
    exact ⟨by rw [HADD.out]; exact rfl, by rw [HADD.out]; exact StepQ.still HQ.out (HF0.out.trans HF1.out)⟩
  | true =>
    rw [if_pos rfl] at HADD
    have HPL := zh (place_any w1 B b v l xi HQ1.out (by omega))
    rcases Bool.eq_false_or_eq_true (has xi l) with hh | hh
    · rw [hh, if_pos rfl] at HADD
      have hp := (plc_yes hh).1
      rw [hp] at HPL
      have hp0 : (0 : Int) ≤ (place xi l : Int) := by omega
      clear hp hh
      generalize (place xi l : Int) = p at HPL hp0
      go_wp2_with fail
      refine HPL.out.mono ?_
      rintro e w2 ⟨rfl, f2⟩
      have HF2 := zh f2
      clear f2
      go_wp2_with fail
      go_ret
      exact ⟨by rw [HADD.out]; exact rfl, by rw [HADD.out]; exact StepQ.still HQ.out ((HF0.out.trans HF1.out).trans HF2.out)⟩
    · rw [hh, if_neg (by simp)] at HADD
      have HHAS := zh hh
      rw [plc_no hh] at HPL
      clear hh
      go_wp2_with fail
      refine HPL.out.mono ?_
      rintro e w2 ⟨rfl, f2⟩
      have HF2 := zh (HF1.out.trans f2)
      have HQ2 := zh (HQ1.out.fresh f2)
      have hc := (HQ1.out.fresh f2).blk.cell 0
      obtain ⟨A, cap, rfl, hnc, hcm, _⟩ := HQ.out.sl.shape
      have hc : w2.cell? ⟨b, 0, none⟩ = some (.slice A l.length cap) := hc
      clear f2 a0 a1 a2 a3 a4 d0 d1 d2 d3 d4
      by_cases hfew : 200 ≤ l.length
      · rw [if_pos hfew] at HADD
        have hfi : (200 : Int) ≤ (l.length : Int) := by omega
        go_wp2_with fail
        go_ret
        exact ⟨by rw [HADD.out]; exact rfl, by rw [HADD.out]; exact StepQ.still HQ.out (HF0.out.trans HF2.out)⟩
      · rw [if_neg hfew] at HADD
        have hfi : ¬ (200 : Int) ≤ (l.length : Int) := by omega
        have CELL : Hid (∀ w', Fresh w2 w' → w'.cell? ⟨b, 0, none⟩ = some (.slice A l.length cap) ∧ w'.cell? ⟨w.heap.size + 1, 0, none⟩ = some (.int .i64 xi) ∧ w'.cell? ⟨w.heap.size + 1, 1, none⟩ = some (.int .i64 xc) ∧ w'.cell? ⟨w.heap.size + 1, 2, none⟩ = some (.int .i64 xm) ∧ w'.cell? ⟨w.heap.size + 1, 3, none⟩ = some (.int .i64 xt) ∧ w'.cell? ⟨w.heap.size + 1, 4, none⟩ = some (.float .f64 xs)) := zh fun w' F => by
          have c := (BX.out w' (HF2.out.trans F)).2
          exact ⟨(HQ2.out.fresh F).blk.cell 0, c.1, c.2.1, c.2.2.1, c.2.2.2.1, c.2.2.2.2⟩
        have HSR := zh (HSE.out w2.drew A cap (HQ2.out.sl.rd))
        go_wp2_with fail
        go_region_held3 (fun w' => w'.cell? ⟨b, 0, none⟩ = some (.slice A l.length cap) ∧ w'.cell? ⟨w.heap.size + 1, 0, none⟩ = some (.int .i64 xi) ∧ w'.cell? ⟨w.heap.size + 1, 1, none⟩ = some (.int .i64 xc) ∧ w'.cell? ⟨w.heap.size + 1, 2, none⟩ = some (.int .i64 xm) ∧ w'.cell? ⟨w.heap.size + 1, 3, none⟩ = some (.int .i64 xt) ∧ w'.cell? ⟨w.heap.size + 1, 4, none⟩ = some (.float .f64 xs))
          (first | exact CELL.out _ (Frm.refl _ _) | exact CELL.out _ ((Frm.refl _ _).drew) | exact CELL.out _ (((Frm.refl _ _).drew).trans HF3.out))
          (first
            | (go_at_call 59; refine (HSR.out).mono ?_; rintro e w3 ⟨bb, rfl, f3⟩; have HF3 := zh f3; clear f3))
        go_wp2_with fail
        have HF5 := zh ((HF0.out.trans HF2.out).trans ((Frm.refl (fun _ => False) w2).drew.trans HF3.out))
        have HQ5 := zh (HQ.out.fresh HF5.out)
        obtain ⟨w4, hw4⟩ : ∃ w4, w3.drew.alloc (.cells #[.int .i64 xi, .int .i64 xc, .int .i64 xm, .int .i64 xt, .float .f64 xs] 141) = w4 := ⟨_, rfl⟩
        have F4 : Fresh w3 w4 := by rw [← hw4]; exact ((Frm.refl _ w3).drew).alloc _
        have HQ4 := zh (HQ5.out.fresh F4)
        have B4 : Blk w4 w3.heap.size 141 (wcells ⟨xi, xc, xm, xt, xs⟩).toArray := by rw [← hw4]; exact Blk.new w3.drew _ _
        have hge := HQ5.out.ge
        have hblt := HQ5.out.blk.lt
        have hsz4 := F4.size
        have HAP := zh (HQ5.out.sl.apart HQ5.out.blk (by decide))
        have HINS := zh (insert_any w4 B (.slice A l.length cap) l.length (l.flatMap wcells) HQ4.out.sl (by omega) (by omega) (cnt ⟨xi, xc, xm, xt, xs⟩ l) (cnt_le _ _) (wcells_one l) w3.heap.size (wcells ⟨xi, xc, xm, xt, xs⟩) B4 rfl HX1.out (fun h => by
          have := (HQ5.out.sl.lt _ h).2
          omega))
        have g0 := CELL.out w3 ((Frm.refl _ _).drew.trans HF3.out)
        obtain ⟨g0, g1, g2, g3, g4, g5⟩ := g0
        have HF4 := zh F4
        have HCE : Hid (∀ w5 : World, Frm (fun k => (Value.slice A l.length cap).ownBlock = some k) w4 w5 → w5.cell? ⟨b, 0, none⟩ = some (.slice A l.length cap) ∧ w5.frozen? ⟨b, 0, none⟩ = false) := zh fun w5 F => by
          have k := HQ4.out.blk.frm F HAP.out
          exact ⟨k.cell 0, k.frozen 0⟩
        have SIX : Hid (∀ w', Frm (fun k => (Value.slice A l.length cap).ownBlock = some k) w3 w' → w'.cell? ⟨b, 0, none⟩ = some (.slice A l.length cap) ∧ w'.cell? ⟨w.heap.size + 1, 0, none⟩ = some (.int .i64 xi) ∧ w'.cell? ⟨w.heap.size + 1, 1, none⟩ = some (.int .i64 xc) ∧ w'.cell? ⟨w.heap.size + 1, 2, none⟩ = some (.int .i64 xm) ∧ w'.cell? ⟨w.heap.size + 1, 3, none⟩ = some (.int .i64 xt) ∧ w'.cell? ⟨w.heap.size + 1, 4, none⟩ = some (.float .f64 xs)) := zh fun w' F => by
          have hw0 := HF0.out.size
          have hlt1 : w.heap.size + 1 < w3.heap.size := World.block_lt_of_cell? _ _ g1
          have k := fun j => F.cell (p := ⟨w.heap.size + 1, j, none⟩) hlt1 (fun h => by
            have := (HQ.out.sl.lt _ h).2
            simp only at this
            omega)
          exact ⟨(F.cell (p := ⟨b, 0, none⟩) hblt (HAP.out)).trans g0, (k 0).trans g1, (k 1).trans g2, (k 2).trans g3, (k 3).trans g4, (k 4).trans g5⟩
        clear B4 F4
        have g6 := (HCE.out w4 (Frm.refl _ _)).1
        go_region_with (first
            | (go_at_call 61; refine (HINS.out).mono ?_; rintro e w5 ⟨v5, rfl, hs5, hf5, ho5⟩; obtain ⟨A5, c5, rfl, _⟩ := hs5.shape; obtain ⟨k1, k2⟩ := HCE.out w5 hf5; have HS5 := zh hs5; have HFR5 := zh hf5; have HO5 := zh ho5; clear hs5 hf5 ho5))
        all_goals (
          have HB5 := zh (HQ4.out.blk.frm HFR5.out HAP.out)
          have HS6 := zh (stored hge HB5.out HS5.out)
          have HFF : Hid (Frm (fun k => k = b ∨ (Value.slice A l.length cap).ownBlock = some k) w (w5.setCell ⟨b, 0, none⟩ (.slice A5 (l.length + 1) c5))) := zh (own_frm (HF5.out.trans HF4.out) HFR5.out)
          have hsz5 := (HF5.out.trans HF4.out).size
          have HIN := zh (wcells_ins ⟨xi, xc, xm, xt, xs⟩ l)
          clear k1 k2 hw4 g0 g1 g2 g3 g4 g5 g6
          go_wp2_with fail
          go_ret
          exact ⟨by rw [HADD.out]; exact rfl, by rw [HADD.out]; exact ⟨_, ⟨HS6.out.1, hge, by show Sl _ _ _ _ _ (ins _ l).length _; rw [ins_length, HIN.out]; exact HS6.out.2⟩, HFF.out, HO5.out.elim .inl (fun ⟨k, h1, h2⟩ => .inr ⟨k, h1, by omega⟩)⟩⟩)
end
end Go.Proofs.YtbeaoddjomdlcaaGreatDoor

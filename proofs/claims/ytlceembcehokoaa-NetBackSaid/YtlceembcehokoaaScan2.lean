/- What the program's Scan computes: the walk. -/
import Derived.Test.YtlceembcehokoaaScan
namespace Go.Proofs.Ytlceembcehokoaa.Rc
set_option maxRecDepth 100000
open Go.RowKit
attribute [local go_sem] Oper.semAt_some

/-- how far the region of a round has come -/
def RS (w W : World) (v : Value) (pre : List (List UInt8)) (x : List UInt8) (A12 : Option Addr) (c12 b13 : Nat) (v14 : Value) (L : Array Bool) (W' : World) : Prop :=
  if L.getD 5 false = true then ∃ W'', Frm (fun k => v.ownBlock = some k) W W'' ∧ Lists W'' (w.heap.size + 5) v14 (pre ++ [x]) ∧ W' = W''.setCell ⟨w.heap.size, 0, none⟩ v14
  else if L.getD 4 false = true then Frm (fun k => v.ownBlock = some k) W W' ∧ Lists W' (w.heap.size + 5) v14 (pre ++ [x])
  else if L.getD 3 false = true then (Fresh W W' ∧ Sl W' W.heap.size 5 1 (.slice A12 x.length c12) x.length (x.map bv)) ∧ Blk W' b13 26 #[.slice A12 x.length c12] ∧ W.heap.size ≤ b13
  else if L.getD 2 false = true then Fresh W W' ∧ Sl W' W.heap.size 5 1 (.slice A12 x.length c12) x.length (x.map bv)
  else Fresh W W'
section
variable {w W W' : World} {v : Value} {pre : List (List UInt8)} {x : List UInt8} {A12 : Option Addr} {c12 b13 : Nat} {v14 : Value} {L : Array Bool}
theorem RS.keep {i : Nat} (h : RS w W v pre x A12 c12 b13 v14 L W') (hi : i < 2) : RS w W v pre x A12 c12 b13 v14 (L.setIfInBounds i true) W' := by
  unfold RS at *
  rw [getD_set_ne (by omega), getD_set_ne (by omega), getD_set_ne (by omega), getD_set_ne (by omega)]
  exact h
theorem RS.fresh (h : RS w W v pre x A12 c12 b13 v14 L W') (n4 : L.getD 4 false = false) (n5 : L.getD 5 false = false) : Fresh W W' := by
  unfold RS at h
  rw [if_neg (by rw [n5]; simp), if_neg (by rw [n4]; simp)] at h
  split at h
  · exact h.1.1
  · split at h
    · exact h.1
    · exact h
theorem RS.two (h : RS w W v pre x A12 c12 b13 v14 L W') (l2 : L.getD 2 false = true) (n3 : L.getD 3 false = false) (n4 : L.getD 4 false = false) (n5 : L.getD 5 false = false) : Fresh W W' ∧ Sl W' W.heap.size 5 1 (.slice A12 x.length c12) x.length (x.map bv) := by
  unfold RS at h
  rw [if_neg (by rw [n5]; simp), if_neg (by rw [n4]; simp), if_neg (by rw [n3]; simp), if_pos l2] at h
  exact h
theorem RS.three (h : RS w W v pre x A12 c12 b13 v14 L W') (l3 : L.getD 3 false = true) (n4 : L.getD 4 false = false) (n5 : L.getD 5 false = false) : (Fresh W W' ∧ Sl W' W.heap.size 5 1 (.slice A12 x.length c12) x.length (x.map bv)) ∧ Blk W' b13 26 #[.slice A12 x.length c12] ∧ W.heap.size ≤ b13 := by
  unfold RS at h
  rw [if_neg (by rw [n5]; simp), if_neg (by rw [n4]; simp), if_pos l3] at h
  exact h
theorem RS.four (h : RS w W v pre x A12 c12 b13 v14 L W') (l4 : L.getD 4 false = true) (n5 : L.getD 5 false = false) : Frm (fun k => v.ownBlock = some k) W W' ∧ Lists W' (w.heap.size + 5) v14 (pre ++ [x]) := by
  unfold RS at h
  rw [if_neg (by rw [n5]; simp), if_pos l4] at h
  exact h
theorem RS.to2 (hs : L.size = 6) (n3 : L.getD 3 false = false) (n4 : L.getD 4 false = false) (n5 : L.getD 5 false = false) (h : Fresh W W' ∧ Sl W' W.heap.size 5 1 (.slice A12 x.length c12) x.length (x.map bv)) : RS w W v pre x A12 c12 b13 v14 (L.setIfInBounds 2 true) W' := by
  unfold RS
  rw [getD_set_ne (by decide), getD_set_ne (by decide), getD_set_ne (by decide), getD_set_eq (by omega), if_neg (by rw [n5]; simp), if_neg (by rw [n4]; simp), if_neg (by rw [n3]; simp), if_pos rfl]
  exact h
theorem RS.to3 (hs : L.size = 6) (n4 : L.getD 4 false = false) (n5 : L.getD 5 false = false) (h : (Fresh W W' ∧ Sl W' W.heap.size 5 1 (.slice A12 x.length c12) x.length (x.map bv)) ∧ Blk W' b13 26 #[.slice A12 x.length c12] ∧ W.heap.size ≤ b13) : RS w W v pre x A12 c12 b13 v14 (L.setIfInBounds 3 true) W' := by
  unfold RS
  rw [getD_set_ne (show 3 ≠ 5 by decide), getD_set_ne (show 3 ≠ 4 by decide), getD_set_eq (by omega), if_neg (by rw [n5]; simp), if_neg (by rw [n4]; simp), if_pos rfl]
  exact h
theorem RS.to4 (hs : L.size = 6) (n5 : L.getD 5 false = false) (h : Frm (fun k => v.ownBlock = some k) W W' ∧ Lists W' (w.heap.size + 5) v14 (pre ++ [x])) : RS w W v pre x A12 c12 b13 v14 (L.setIfInBounds 4 true) W' := by
  unfold RS
  rw [getD_set_ne (show 4 ≠ 5 by decide), getD_set_eq (by omega), if_neg (by rw [n5]; simp), if_pos rfl]
  exact h
theorem RS.to5 (hs : L.size = 6) {W'' : World} (h1 : Frm (fun k => v.ownBlock = some k) W W'') (h2 : Lists W'' (w.heap.size + 5) v14 (pre ++ [x])) : RS w W v pre x A12 c12 b13 v14 (L.setIfInBounds 5 true) (W''.setCell ⟨w.heap.size, 0, none⟩ v14) := by
  unfold RS
  rw [getD_set_eq (by omega), if_pos rfl]
  exact ⟨W'', h1, h2, rfl⟩
theorem RS.done (h : RS w W v pre x A12 c12 b13 v14 (Array.replicate 6 true) W') : ∃ W'', Frm (fun k => v.ownBlock = some k) W W'' ∧ Lists W'' (w.heap.size + 5) v14 (pre ++ [x]) ∧ W' = W''.setCell ⟨w.heap.size, 0, none⟩ v14 := by
  unfold RS at h
  rw [if_pos (by simp [Array.getD])] at h
  exact h
end
/-- one more in a list of the call's own -/
theorem lists_more {W' W3 : World} {B : Nat} {v v14 : Value} {bl : List Bs} {A12 : Option Addr} {c12 : Nat} {x : List UInt8}
    (hB : Sl W' B 26 1 v bl.length (bl.map bsv)) (hel : ∀ b ∈ bl, Sl W' B 5 1 (bsv b) b.2.2.length (b.2.2.map bv)) (hx : Sl W' B 5 1 (.slice A12 x.length c12) x.length (x.map bv))
    (hf : Frm (fun k => v.ownBlock = some k) W' W3) (h : Sl W3 B 26 1 v14 (bl.length + 1) (bl.map bsv ++ [.slice A12 x.length c12])) : Lists W3 B v14 (bl.map (·.2.2) ++ [x]) := by
  refine ⟨bl ++ [(A12, c12, x)], ?_, ?_, by simp⟩
  · rw [List.length_append, List.map_append]
    exact h
  · intro b hb
    rcases List.mem_append.1 hb with hb | hb
    · exact (hel b hb).frm hf (sl_apart (hel b hb) hB (by decide))
    · rw [List.mem_singleton] at hb
      subst hb
      exact hx.frm hf (sl_apart hx hB (by decide))
set_option maxRecDepth 100000 in
set_option maxHeartbeats 4000000 in
theorem scan_any (w : World) (A : Option Addr) (cap : Nat) (bs : List UInt8) (hb : Rd w w.heap.size A (bs.map bv)) (hl : bs.length ≤ 1000000) (hle : bs.length ≤ cap) (hcap : cap ≤ 9223372036854775807) :
    Calls Try.prog 50 #[.slice A bs.length cap] w fun e w' => ScanPost w bs e w' := by
  have HB := Lib.hid hb
  clear hb
  refine (callsIn_wide (n := 9)).1 ?_
  refine callsIn_of_wp_marks Try.func50 rfl trivial ?_ rfl
  simp only [Try.ntmps50, List.size_toArray, List.length_cons, List.length_nil, Nat.reduceAdd, Nat.reduceSub, Array.replicate_succ, Array.replicate_zero, List.push_toArray, List.append_toArray, List.nil_append, List.cons_append]
  gi_wp2_with fail
  refine ⟨trivial, (callsIn_wide.2 (records_any _ A bs.length cap)).mono ?_⟩
  rintro e w1 ⟨rfl, rfl⟩
  gi_wp2_with fail
  obtain ⟨w0, hw0⟩ : ∃ w0, ((w.alloc (.cells #[.slice none 0 0] 50)).alloc (.cells #[.int .i64 0] 3)).alloc (.cells #[.slice A bs.length cap] 26) = w0 := ⟨_, rfl⟩
  rw [hw0]
  have hsz : w0.heap.size = w.heap.size + 3 := by rw [← hw0]; simp
  have F0 : Fresh w w0 := by rw [← hw0]; exact (((Frm.refl _ w).alloc _).alloc _).alloc _
  have B1 : Blk w0 w.heap.size 50 #[.slice none 0 0] := by rw [← hw0]; exact ((Blk.new w _ _).alloc _).alloc _
  have B2 : Blk w0 (w.heap.size + 1) 3 #[.int .i64 0] := by
    rw [← hw0]
    have := (Blk.new (w.alloc (.cells #[.slice none 0 0] 50)) 3 #[.int .i64 0]).alloc (.cells #[.slice A bs.length cap] 26)
    rwa [World.size_alloc] at this
  have B3 : Box w0 w.heap.size (w.heap.size + 1 + 1) A cap bs := by
    refine ⟨?_, HB.out.fresh (Nat.le_refl _) F0, hle, hcap, by omega⟩
    rw [← hw0]
    have := Blk.new ((w.alloc (.cells #[.slice none 0 0] 50)).alloc (.cells #[.int .i64 0] 3)) 26 #[.slice A bs.length cap]
    rwa [World.size_alloc, World.size_alloc] at this
  clear hw0
  refine range_records (Bn := w.heap.size + 1 + 1) (B0 := w.heap.size) (A := A) (cap := cap) (bs := bs) rfl hl B3
    (fun pre W => ∃ v, Blk W w.heap.size 50 #[v] ∧ Lists W (w.heap.size + 5) v pre ∧ Blk W (w.heap.size + 1) 3 #[.int .i64 ((recs pre).length : Int)] ∧ Fresh w W) ?_ ⟨_, B1, Lists.nil _ _, B2, F0⟩
    (fun v => { tmps := #[.slice A bs.length cap, undef, .slice none 0 0, .int .i64 0, .pointer (some ⟨w.heap.size, 0, none⟩), .pointer (some ⟨w.heap.size + 1, 0, none⟩), v, .slice A bs.length cap, .func (.func 113) #[] #[.pointer (some ⟨w.heap.size + 1 + 1, 0, none⟩)], v, undef, undef, undef, undef, undef, undef, undef, undef, undef, undef, undef, undef], defers := [] }) ?assign ?body ?done
  · rintro s U V ⟨v, h1, h2, h3, h4⟩ hf
    rw [hsz] at hf
    exact ⟨v, h1.frm hf (by omega), h2.frm hf (fun k hk _ => by omega), h3.frm hf (by omega), h4.trans' hf (fun i hi k => by omega)⟩
  case assign =>
    intro l v W K hK
    gi_wp2_with fail
    exact hK
  case done =>
    rintro W ⟨v, h1, h2, h3, h4⟩ hK
    rw [hsz] at hK
    obtain ⟨Ao, co, rfl, _, _⟩ := h2.shape
    have c1 : W.cell? ⟨w.heap.size, 0, none⟩ = some (.slice Ao (scan bs).1.length co) := h1.cell 0
    have c2 : W.cell? ⟨w.heap.size + 1, 0, none⟩ = some (.int .i64 ((recs (scan bs).1).length : Int)) := h3.cell 0
    have H2 := Lib.hid h2
    have H4 := Lib.hid h4
    have HK := Lib.hid hK
    rw [hsz]
    clear h1 h2 h3 h4 hK
    gi_wp2_with fail
    gi_region
    gi_wp2_with fail
    have hK2 : W.drew.heap[w.heap.size + 3]? = some (.deferred (some [])) := HK.out
    refine ⟨by simp, .inl ⟨_, _, rfl, run_takeDeferred hK2, ?_⟩⟩
    have FD := frm_putObj W.drew (w.heap.size + 3) (.deferred none)
    refine ⟨.tuple #[.slice Ao (scan bs).1.length co, .int .i64 ((recs (scan bs).1).length : Int)], by simp [results, Try.results50, go_sem], .slice Ao (scan bs).1.length co, by rw [scan_len], ?_, ?_⟩
    · exact (H2.out.frm (((Frm.refl (fun k => k = w.heap.size + 3) W).drew).trans FD) (fun k hk _ => by omega)).less (by omega)
    · exact H4.out.drew.trans' FD (fun i hi e => by omega)
  case body =>
    rintro l pre x A' c' W ⟨v, h1, h2, h3, h4⟩ hr hB hsW hlen
    rw [hsz] at hsW
    have H1 := Lib.hid h1
    have H2 := Lib.hid h2
    have H3 := Lib.hid h3
    have H4 := Lib.hid h4
    have HR := Lib.hid hr
    have hcnt := recs_cnt pre
    clear h1 h2 h3 h4 hr
    gi_wp2_with fail
    refine wpIn_region_rel (by kernel_rfl) (fun L a W' => ∃ (A12 : Option Addr) (c12 b13 : Nat) (v14 : Value), a = { tmps := #[.slice A bs.length cap, undef, .slice none 0 0, .int .i64 0, .pointer (some ⟨w.heap.size, 0, none⟩), .pointer (some ⟨w.heap.size + 1, 0, none⟩), .slice A' x.length c', .slice A bs.length cap, .func (.func 113) #[] #[.pointer (some ⟨w.heap.size + 1 + 1, 0, none⟩)], .slice A' x.length c', slot L 0 v undef, slot L 1 (.slice A' x.length c') undef, slot L 2 (.slice A12 x.length c12) undef, slot L 3 (.slice (some ⟨b13, 0, none⟩) 1 1) undef, slot L 4 v14 undef, undef, undef, undef, undef, undef, undef, undef], defers := [] } ∧ RS w W v pre x A12 c12 b13 v14 L W') ?_ (early_of (by kernel_rfl)) ?step ?fin
    · refine ⟨none, 0, 0, undef, by simp only [slot_none], ?_⟩
      unfold RS
      rw [if_neg (by simp [Array.getD]), if_neg (by simp [Array.getD]), if_neg (by simp [Array.getD]), if_neg (by simp [Array.getD])]
      exact (Frm.refl _ W).drew
    case step =>
      rintro L i a W' hLs hcl hi hun hdep ⟨A12, c12, b13, v14, rfl, hRS⟩
      have hL6 : L.size = 6 := hLs
      have hi6 : i < 6 := hi
      have HS := Lib.hid hL6
      rcases (show i = 0 ∨ i = 1 ∨ i = 2 ∨ i = 3 ∨ i = 4 ∨ i = 5 by omega) with rfl | rfl | rfl | rfl | rfl | rfl
      · have n4 : L.getD 4 false = false := by
          rcases Bool.eq_false_or_eq_true (L.getD 4 false) with k4 | k4
          · have k0 : L.getD 0 false = true := hcl 4 _ rfl k4 ⟨0, .data⟩ (by simp) rfl
            rw [k0] at hun
            cases hun
          · exact k4
        have n5 : L.getD 5 false = false := by
          rcases Bool.eq_false_or_eq_true (L.getD 5 false) with k5 | k5
          · have k4 : L.getD 4 false = true := hcl 5 _ rfl k5 ⟨4, .data⟩ (by simp) rfl
            have k0 : L.getD 0 false = true := hcl 4 _ rfl k4 ⟨0, .data⟩ (by simp) rfl
            rw [k0] at hun
            cases hun
          · exact k5
        have hF := hRS.fresh n4 n5
        have hc : W'.cell? ⟨w.heap.size, 0, none⟩ = some v := (H1.out.frm hF (fun f => f)).cell 0
        have HRS := Lib.hid hRS
        have HE := Lib.hid (show ∀ v u, slot (L.setIfInBounds 0 true) 0 v u = v from slot_set_eq (by omega))
        refine wpOpIn_list (o := _) rfl (fun K hK => ?_)
        clear hLs hcl hi hun hdep hRS hL6 hi6 hF n4 n5
        gi_wp2_with fail
        exact ⟨A12, c12, b13, v14, by simp only [HE.out, slot_set_ne (show (0 : Nat) ≠ 1 by decide), slot_set_ne (show (0 : Nat) ≠ 2 by decide), slot_set_ne (show (0 : Nat) ≠ 3 by decide), slot_set_ne (show (0 : Nat) ≠ 4 by decide)], HRS.out.keep (by decide)⟩
      · have HRS := Lib.hid hRS
        have HE := Lib.hid (show ∀ v u, slot (L.setIfInBounds 1 true) 1 v u = v from slot_set_eq (by omega))
        refine wpOpIn_list (o := _) rfl (fun K hK => ?_)
        clear hLs hcl hi hun hdep hRS hL6 hi6
        gi_wp2_with fail
        exact ⟨A12, c12, b13, v14, by simp only [HE.out, slot_set_ne (show (1 : Nat) ≠ 0 by decide), slot_set_ne (show (1 : Nat) ≠ 2 by decide), slot_set_ne (show (1 : Nat) ≠ 3 by decide), slot_set_ne (show (1 : Nat) ≠ 4 by decide)], HRS.out.keep (by decide)⟩
      · have l1 : L.getD 1 false = true := hdep _ rfl ⟨1, .data⟩ (by simp) rfl
        have n3 : L.getD 3 false = false := by
          rcases Bool.eq_false_or_eq_true (L.getD 3 false) with k3 | k3
          · have k2 : L.getD 2 false = true := hcl 3 _ rfl k3 ⟨2, .data⟩ (by simp) rfl
            rw [k2] at hun
            cases hun
          · exact k3
        have n4 : L.getD 4 false = false := by
          rcases Bool.eq_false_or_eq_true (L.getD 4 false) with k4 | k4
          · have k3 : L.getD 3 false = true := hcl 4 _ rfl k4 ⟨3, .data⟩ (by simp) rfl
            have k2 : L.getD 2 false = true := hcl 3 _ rfl k3 ⟨2, .data⟩ (by simp) rfl
            rw [k2] at hun
            cases hun
          · exact k4
        have n5 : L.getD 5 false = false := by
          rcases Bool.eq_false_or_eq_true (L.getD 5 false) with k5 | k5
          · have k4 : L.getD 4 false = true := hcl 5 _ rfl k5 ⟨4, .data⟩ (by simp) rfl
            have k3 : L.getD 3 false = true := hcl 4 _ rfl k4 ⟨3, .data⟩ (by simp) rfl
            have k2 : L.getD 2 false = true := hcl 3 _ rfl k3 ⟨2, .data⟩ (by simp) rfl
            rw [k2] at hun
            cases hun
          · exact k5
        have hF := hRS.fresh n4 n5
        have HF := Lib.hid hF
        have HE := Lib.hid (show ∀ v u, slot (L.setIfInBounds 2 true) 2 v u = v from slot_set_eq (by omega))
        have H_1 := Lib.hid l1
        have N3 := Lib.hid n3
        have N4 := Lib.hid n4
        have N5 := Lib.hid n5
        have HN2 := Lib.hid (slot_no hun)
        refine wpOpIn_list (o := _) rfl (fun K hK => ?_)
        simp only [slot_yes l1]
        clear hLs hcl hi hun hdep hRS hL6 hi6 hF l1 n3 n4 n5
        gi_wp2_with fail
        have hcl := clone_any W' w.heap.size A' c' x (HR.out.fresh hB HF.out) (Nat.le_trans hB HF.out.size) (by omega)
        refine ⟨trivial, (CallsIn.inRound _ (callsIn_wide.2 hcl)).mono ?_⟩
        rintro e w2 ⟨v2, rfl, hs2, hf2⟩
        obtain ⟨A2, c2, rfl, _, _⟩ := hs2.shape
        have HS2 := Lib.hid (hs2.less HF.out.size)
        have HF2 := Lib.hid (HF.out.trans hf2)
        clear hs2 hf2 hcl
        gi_wp2_with fail
        exact ⟨A2, c2, b13, v14, by simp only [HE.out, slot_set_ne (show (2 : Nat) ≠ 0 by decide), slot_set_ne (show (2 : Nat) ≠ 1 by decide), slot_set_ne (show (2 : Nat) ≠ 3 by decide), slot_set_ne (show (2 : Nat) ≠ 4 by decide), slot_yes H_1.out], RS.to2 HS.out N3.out N4.out N5.out ⟨HF2.out, HS2.out⟩⟩
      · have l2 : L.getD 2 false = true := hdep _ rfl ⟨2, .data⟩ (by simp) rfl
        have n4 : L.getD 4 false = false := by
          rcases Bool.eq_false_or_eq_true (L.getD 4 false) with k4 | k4
          · have k3 : L.getD 3 false = true := hcl 4 _ rfl k4 ⟨3, .data⟩ (by simp) rfl
            rw [k3] at hun
            cases hun
          · exact k4
        have n5 : L.getD 5 false = false := by
          rcases Bool.eq_false_or_eq_true (L.getD 5 false) with k5 | k5
          · have k4 : L.getD 4 false = true := hcl 5 _ rfl k5 ⟨4, .data⟩ (by simp) rfl
            have k3 : L.getD 3 false = true := hcl 4 _ rfl k4 ⟨3, .data⟩ (by simp) rfl
            rw [k3] at hun
            cases hun
          · exact k5
        have h2 := hRS.two l2 hun n4 n5
        have HT := Lib.hid h2
        have HE := Lib.hid (show ∀ v u, slot (L.setIfInBounds 3 true) 3 v u = v from slot_set_eq (by omega))
        have H_2 := Lib.hid l2
        have N4 := Lib.hid n4
        have N5 := Lib.hid n5
        refine wpOpIn_list (o := _) rfl (fun K hK => ?_)
        simp only [slot_yes l2]
        clear hLs hcl hi hun hdep hRS hL6 hi6 h2 l2 n4 n5
        gi_wp2_with fail
        exact ⟨A12, c12, W'.heap.size, v14, by simp only [HE.out, slot_set_ne (show (3 : Nat) ≠ 0 by decide), slot_set_ne (show (3 : Nat) ≠ 1 by decide), slot_set_ne (show (3 : Nat) ≠ 2 by decide), slot_set_ne (show (3 : Nat) ≠ 4 by decide), slot_yes H_2.out], RS.to3 HS.out N4.out N5.out ⟨⟨HT.out.1.alloc _, HT.out.2.alloc _⟩, Blk.new W' _ _, HT.out.1.size⟩⟩
      · have l0 : L.getD 0 false = true := hdep _ rfl ⟨0, .data⟩ (by simp) rfl
        have l3 : L.getD 3 false = true := hdep _ rfl ⟨3, .data⟩ (by simp) rfl
        have n5 : L.getD 5 false = false := by
          rcases Bool.eq_false_or_eq_true (L.getD 5 false) with k5 | k5
          · have k4 : L.getD 4 false = true := hcl 5 _ rfl k5 ⟨4, .data⟩ (by simp) rfl
            rw [k4] at hun
            cases hun
          · exact k5
        obtain ⟨⟨hF, hS12⟩, hb13, hlb⟩ := hRS.three l3 hun n5
        obtain ⟨bl, q1, q2, q3⟩ := H2.out
        have hbll : bl.length = pre.length := by rw [← q3, List.length_map]
        have HQ1 := Lib.hid (q1.fresh hF)
        have HQ2 : Hid (∀ b ∈ bl, Sl W' (w.heap.size + 5) 5 1 (bsv b) b.2.2.length (b.2.2.map bv)) := Lib.hid (fun b hb => (q2 b hb).fresh hF)
        have HQ3 := Lib.hid q3
        have HS12 := Lib.hid (hS12.less (show w.heap.size + 5 ≤ W.heap.size by omega))
        have HF := Lib.hid hF
        have R13 : Hid (Rd W' W'.heap.size (some ⟨b13, 0, none⟩) [.slice A12 x.length c12]) := Lib.hid (fun _ => ⟨b13, 0, rfl, hb13.lt, fun j u hu => by rw [hb13.cell]; simpa using hu⟩)
        have hszW : w.heap.size + 5 ≤ W'.heap.size := Nat.le_trans hsW hF.size
        obtain ⟨i1, hi1, hy0, hy1, hy2⟩ := info_parts info_bs
        have HE := Lib.hid (show ∀ v u, slot (L.setIfInBounds 4 true) 4 v u = v from slot_set_eq (by omega))
        have H_0 := Lib.hid l0
        have H_3 := Lib.hid l3
        have N5 := Lib.hid n5
        refine wpOpIn_list (o := _) rfl (fun K hK => ?_)
        simp only [slot_yes l0, slot_yes l3]
        clear hLs hcl hi hun hdep hRS hL6 hi6 hF hS12 hb13 hlb q1 q2 q3 l0 l3 n5
        refine wpListIn_append_sl _ rfl (.tmp 10) (.tmp 13) _ rfl (w.heap.size + 5) 26 i1 _ 1 24 Try.underlying50 hi1 hy0 hy1 hy2 rfl (by omega) _ _ _ rfl HQ1.out _ _ 1 _ _ rfl (by rfl) R13.out (fun u hu => by simp at hu; subst hu; rfl) (by unfold maxLen; omega) (by omega) hszW ?_
        intro v9 w9 hs9 hf9 ha9
        have HS9 := Lib.hid hs9
        have HF9 := Lib.hid hf9
        clear hs9 hf9 ha9
        gi_wp2_with fail
        exact ⟨A12, c12, b13, v9, by simp only [HE.out, slot_set_ne (show (4 : Nat) ≠ 0 by decide), slot_set_ne (show (4 : Nat) ≠ 1 by decide), slot_set_ne (show (4 : Nat) ≠ 2 by decide), slot_set_ne (show (4 : Nat) ≠ 3 by decide), slot_yes H_0.out, slot_yes H_3.out]; rfl, RS.to4 HS.out N5.out ⟨HF.out.frm.trans HF9.out, by rw [← HQ3.out]; exact lists_more HQ1.out HQ2.out HS12.out HF9.out HS9.out⟩⟩
      · have l4 : L.getD 4 false = true := hdep _ rfl ⟨4, .data⟩ (by simp) rfl
        obtain ⟨hF, hL4⟩ := hRS.four l4 hun
        have hne : ¬ v.ownBlock = some w.heap.size := by
          intro he
          obtain ⟨bl, q1, _, _⟩ := H2.out
          have := (q1.lt _ he).1
          omega
        have hb4 := H1.out.frm hF hne
        have hc : W'.cell? ⟨w.heap.size, 0, none⟩ = some v := hb4.cell 0
        have hfz : W'.frozen? ⟨w.heap.size, 0, none⟩ = false := hb4.frozen 0
        obtain ⟨A4, c4, hv4, _, _⟩ := hL4.shape
        rw [show (pre ++ [x]).length = pre.length + 1 by simp] at hv4
        subst hv4
        have HF := Lib.hid hF
        have HL4 := Lib.hid hL4
        have H_4 := Lib.hid l4
        refine wpOpIn_list (o := _) rfl (fun K hK => ?_)
        simp only [slot_yes l4]
        clear hLs hcl hi hun hdep hRS hL6 hi6 hF hL4 hb4 l4
        gi_wp2_with fail
        exact ⟨A12, c12, b13, _, by simp only [slot_set_ne (show (5 : Nat) ≠ 0 by decide), slot_set_ne (show (5 : Nat) ≠ 1 by decide), slot_set_ne (show (5 : Nat) ≠ 2 by decide), slot_set_ne (show (5 : Nat) ≠ 3 by decide), slot_set_ne (show (5 : Nat) ≠ 4 by decide), slot_yes H_4.out], RS.to5 HS.out HF.out HL4.out⟩
    case fin =>
      rintro a W3 ⟨A12, c12, b13, v14, rfl, hRS⟩
      obtain ⟨W4, hF, hL4, rfl⟩ := RS.done hRS
      have hne : ¬ v.ownBlock = some w.heap.size := by
        intro he
        obtain ⟨bl, q1, _, _⟩ := H2.out
        have := (q1.lt _ he).1
        omega
      have hne1 : ¬ v.ownBlock = some (w.heap.size + 1) := by
        intro he
        obtain ⟨bl, q1, _, _⟩ := H2.out
        have := (q1.lt _ he).1
        omega
      have hown : ∀ k, v.ownBlock = some k → w.heap.size + 5 ≤ k := by
        intro k he
        obtain ⟨bl, q1, _, _⟩ := H2.out
        exact (q1.lt _ he).1
      obtain ⟨W5, hW5⟩ : ∃ W5, W4.setCell ⟨w.heap.size, 0, none⟩ v14 = W5 := ⟨_, rfl⟩
      have F5 : Frm (fun k => k = w.heap.size) W4 W5 := by rw [← hW5]; exact (Frm.refl (fun k => k = w.heap.size) W4).setCell (p := ⟨w.heap.size, 0, none⟩) (fun _ => rfl) _
      have b1 : Blk W5 w.heap.size 50 #[v14] := by rw [← hW5]; exact (H1.out.frm hF hne).set 0 v14
      have l5 := hL4.frm F5 (fun k hk _ => by omega)
      have b2 := (H3.out.frm hF hne1).frm F5 (by omega)
      have f5 : Frm (fun k => k = w.heap.size ∨ w.heap.size + 5 ≤ k) W W5 := (hF.mono (fun k _ e => .inr (hown k e))).trans (F5.mono (fun k _ e => .inl e))
      have c2 : W5.cell? ⟨w.heap.size + 1, 0, none⟩ = some (.int .i64 ((recs pre).length : Int)) := b2.cell 0
      have z2 : W5.frozen? ⟨w.heap.size + 1, 0, none⟩ = false := b2.frozen 0
      rw [hW5]
      have HB1 := Lib.hid b1
      have HL5 := Lib.hid l5
      have HB2 := Lib.hid b2
      have HF5 := Lib.hid f5
      clear hW5 F5 b1 l5 b2 f5 hne hne1 hown hF hL4 hRS
      simp only [List.size_toArray, List.length_cons, List.length_nil, Nat.reduceAdd, slot_all (show 0 < 6 by decide), slot_all (show 1 < 6 by decide), slot_all (show 2 < 6 by decide), slot_all (show 3 < 6 by decide), slot_all (show 4 < 6 by decide)]
      gi_wp2_with fail
      have hrl : (((recs (pre ++ [x])).length : Nat) : Int) = (recs pre).length + (8 + (x.length : Int)) := by
        rw [recs_snoc, List.length_append, rec_len]; omega
      have F6 := (Frm.refl (fun k => k = w.heap.size + 1) W5).setCell (p := ⟨w.heap.size + 1, 0, none⟩) (fun _ => rfl) (.int .i64 ((recs pre).length + (8 + (x.length : Int))))
      refine ⟨⟨v14, HB1.out.frm F6 (by omega), HL5.out.frm F6 (fun k hk _ => by omega), ?_, ?_⟩, ?_⟩
      · rw [hrl]
        exact HB2.out.set 0 _
      · exact (H4.out.trans' HF5.out (fun i hi e => by omega)).trans' F6 (fun i hi e => by omega)
      · refine (HF5.out.mono (fun k _ e => ?_)).trans (F6.mono (fun k _ e => ?_))
        · omega
        · omega
end Go.Proofs.Ytlceembcehokoaa.Rc

/- A packet sent through a net with cuts. -/
import Derived.Test.YtlceembcehokoaaNet12
import Derived.Maps.Views
namespace Go.Proofs.Ytlceembcehokoaa
open Go.RowKit
set_option maxRecDepth 100000

theorem isC_push {w0 w4 w5 : World} {b m n c : Nat} {D : DataW Unit} {v v' : Value} {xs ys : List Value} (hb : Blk w4 b 97 #[v, .map (some m)]) (hs : Sl w4 w0.heap.size 101 4 v n xs)
    (hm : w4.ownsMap Try.prog 98 (plainElem (H := Unit) Try.prog 4) m c D) (low : w0.heap.size ≤ b ∧ w0.heap.size ≤ m) (F : Fresh w0 w4) (hf : Frm (fun k => v.ownBlock = some k) w4 w5) (hs5 : Sl w5 w0.heap.size 101 4 v' (n + 1) ys) :
    IsC w0 b m (n + 1) c D (w5.setCell ⟨b, 0, none⟩ v') ∧ w5.cell? ⟨b, 0, none⟩ = some v ∧ w5.frozen? ⟨b, 0, none⟩ = false := by
  have hb5 : Blk w5 b 97 #[v, .map (some m)] := hb.frm hf (fun e => hs.apart hb (by decide) e)
  have hm5 := OM.frm hm hf (fun e => OM.not_sl hm hs e)
  have F2 : Frm (fun k => k = b) w5 (w5.setCell ⟨b, 0, none⟩ v') := (Frm.refl (fun k => k = b) w5).setCell (p := ⟨b, 0, none⟩) (fun _ => rfl) v'
  have hb6 := hb5.set 0 v'
  refine ⟨⟨⟨v', ys, by simpa using hb6, hs5.frm F2 (fun k hk e => by subst e; exact hs5.apart hb5 (by decide) hk)⟩, OM.frm hm5 F2 (OM.not_cells hm5 hb5), low, (F.trans' hf (fun k hk e => by have := (hs.lt k e).1; omega)).trans' F2 (fun k hk e => by have := low.1; omega)⟩, hb5.cell 0, hb5.frozen 0⟩
def SendCPost (w0 : World) (b m n c : Nat) (D : DataW Unit) (t : Int) (r : Bool) (e : Ending) (w' : World) : Prop :=
  if (1 ≤ t ∧ t ≤ 15) ∧ r = false then e = .returned (.bool true) ∧ IsC w0 b m (n + 1) c D w' else e = .returned (.bool false) ∧ IsC w0 b m n c D w'
set_option maxHeartbeats 8000000 in
theorem sendC_any (w0 w : World) (b m n c : Nat) (D : DataW Unit) (h : IsC w0 b m n c D w) (hn : n ≤ 100) (x t : Int) (x1 : 1 ≤ x) (x2 : x ≤ 15) (wx : (Lit.int .i64 x).wf = true) (wt : (Lit.int .i64 t).wf = true) (r : Bool) (hat : D.atKey (keyL x t) (.lit (.bool false)) = .lit (.bool r)) :
    Calls Try.prog 18 #[.pointer (some ⟨b, 0, none⟩), .agg #[.int .i64 x, .int .i64 t, .slice none 0 0]] w fun e w' => SendCPost w0 b m n c D t r e w' := by
  obtain ⟨i0, hi, hz0, hz1, hz2⟩ := info_parts info_pk
  obtain ⟨W, hW⟩ : ∃ W, w.alloc (.cells #[.int .i64 x, .int .i64 t, .slice none 0 0] 45) = W := ⟨_, rfl⟩
  have FW : Fresh w W := by rw [← hW]; exact (Frm.refl _ w).alloc _
  have BP : Hid (Blk W w.heap.size 45 #[.int .i64 x, .int .i64 t, .slice none 0 0]) := Lib.hid (by rw [← hW]; exact Blk.new w _ _)
  have HN := Lib.hid (h.fresh FW)
  obtain ⟨v, xs, hb, hs⟩ := HN.out.ex
  obtain ⟨A, cap, rfl, hcl, hcm, _⟩ := hs.shape
  have HB := Lib.hid hb
  have HS := Lib.hid hs
  have SS : Hid (W.drew.cell? ⟨w.heap.size, 0, none⟩ = some (.int .i64 x) ∧ W.drew.cell? ⟨w.heap.size, 1, none⟩ = some (.int .i64 t) ∧ W.drew.cell? ⟨w.heap.size, 2, none⟩ = some (.slice none 0 0) ∧ W.drew.cell? ⟨b, 0, none⟩ = some (.slice A n cap) ∧ W.drew.cell? ⟨b, 1, none⟩ = some (.map (some m))) :=
    Lib.hid ⟨BP.out.cell 0, BP.out.cell 1, BP.out.cell 2, HB.out.cell 0, HB.out.cell 1⟩
  have hask : (Instr.lookup 94 (.map (some m)) (.agg #[.int .i64 x, .int .i64 t]) false).run Try.prog W.drew = .ok (.bool r) W.drew :=
    OM.ask (w := W.drew) (b := m) (n := c) HN.out.map.drew (Maps.Keyed.of_law pair_key.law) Try.underlying94 Try.underlying4 (zero_bool W.drew) (WideMaps.keyOf_pair (a := x) (b := t) pair_key Try.underlying3 types_size wx wt) (r := r) hat
  have hn0 : (0 : Int) ≤ (n : Int) := by omega
  have hge : ¬ (4096 : Int) ≤ (n : Int) := by omega
  unfold SendCPost
  clear h hb hs FW wx wt hat
  by_cases ht : 1 ≤ t ∧ t ≤ 15
  · cases r with
    | false =>
      simp only [if_pos (⟨ht, rfl⟩ : (1 ≤ t ∧ t ≤ 15) ∧ false = false)]
      go_enter Try.func18, Try.ntmps18
      go_wp2_with fail
      clear hW
      go_region_held3 (fun w' => w'.cell? ⟨w.heap.size, 0, none⟩ = some (.int .i64 x) ∧ w'.cell? ⟨w.heap.size, 1, none⟩ = some (.int .i64 t) ∧ w'.cell? ⟨w.heap.size, 2, none⟩ = some (.slice none 0 0) ∧ w'.cell? ⟨b, 0, none⟩ = some (.slice A n cap) ∧ w'.cell? ⟨b, 1, none⟩ = some (.map (some m)))
        (exact SS.out)
        (first
          | (go_at_call 67; refine (node_yes x x1 x2 _).mono ?_; rintro e w' ⟨rfl, rfl⟩)
          | (go_at_call 67; refine (node_yes t ht.1 ht.2 _).mono ?_; rintro e w' ⟨rfl, rfl⟩))
      have SD := SS.out
      obtain ⟨d0, d1, d2, d3, d4⟩ := SD
      have d0 : W.drew.drew.cell? ⟨w.heap.size, 0, none⟩ = some (.int .i64 x) := d0
      have d1 : W.drew.drew.cell? ⟨w.heap.size, 1, none⟩ = some (.int .i64 t) := d1
      have d2 : W.drew.drew.cell? ⟨w.heap.size, 2, none⟩ = some (.slice none 0 0) := d2
      have d3 : W.drew.drew.cell? ⟨b, 0, none⟩ = some (.slice A n cap) := d3
      have HCO := Lib.hid (copied_any W.drew.drew x t none 0 [] (Rd.nil _ _ _) (by simp) (by simp) (by simp [maxLen]))
      go_wp2_with fail
      go_region_law
        ((first
          | (refine step_append_sl (by rfl) (.tmp 45) (.tmp 49) 95 (by rfl) w0.heap.size 101 i0 _ 4 48 Try.underlying95 hi hz0 hz1 hz2 rfl (by omega) (.slice A n cap) n xs (by rfl) HS4.out _ (some ⟨w3.heap.size, 0, none⟩) 1 1 [.int .i64 x, .int .i64 t, .slice A3 0 c3, .bool false] (by rfl) (by rfl) HR4.out HO4.out (by unfold maxLen; omega) (by omega) (by have := HF4.out.size; omega) ?_; intro v5 w5 hs5 hf5 _; have HP := Lib.hid (isC_push HB4.out HS4.out HM4.out HN.out.low HF4.out hf5 hs5); obtain ⟨A5, cp5, rfl, _⟩ := hs5.shape; have c5 := HP.out.2.1; have z5 := HP.out.2.2; clear hs5 hf5)
          | (go_simp; go_at_call 68; show Calls _ _ #[.agg #[.int .i64 x, .int .i64 t, .slice none 0 0]] W.drew.drew _; refine HCO.out.mono ?_; rintro e w3 ⟨v3, rfl, hs3, f3⟩; obtain ⟨A3, c3, rfl, _⟩ := hs3.shape; have HF3 := Lib.hid (HN.out.frm.trans ((((Frm.refl _ W).drew).drew).trans f3)); have hb3 := HB.out.frm ((((Frm.refl (fun _ => False) W).drew).drew).trans f3) (fun f => f); have e3 : w3.cell? ⟨b, 0, none⟩ = some (.slice A n cap) := hb3.cell 0; have e4 : ∀ o, (w3.alloc o).cell? ⟨b, 0, none⟩ = some (.slice A n cap) := (fun o => (hb3.alloc o).cell 0); have HB4 : Hid (Blk (w3.alloc (.cells #[.int .i64 x, .int .i64 t, .slice A3 0 c3, .bool false] 101)) b 97 #[.slice A n cap, .map (some m)]) := Lib.hid (hb3.alloc _); have HS4 : Hid (Sl (w3.alloc (.cells #[.int .i64 x, .int .i64 t, .slice A3 0 c3, .bool false] 101)) w0.heap.size 101 4 (.slice A n cap) n xs) := Lib.hid ((HS.out.fresh ((((Frm.refl _ W).drew).drew).trans f3)).alloc _); have HM4 : Hid ((w3.alloc (.cells #[.int .i64 x, .int .i64 t, .slice A3 0 c3, .bool false] 101)).ownsMap Try.prog 98 (plainElem (H := Unit) Try.prog 4) m c D) := Lib.hid (World.ownsMap.alloc (OM.frm HN.out.map ((((Frm.refl (fun _ => False) W).drew).drew).trans f3) (fun f => f)) _); have HF4 : Hid (Fresh w0 (w3.alloc (.cells #[.int .i64 x, .int .i64 t, .slice A3 0 c3, .bool false] 101))) := Lib.hid (HF3.out.alloc _); have HR4 := Lib.hid (rd_new w3 [Value.int .i64 x, .int .i64 t, .slice A3 0 c3, .bool false] 101); have HO4 : Hid (∀ u ∈ [Value.int .i64 x, Value.int .i64 t, Value.slice A3 0 c3, Value.bool false], u.oneCell' = true) := Lib.hid (by intro u hu; simp only [List.mem_cons, List.not_mem_nil, or_false] at hu; rcases hu with rfl | rfl | rfl | rfl <;> rfl); clear hs3 f3 hb3)))
      all_goals
        go_wp2_with fail
        all_goals
          go_ret
          exact ⟨by simp, HP.out.1⟩
    | true =>
      simp only [if_neg (show ¬ ((1 ≤ t ∧ t ≤ 15) ∧ true = false) by simp)]
      go_enter Try.func18, Try.ntmps18
      go_wp2_with fail
      clear hW
      refine wp_region_held_drew (S := fun w' => w'.cell? ⟨w.heap.size, 0, none⟩ = some (.int .i64 x) ∧ w'.cell? ⟨w.heap.size, 1, none⟩ = some (.int .i64 t) ∧ w'.cell? ⟨w.heap.size, 2, none⟩ = some (.slice none 0 0) ∧ w'.cell? ⟨b, 0, none⟩ = some (.slice A n cap) ∧ w'.cell? ⟨b, 1, none⟩ = some (.map (some m))) (by kernel_rfl) SS.out (fun hHeld => ?_)
      refine wpAnyH_take (i := 0) (v := ?_) (op_here) (by kernel_rfl) (by kernel_rfl) (by kernel_rfl) (fun _ _ _ h => h) (Or.inl ⟨by rfl, ?_⟩) (by assumption) ?_
      rotate_left 1
      (intro w hSw; (try dsimp only at hSw); go_simp; try with_reducible rfl)
      try simp only [Act.put, List.setIfInBounds_toArray, List.set_cons_zero, List.set_cons_succ]
      refine wpAnyH_take (i := 1) (v := ?_) (op_later (op_here)) (by kernel_rfl) (by kernel_rfl) (by kernel_rfl) (fun _ _ _ h => h) (Or.inl ⟨by rfl, ?_⟩) (by assumption) ?_
      rotate_left 1
      (intro w hSw; (try dsimp only at hSw); go_simp; try with_reducible rfl)
      try simp only [Act.put, List.setIfInBounds_toArray, List.set_cons_zero, List.set_cons_succ]
      refine wpAnyH_ready (rs := [2]) (by kernel_rfl) (by simp) (AllReadyH.cons (op_later (op_later (op_here))) (fun K hK => ?_) AllReadyH.nil)
      go_simp
      refine (node_yes x x1 x2 _).mono ?_
      rintro e w' ⟨rfl, rfl⟩
      refine hK.out _ _ SS.out (fun hHeld => ?_)
      clear hK K
      try simp only [Act.put, List.setIfInBounds_toArray, List.set_cons_zero, List.set_cons_succ]
      refine wpAnyH_take (i := 3) (v := ?_) (op_later (op_later (op_later (op_here)))) (by kernel_rfl) (by kernel_rfl) (by kernel_rfl) (fun _ _ _ h => h) (Or.inl ⟨by rfl, ?_⟩) (by assumption) ?_
      rotate_left 1
      (intro w hSw; (try dsimp only at hSw); go_simp; try with_reducible rfl)
      try simp only [Act.put, List.setIfInBounds_toArray, List.set_cons_zero, List.set_cons_succ]
      refine wpAnyH_take (i := 4) (v := ?_) (op_later (op_later (op_later (op_later (op_here))))) (by kernel_rfl) (by kernel_rfl) (by kernel_rfl) (fun _ _ _ h => h) (Or.inl ⟨by rfl, ?_⟩) (by assumption) ?_
      rotate_left 1
      (intro w hSw; (try dsimp only at hSw); go_simp; try with_reducible rfl)
      try simp only [Act.put, List.setIfInBounds_toArray, List.set_cons_zero, List.set_cons_succ]
      refine wpAnyH_take (i := 5) (v := ?_) (op_later (op_later (op_later (op_later (op_later (op_here)))))) (by kernel_rfl) (by kernel_rfl) (by kernel_rfl) (fun _ _ _ h => h) (Or.inl ⟨by rfl, ?_⟩) (by assumption) ?_
      rotate_left 1
      (intro w hSw; (try dsimp only at hSw); go_simp; try with_reducible rfl)
      try simp only [Act.put, List.setIfInBounds_toArray, List.set_cons_zero, List.set_cons_succ]
      refine wpAnyH_take (i := 6) (v := ?_) (op_later (op_later (op_later (op_later (op_later (op_later (op_here))))))) (by kernel_rfl) (by kernel_rfl) (by kernel_rfl) (fun _ _ _ h => h) (Or.inl ⟨by rfl, ?_⟩) (by assumption) ?_
      rotate_left 1
      (intro w hSw; (try dsimp only at hSw); go_simp; try with_reducible rfl)
      try simp only [Act.put, List.setIfInBounds_toArray, List.set_cons_zero, List.set_cons_succ]
      refine wpAnyH_ready (rs := [7]) (by kernel_rfl) (by simp) (AllReadyH.cons (op_later (op_later (op_later (op_later (op_later (op_later (op_later (op_here)))))))) (fun K hK => ?_) AllReadyH.nil)
      go_simp
      refine (node_yes t ht.1 ht.2 _).mono ?_
      rintro e w' ⟨rfl, rfl⟩
      refine hK.out _ _ SS.out (fun hHeld => ?_)
      clear hK K
      try simp only [Act.put, List.setIfInBounds_toArray, List.set_cons_zero, List.set_cons_succ]
      refine wpAnyH_take (i := 8) (v := ?_) (op_later (op_later (op_later (op_later (op_later (op_later (op_later (op_later (op_here))))))))) (by kernel_rfl) (by kernel_rfl) (by kernel_rfl) (fun _ _ _ h => h) (Or.inl ⟨by rfl, ?_⟩) (by assumption) ?_
      rotate_left 1
      (intro w hSw; (try dsimp only at hSw); go_simp; try with_reducible rfl)
      try simp only [Act.put, List.setIfInBounds_toArray, List.set_cons_zero, List.set_cons_succ]
      refine wpAnyH_take (i := 9) (v := ?_) (op_later (op_later (op_later (op_later (op_later (op_later (op_later (op_later (op_later (op_here)))))))))) (by kernel_rfl) (by kernel_rfl) (by kernel_rfl) (fun _ _ _ h => h) (Or.inl ⟨by rfl, ?_⟩) (by assumption) ?_
      rotate_left 1
      (intro w hSw; (try dsimp only at hSw); go_simp; try with_reducible rfl)
      try simp only [Act.put, List.setIfInBounds_toArray, List.set_cons_zero, List.set_cons_succ]
      refine wpAnyH_take (i := 10) (v := ?_) (op_later (op_later (op_later (op_later (op_later (op_later (op_later (op_later (op_later (op_later (op_here))))))))))) (by kernel_rfl) (by kernel_rfl) (by kernel_rfl) (fun _ _ _ h => h) (Or.inl ⟨by rfl, ?_⟩) (by assumption) ?_
      rotate_left 1
      (intro w hSw; (try dsimp only at hSw); go_simp; try with_reducible rfl)
      try simp only [Act.put, List.setIfInBounds_toArray, List.set_cons_zero, List.set_cons_succ]
      refine wpAnyH_take (i := 11) (v := ?_) (op_later (op_later (op_later (op_later (op_later (op_later (op_later (op_later (op_later (op_later (op_later (op_here)))))))))))) (by kernel_rfl) (by kernel_rfl) (by kernel_rfl) (fun _ _ _ h => h) (Or.inl ⟨by rfl, ?_⟩) (by assumption) ?_
      rotate_left 1
      (intro w hSw; (try dsimp only at hSw); go_simp; try with_reducible rfl)
      try simp only [Act.put, List.setIfInBounds_toArray, List.set_cons_zero, List.set_cons_succ]
      refine wpAnyH_take (i := 12) (v := ?_) (op_later (op_later (op_later (op_later (op_later (op_later (op_later (op_later (op_later (op_later (op_later (op_later (op_here))))))))))))) (by kernel_rfl) (by kernel_rfl) (by kernel_rfl) (fun _ _ _ h => h) (Or.inl ⟨by rfl, ?_⟩) (by assumption) ?_
      rotate_left 1
      (intro w hSw; (try dsimp only at hSw); go_simp; try with_reducible rfl)
      try simp only [Act.put, List.setIfInBounds_toArray, List.set_cons_zero, List.set_cons_succ]
      refine wpAnyH_take (i := 13) (v := ?_) (op_later (op_later (op_later (op_later (op_later (op_later (op_later (op_later (op_later (op_later (op_later (op_later (op_later (op_here)))))))))))))) (by kernel_rfl) (by kernel_rfl) (by kernel_rfl) (fun _ _ _ h => h) (Or.inl ⟨by rfl, ?_⟩) (by assumption) ?_
      rotate_left 1
      (intro w hSw; (try dsimp only at hSw); go_simp; try with_reducible rfl)
      try simp only [Act.put, List.setIfInBounds_toArray, List.set_cons_zero, List.set_cons_succ]
      refine wpAnyH_take (i := 14) (v := ?_) (op_later (op_later (op_later (op_later (op_later (op_later (op_later (op_later (op_later (op_later (op_later (op_later (op_later (op_later (op_here))))))))))))))) (by kernel_rfl) (by kernel_rfl) (by kernel_rfl) (fun _ _ _ h => h) (Or.inl ⟨by rfl, ?_⟩) (by assumption) ?_
      rotate_left 1
      (intro w hSw; (try dsimp only at hSw); go_simp; try with_reducible rfl)
      try simp only [Act.put, List.setIfInBounds_toArray, List.set_cons_zero, List.set_cons_succ]
      refine wpAnyH_take (i := 15) (v := ?_) (op_later (op_later (op_later (op_later (op_later (op_later (op_later (op_later (op_later (op_later (op_later (op_later (op_later (op_later (op_later (op_here)))))))))))))))) (by kernel_rfl) (by kernel_rfl) (by kernel_rfl) (fun _ _ _ h => h) (Or.inl ⟨by rfl, ?_⟩) (by assumption) ?_
      rotate_left 1
      (intro w hSw; (try dsimp only at hSw); go_simp; try with_reducible rfl)
      try simp only [Act.put, List.setIfInBounds_toArray, List.set_cons_zero, List.set_cons_succ]
      refine wpAnyH_take (i := 16) (v := ?_) (op_later (op_later (op_later (op_later (op_later (op_later (op_later (op_later (op_later (op_later (op_later (op_later (op_later (op_later (op_later (op_later (op_here))))))))))))))))) (by kernel_rfl) (by kernel_rfl) (by kernel_rfl) (fun _ _ _ h => h) (Or.inl ⟨by rfl, ?_⟩) (by assumption) ?_
      rotate_left 1
      (intro w hSw; (try dsimp only at hSw); go_simp; try with_reducible rfl)
      try simp only [Act.put, List.setIfInBounds_toArray, List.set_cons_zero, List.set_cons_succ]
      refine wpAnyH_take (i := 17) (v := ?_) (op_later (op_later (op_later (op_later (op_later (op_later (op_later (op_later (op_later (op_later (op_later (op_later (op_later (op_later (op_later (op_later (op_later (op_here)))))))))))))))))) (by kernel_rfl) (by kernel_rfl) (by kernel_rfl) (fun _ _ _ h => h) (Or.inl ⟨by rfl, ?_⟩) (by assumption) ?_
      rotate_left 1
      (intro w hSw; (try dsimp only at hSw); go_simp; try with_reducible rfl)
      try simp only [Act.put, List.setIfInBounds_toArray, List.set_cons_zero, List.set_cons_succ]
      refine wpAnyH_take (i := 18) (v := ?_) (op_later (op_later (op_later (op_later (op_later (op_later (op_later (op_later (op_later (op_later (op_later (op_later (op_later (op_later (op_later (op_later (op_later (op_later (op_here))))))))))))))))))) (by kernel_rfl) (by kernel_rfl) (by kernel_rfl) (fun _ _ _ h => h) (Or.inl ⟨by rfl, ?_⟩) (by assumption) ?_
      rotate_left 1
      (intro w hSw; (try dsimp only at hSw); go_simp; try with_reducible rfl)
      try simp only [Act.put, List.setIfInBounds_toArray, List.set_cons_zero, List.set_cons_succ]
      refine wpAnyH_take (i := 19) (v := ?_) (op_later (op_later (op_later (op_later (op_later (op_later (op_later (op_later (op_later (op_later (op_later (op_later (op_later (op_later (op_later (op_later (op_later (op_later (op_later (op_here)))))))))))))))))))) (by kernel_rfl) (by kernel_rfl) (by kernel_rfl) (fun _ _ _ h => h) (Or.inl ⟨by rfl, ?_⟩) (by assumption) ?_
      rotate_left 1
      (intro w hSw; (try dsimp only at hSw); go_simp; try with_reducible rfl)
      try simp only [Act.put, List.setIfInBounds_toArray, List.set_cons_zero, List.set_cons_succ]
      refine wpAnyH_take (i := 20) (v := ?_) (op_later (op_later (op_later (op_later (op_later (op_later (op_later (op_later (op_later (op_later (op_later (op_later (op_later (op_later (op_later (op_later (op_later (op_later (op_later (op_later (op_here))))))))))))))))))))) (by kernel_rfl) (by kernel_rfl) (by kernel_rfl) (fun _ _ _ h => h) (Or.inl ⟨by rfl, ?_⟩) (by assumption) ?_
      rotate_left 1
      (intro w hSw; (try dsimp only at hSw); go_simp; try with_reducible rfl)
      try simp only [Act.put, List.setIfInBounds_toArray, List.set_cons_zero, List.set_cons_succ]
      refine wpAnyH_take (i := 21) (v := ?_) (op_later (op_later (op_later (op_later (op_later (op_later (op_later (op_later (op_later (op_later (op_later (op_later (op_later (op_later (op_later (op_later (op_later (op_later (op_later (op_later (op_later (op_here)))))))))))))))))))))) (by kernel_rfl) (by kernel_rfl) (by kernel_rfl) (fun _ _ _ h => h) (Or.inl ⟨by rfl, ?_⟩) (by assumption) ?_
      rotate_left 1
      (intro w hSw; (try dsimp only at hSw); go_simp; try with_reducible rfl)
      try simp only [Act.put, List.setIfInBounds_toArray, List.set_cons_zero, List.set_cons_succ]
      refine wpAnyH_take (i := 22) (v := ?_) (op_later (op_later (op_later (op_later (op_later (op_later (op_later (op_later (op_later (op_later (op_later (op_later (op_later (op_later (op_later (op_later (op_later (op_later (op_later (op_later (op_later (op_later (op_here))))))))))))))))))))))) (by kernel_rfl) (by kernel_rfl) (by kernel_rfl) (fun _ _ _ h => h) (Or.inl ⟨by rfl, ?_⟩) (by assumption) ?_
      rotate_left 1
      (intro w hSw; (try dsimp only at hSw); go_simp; try with_reducible rfl)
      try simp only [Act.put, List.setIfInBounds_toArray, List.set_cons_zero, List.set_cons_succ]
      refine wpAnyH_take (i := 23) (v := ?_) (op_later (op_later (op_later (op_later (op_later (op_later (op_later (op_later (op_later (op_later (op_later (op_later (op_later (op_later (op_later (op_later (op_later (op_later (op_later (op_later (op_later (op_later (op_later (op_here)))))))))))))))))))))))) (by kernel_rfl) (by kernel_rfl) (by kernel_rfl) (fun _ _ _ h => h) (Or.inl ⟨by rfl, ?_⟩) (by assumption) ?_
      rotate_left 1
      (intro w hSw; (try dsimp only at hSw); go_simp; try with_reducible rfl)
      try simp only [Act.put, List.setIfInBounds_toArray, List.set_cons_zero, List.set_cons_succ]
      refine wpAnyH_take (i := 24) (v := ?_) (op_later (op_later (op_later (op_later (op_later (op_later (op_later (op_later (op_later (op_later (op_later (op_later (op_later (op_later (op_later (op_later (op_later (op_later (op_later (op_later (op_later (op_later (op_later (op_later (op_here))))))))))))))))))))))))) (by kernel_rfl) (by kernel_rfl) (by kernel_rfl) (fun _ _ _ h => h) (Or.inl ⟨by rfl, ?_⟩) (by assumption) ?_
      rotate_left 1
      (intro w hSw; (try dsimp only at hSw); go_simp; try with_reducible rfl)
      try simp only [Act.put, List.setIfInBounds_toArray, List.set_cons_zero, List.set_cons_succ]
      refine wpAnyH_take (i := 25) (v := ?_) (op_later (op_later (op_later (op_later (op_later (op_later (op_later (op_later (op_later (op_later (op_later (op_later (op_later (op_later (op_later (op_later (op_later (op_later (op_later (op_later (op_later (op_later (op_later (op_later (op_later (op_here)))))))))))))))))))))))))) (by kernel_rfl) (by kernel_rfl) (by kernel_rfl) (fun _ _ _ h => h) (Or.inl ⟨by rfl, ?_⟩) (by assumption) ?_
      rotate_left 1
      (intro w hSw; (try dsimp only at hSw); go_simp; try with_reducible rfl)
      try simp only [Act.put, List.setIfInBounds_toArray, List.set_cons_zero, List.set_cons_succ]
      refine wpAnyH_ready (rs := [26]) (by kernel_rfl) (by simp) (AllReadyH.cons (op_later (op_later (op_later (op_later (op_later (op_later (op_later (op_later (op_later (op_later (op_later (op_later (op_later (op_later (op_later (op_later (op_later (op_later (op_later (op_later (op_later (op_later (op_later (op_later (op_later (op_later (op_here))))))))))))))))))))))))))) (fun K hK => ?_) AllReadyH.nil)
      go_simp
      refine hK.out _ _ SS.out (fun hHeld => ?_)
      clear hK K
      try simp only [Act.put, List.setIfInBounds_toArray, List.set_cons_zero, List.set_cons_succ]
      refine wpAnyH_take (i := 27) (v := ?_) (op_later (op_later (op_later (op_later (op_later (op_later (op_later (op_later (op_later (op_later (op_later (op_later (op_later (op_later (op_later (op_later (op_later (op_later (op_later (op_later (op_later (op_later (op_later (op_later (op_later (op_later (op_later (op_here)))))))))))))))))))))))))))) (by kernel_rfl) (by kernel_rfl) (by kernel_rfl) (fun _ _ _ h => h) (Or.inl ⟨by rfl, ?_⟩) (by assumption) ?_
      rotate_left 1
      (intro w hSw; (try dsimp only at hSw); go_simp; try with_reducible rfl)
      try simp only [Act.put, List.setIfInBounds_toArray, List.set_cons_zero, List.set_cons_succ]
      refine wpAnyH_take (i := 28) (v := ?_) (op_later (op_later (op_later (op_later (op_later (op_later (op_later (op_later (op_later (op_later (op_later (op_later (op_later (op_later (op_later (op_later (op_later (op_later (op_later (op_later (op_later (op_later (op_later (op_later (op_later (op_later (op_later (op_later (op_here))))))))))))))))))))))))))))) (by kernel_rfl) (by kernel_rfl) (by kernel_rfl) (fun _ _ _ h => h) (Or.inl ⟨by rfl, ?_⟩) (by assumption) ?_
      rotate_left 1
      (intro w hSw; (try dsimp only at hSw); go_simp; try with_reducible rfl)
      try simp only [Act.put, List.setIfInBounds_toArray, List.set_cons_zero, List.set_cons_succ]
      refine wpAnyH_take (i := 29) (v := undef) (op_later (op_later (op_later (op_later (op_later (op_later (op_later (op_later (op_later (op_later (op_later (op_later (op_later (op_later (op_later (op_later (op_later (op_later (op_later (op_later (op_later (op_later (op_later (op_later (op_later (op_later (op_later (op_later (op_later (op_here)))))))))))))))))))))))))))))) (by kernel_rfl) (by kernel_rfl) (by kernel_rfl) (fun _ _ _ h => h) (Or.inr ⟨by rfl, rfl⟩) (by assumption) ?_
      try simp only [Act.put, List.setIfInBounds_toArray, List.set_cons_zero, List.set_cons_succ]
      refine wpAnyH_take (i := 30) (v := undef) (op_later (op_later (op_later (op_later (op_later (op_later (op_later (op_later (op_later (op_later (op_later (op_later (op_later (op_later (op_later (op_later (op_later (op_later (op_later (op_later (op_later (op_later (op_later (op_later (op_later (op_later (op_later (op_later (op_later (op_later (op_here))))))))))))))))))))))))))))))) (by kernel_rfl) (by kernel_rfl) (by kernel_rfl) (fun _ _ _ h => h) (Or.inr ⟨by rfl, rfl⟩) (by assumption) ?_
      try simp only [Act.put, List.setIfInBounds_toArray, List.set_cons_zero, List.set_cons_succ]
      refine wpAnyH_take (i := 31) (v := undef) (op_later (op_later (op_later (op_later (op_later (op_later (op_later (op_later (op_later (op_later (op_later (op_later (op_later (op_later (op_later (op_later (op_later (op_later (op_later (op_later (op_later (op_later (op_later (op_later (op_later (op_later (op_later (op_later (op_later (op_later (op_later (op_here)))))))))))))))))))))))))))))))) (by kernel_rfl) (by kernel_rfl) (by kernel_rfl) (fun _ _ _ h => h) (Or.inr ⟨by rfl, rfl⟩) (by assumption) ?_
      try simp only [Act.put, List.setIfInBounds_toArray, List.set_cons_zero, List.set_cons_succ]
      refine wpAnyH_take (i := 32) (v := undef) (op_later (op_later (op_later (op_later (op_later (op_later (op_later (op_later (op_later (op_later (op_later (op_later (op_later (op_later (op_later (op_later (op_later (op_later (op_later (op_later (op_later (op_later (op_later (op_later (op_later (op_later (op_later (op_later (op_later (op_later (op_later (op_later (op_here))))))))))))))))))))))))))))))))) (by kernel_rfl) (by kernel_rfl) (by kernel_rfl) (fun _ _ _ h => h) (Or.inr ⟨by rfl, rfl⟩) (by assumption) ?_
      try simp only [Act.put, List.setIfInBounds_toArray, List.set_cons_zero, List.set_cons_succ]
      refine wpAnyH_take (i := 33) (v := undef) (op_later (op_later (op_later (op_later (op_later (op_later (op_later (op_later (op_later (op_later (op_later (op_later (op_later (op_later (op_later (op_later (op_later (op_later (op_later (op_later (op_later (op_later (op_later (op_later (op_later (op_later (op_later (op_later (op_later (op_later (op_later (op_later (op_later (op_here)))))))))))))))))))))))))))))))))) (by kernel_rfl) (by kernel_rfl) (by kernel_rfl) (fun _ _ _ h => h) (Or.inr ⟨by rfl, rfl⟩) (by assumption) ?_
      try simp only [Act.put, List.setIfInBounds_toArray, List.set_cons_zero, List.set_cons_succ]
      refine wpAnyH_take (i := 34) (v := undef) (op_later (op_later (op_later (op_later (op_later (op_later (op_later (op_later (op_later (op_later (op_later (op_later (op_later (op_later (op_later (op_later (op_later (op_later (op_later (op_later (op_later (op_later (op_later (op_later (op_later (op_later (op_later (op_later (op_later (op_later (op_later (op_later (op_later (op_later (op_here))))))))))))))))))))))))))))))))))) (by kernel_rfl) (by kernel_rfl) (by kernel_rfl) (fun _ _ _ h => h) (Or.inr ⟨by rfl, rfl⟩) (by assumption) ?_
      try simp only [Act.put, List.setIfInBounds_toArray, List.set_cons_zero, List.set_cons_succ]
      refine wpAnyH_take (i := 35) (v := ?_) (op_later (op_later (op_later (op_later (op_later (op_later (op_later (op_later (op_later (op_later (op_later (op_later (op_later (op_later (op_later (op_later (op_later (op_later (op_later (op_later (op_later (op_later (op_later (op_later (op_later (op_later (op_later (op_later (op_later (op_later (op_later (op_later (op_later (op_later (op_later (op_here)))))))))))))))))))))))))))))))))))) (by kernel_rfl) (by kernel_rfl) (by kernel_rfl) (fun _ _ _ h => h) (Or.inl ⟨by rfl, ?_⟩) (by assumption) ?_
      rotate_left 1
      (intro w hSw; (try dsimp only at hSw); go_simp; try with_reducible rfl)
      try simp only [Act.put, List.setIfInBounds_toArray, List.set_cons_zero, List.set_cons_succ]
      refine wpAnyH_done (by kernel_rfl) ?_ _
      go_wp2_with fail
      go_ret
      exact ⟨by simp, HN.out.fresh ((Frm.refl _ W).drew)⟩
  · simp only [if_neg (show ¬ ((1 ≤ t ∧ t ≤ 15) ∧ r = false) from fun e => ht e.1)]
    go_enter Try.func18, Try.ntmps18
    go_wp2_with fail
    clear hW
    refine wp_region_held_drew (S := fun w' => w'.cell? ⟨w.heap.size, 0, none⟩ = some (.int .i64 x) ∧ w'.cell? ⟨w.heap.size, 1, none⟩ = some (.int .i64 t) ∧ w'.cell? ⟨w.heap.size, 2, none⟩ = some (.slice none 0 0) ∧ w'.cell? ⟨b, 0, none⟩ = some (.slice A n cap) ∧ w'.cell? ⟨b, 1, none⟩ = some (.map (some m))) (by kernel_rfl) SS.out (fun hHeld => ?_)
    refine wpAnyH_take (i := 0) (v := ?_) (op_here) (by kernel_rfl) (by kernel_rfl) (by kernel_rfl) (fun _ _ _ h => h) (Or.inl ⟨by rfl, ?_⟩) (by assumption) ?_
    rotate_left 1
    (intro w hSw; (try dsimp only at hSw); go_simp; try with_reducible rfl)
    try simp only [Act.put, List.setIfInBounds_toArray, List.set_cons_zero, List.set_cons_succ]
    refine wpAnyH_take (i := 1) (v := ?_) (op_later (op_here)) (by kernel_rfl) (by kernel_rfl) (by kernel_rfl) (fun _ _ _ h => h) (Or.inl ⟨by rfl, ?_⟩) (by assumption) ?_
    rotate_left 1
    (intro w hSw; (try dsimp only at hSw); go_simp; try with_reducible rfl)
    try simp only [Act.put, List.setIfInBounds_toArray, List.set_cons_zero, List.set_cons_succ]
    refine wpAnyH_ready (rs := [2]) (by kernel_rfl) (by simp) (AllReadyH.cons (op_later (op_later (op_here))) (fun K hK => ?_) AllReadyH.nil)
    go_simp
    refine (node_yes x x1 x2 _).mono ?_
    rintro e w' ⟨rfl, rfl⟩
    refine hK.out _ _ SS.out (fun hHeld => ?_)
    clear hK K
    try simp only [Act.put, List.setIfInBounds_toArray, List.set_cons_zero, List.set_cons_succ]
    refine wpAnyH_take (i := 3) (v := ?_) (op_later (op_later (op_later (op_here)))) (by kernel_rfl) (by kernel_rfl) (by kernel_rfl) (fun _ _ _ h => h) (Or.inl ⟨by rfl, ?_⟩) (by assumption) ?_
    rotate_left 1
    (intro w hSw; (try dsimp only at hSw); go_simp; try with_reducible rfl)
    try simp only [Act.put, List.setIfInBounds_toArray, List.set_cons_zero, List.set_cons_succ]
    refine wpAnyH_take (i := 4) (v := ?_) (op_later (op_later (op_later (op_later (op_here))))) (by kernel_rfl) (by kernel_rfl) (by kernel_rfl) (fun _ _ _ h => h) (Or.inl ⟨by rfl, ?_⟩) (by assumption) ?_
    rotate_left 1
    (intro w hSw; (try dsimp only at hSw); go_simp; try with_reducible rfl)
    try simp only [Act.put, List.setIfInBounds_toArray, List.set_cons_zero, List.set_cons_succ]
    refine wpAnyH_take (i := 5) (v := ?_) (op_later (op_later (op_later (op_later (op_later (op_here)))))) (by kernel_rfl) (by kernel_rfl) (by kernel_rfl) (fun _ _ _ h => h) (Or.inl ⟨by rfl, ?_⟩) (by assumption) ?_
    rotate_left 1
    (intro w hSw; (try dsimp only at hSw); go_simp; try with_reducible rfl)
    try simp only [Act.put, List.setIfInBounds_toArray, List.set_cons_zero, List.set_cons_succ]
    refine wpAnyH_take (i := 6) (v := ?_) (op_later (op_later (op_later (op_later (op_later (op_later (op_here))))))) (by kernel_rfl) (by kernel_rfl) (by kernel_rfl) (fun _ _ _ h => h) (Or.inl ⟨by rfl, ?_⟩) (by assumption) ?_
    rotate_left 1
    (intro w hSw; (try dsimp only at hSw); go_simp; try with_reducible rfl)
    try simp only [Act.put, List.setIfInBounds_toArray, List.set_cons_zero, List.set_cons_succ]
    refine wpAnyH_ready (rs := [7]) (by kernel_rfl) (by simp) (AllReadyH.cons (op_later (op_later (op_later (op_later (op_later (op_later (op_later (op_here)))))))) (fun K hK => ?_) AllReadyH.nil)
    go_simp
    refine (node_no t ht _).mono ?_
    rintro e w' ⟨rfl, rfl⟩
    refine hK.out _ _ SS.out (fun hHeld => ?_)
    clear hK K
    try simp only [Act.put, List.setIfInBounds_toArray, List.set_cons_zero, List.set_cons_succ]
    refine wpAnyH_take (i := 8) (v := ?_) (op_later (op_later (op_later (op_later (op_later (op_later (op_later (op_later (op_here))))))))) (by kernel_rfl) (by kernel_rfl) (by kernel_rfl) (fun _ _ _ h => h) (Or.inl ⟨by rfl, ?_⟩) (by assumption) ?_
    rotate_left 1
    (intro w hSw; (try dsimp only at hSw); go_simp; try with_reducible rfl)
    try simp only [Act.put, List.setIfInBounds_toArray, List.set_cons_zero, List.set_cons_succ]
    refine wpAnyH_take (i := 9) (v := ?_) (op_later (op_later (op_later (op_later (op_later (op_later (op_later (op_later (op_later (op_here)))))))))) (by kernel_rfl) (by kernel_rfl) (by kernel_rfl) (fun _ _ _ h => h) (Or.inl ⟨by rfl, ?_⟩) (by assumption) ?_
    rotate_left 1
    (intro w hSw; (try dsimp only at hSw); go_simp; try with_reducible rfl)
    try simp only [Act.put, List.setIfInBounds_toArray, List.set_cons_zero, List.set_cons_succ]
    refine wpAnyH_take (i := 10) (v := ?_) (op_later (op_later (op_later (op_later (op_later (op_later (op_later (op_later (op_later (op_later (op_here))))))))))) (by kernel_rfl) (by kernel_rfl) (by kernel_rfl) (fun _ _ _ h => h) (Or.inl ⟨by rfl, ?_⟩) (by assumption) ?_
    rotate_left 1
    (intro w hSw; (try dsimp only at hSw); go_simp; try with_reducible rfl)
    try simp only [Act.put, List.setIfInBounds_toArray, List.set_cons_zero, List.set_cons_succ]
    refine wpAnyH_take (i := 11) (v := undef) (op_later (op_later (op_later (op_later (op_later (op_later (op_later (op_later (op_later (op_later (op_later (op_here)))))))))))) (by kernel_rfl) (by kernel_rfl) (by kernel_rfl) (fun _ _ _ h => h) (Or.inr ⟨by rfl, rfl⟩) (by assumption) ?_
    try simp only [Act.put, List.setIfInBounds_toArray, List.set_cons_zero, List.set_cons_succ]
    refine wpAnyH_take (i := 12) (v := undef) (op_later (op_later (op_later (op_later (op_later (op_later (op_later (op_later (op_later (op_later (op_later (op_later (op_here))))))))))))) (by kernel_rfl) (by kernel_rfl) (by kernel_rfl) (fun _ _ _ h => h) (Or.inr ⟨by rfl, rfl⟩) (by assumption) ?_
    try simp only [Act.put, List.setIfInBounds_toArray, List.set_cons_zero, List.set_cons_succ]
    refine wpAnyH_take (i := 13) (v := undef) (op_later (op_later (op_later (op_later (op_later (op_later (op_later (op_later (op_later (op_later (op_later (op_later (op_later (op_here)))))))))))))) (by kernel_rfl) (by kernel_rfl) (by kernel_rfl) (fun _ _ _ h => h) (Or.inr ⟨by rfl, rfl⟩) (by assumption) ?_
    try simp only [Act.put, List.setIfInBounds_toArray, List.set_cons_zero, List.set_cons_succ]
    refine wpAnyH_take (i := 14) (v := undef) (op_later (op_later (op_later (op_later (op_later (op_later (op_later (op_later (op_later (op_later (op_later (op_later (op_later (op_later (op_here))))))))))))))) (by kernel_rfl) (by kernel_rfl) (by kernel_rfl) (fun _ _ _ h => h) (Or.inr ⟨by rfl, rfl⟩) (by assumption) ?_
    try simp only [Act.put, List.setIfInBounds_toArray, List.set_cons_zero, List.set_cons_succ]
    refine wpAnyH_take (i := 15) (v := ?_) (op_later (op_later (op_later (op_later (op_later (op_later (op_later (op_later (op_later (op_later (op_later (op_later (op_later (op_later (op_later (op_here)))))))))))))))) (by kernel_rfl) (by kernel_rfl) (by kernel_rfl) (fun _ _ _ h => h) (Or.inl ⟨by rfl, ?_⟩) (by assumption) ?_
    rotate_left 1
    (intro w hSw; (try dsimp only at hSw); go_simp; try with_reducible rfl)
    try simp only [Act.put, List.setIfInBounds_toArray, List.set_cons_zero, List.set_cons_succ]
    refine wpAnyH_take (i := 16) (v := ?_) (op_later (op_later (op_later (op_later (op_later (op_later (op_later (op_later (op_later (op_later (op_later (op_later (op_later (op_later (op_later (op_later (op_here))))))))))))))))) (by kernel_rfl) (by kernel_rfl) (by kernel_rfl) (fun _ _ _ h => h) (Or.inl ⟨by rfl, ?_⟩) (by assumption) ?_
    rotate_left 1
    (intro w hSw; (try dsimp only at hSw); go_simp; try with_reducible rfl)
    try simp only [Act.put, List.setIfInBounds_toArray, List.set_cons_zero, List.set_cons_succ]
    refine wpAnyH_take (i := 17) (v := undef) (op_later (op_later (op_later (op_later (op_later (op_later (op_later (op_later (op_later (op_later (op_later (op_later (op_later (op_later (op_later (op_later (op_later (op_here)))))))))))))))))) (by kernel_rfl) (by kernel_rfl) (by kernel_rfl) (fun _ _ _ h => h) (Or.inr ⟨by rfl, rfl⟩) (by assumption) ?_
    try simp only [Act.put, List.setIfInBounds_toArray, List.set_cons_zero, List.set_cons_succ]
    refine wpAnyH_take (i := 18) (v := undef) (op_later (op_later (op_later (op_later (op_later (op_later (op_later (op_later (op_later (op_later (op_later (op_later (op_later (op_later (op_later (op_later (op_later (op_later (op_here))))))))))))))))))) (by kernel_rfl) (by kernel_rfl) (by kernel_rfl) (fun _ _ _ h => h) (Or.inr ⟨by rfl, rfl⟩) (by assumption) ?_
    try simp only [Act.put, List.setIfInBounds_toArray, List.set_cons_zero, List.set_cons_succ]
    refine wpAnyH_take (i := 19) (v := undef) (op_later (op_later (op_later (op_later (op_later (op_later (op_later (op_later (op_later (op_later (op_later (op_later (op_later (op_later (op_later (op_later (op_later (op_later (op_later (op_here)))))))))))))))))))) (by kernel_rfl) (by kernel_rfl) (by kernel_rfl) (fun _ _ _ h => h) (Or.inr ⟨by rfl, rfl⟩) (by assumption) ?_
    try simp only [Act.put, List.setIfInBounds_toArray, List.set_cons_zero, List.set_cons_succ]
    refine wpAnyH_take (i := 20) (v := undef) (op_later (op_later (op_later (op_later (op_later (op_later (op_later (op_later (op_later (op_later (op_later (op_later (op_later (op_later (op_later (op_later (op_later (op_later (op_later (op_later (op_here))))))))))))))))))))) (by kernel_rfl) (by kernel_rfl) (by kernel_rfl) (fun _ _ _ h => h) (Or.inr ⟨by rfl, rfl⟩) (by assumption) ?_
    try simp only [Act.put, List.setIfInBounds_toArray, List.set_cons_zero, List.set_cons_succ]
    refine wpAnyH_take (i := 21) (v := undef) (op_later (op_later (op_later (op_later (op_later (op_later (op_later (op_later (op_later (op_later (op_later (op_later (op_later (op_later (op_later (op_later (op_later (op_later (op_later (op_later (op_later (op_here)))))))))))))))))))))) (by kernel_rfl) (by kernel_rfl) (by kernel_rfl) (fun _ _ _ h => h) (Or.inr ⟨by rfl, rfl⟩) (by assumption) ?_
    try simp only [Act.put, List.setIfInBounds_toArray, List.set_cons_zero, List.set_cons_succ]
    refine wpAnyH_take (i := 22) (v := undef) (op_later (op_later (op_later (op_later (op_later (op_later (op_later (op_later (op_later (op_later (op_later (op_later (op_later (op_later (op_later (op_later (op_later (op_later (op_later (op_later (op_later (op_later (op_here))))))))))))))))))))))) (by kernel_rfl) (by kernel_rfl) (by kernel_rfl) (fun _ _ _ h => h) (Or.inr ⟨by rfl, rfl⟩) (by assumption) ?_
    try simp only [Act.put, List.setIfInBounds_toArray, List.set_cons_zero, List.set_cons_succ]
    refine wpAnyH_take (i := 23) (v := undef) (op_later (op_later (op_later (op_later (op_later (op_later (op_later (op_later (op_later (op_later (op_later (op_later (op_later (op_later (op_later (op_later (op_later (op_later (op_later (op_later (op_later (op_later (op_later (op_here)))))))))))))))))))))))) (by kernel_rfl) (by kernel_rfl) (by kernel_rfl) (fun _ _ _ h => h) (Or.inr ⟨by rfl, rfl⟩) (by assumption) ?_
    try simp only [Act.put, List.setIfInBounds_toArray, List.set_cons_zero, List.set_cons_succ]
    refine wpAnyH_take (i := 24) (v := undef) (op_later (op_later (op_later (op_later (op_later (op_later (op_later (op_later (op_later (op_later (op_later (op_later (op_later (op_later (op_later (op_later (op_later (op_later (op_later (op_later (op_later (op_later (op_later (op_later (op_here))))))))))))))))))))))))) (by kernel_rfl) (by kernel_rfl) (by kernel_rfl) (fun _ _ _ h => h) (Or.inr ⟨by rfl, rfl⟩) (by assumption) ?_
    try simp only [Act.put, List.setIfInBounds_toArray, List.set_cons_zero, List.set_cons_succ]
    refine wpAnyH_take (i := 25) (v := undef) (op_later (op_later (op_later (op_later (op_later (op_later (op_later (op_later (op_later (op_later (op_later (op_later (op_later (op_later (op_later (op_later (op_later (op_later (op_later (op_later (op_later (op_later (op_later (op_later (op_later (op_here)))))))))))))))))))))))))) (by kernel_rfl) (by kernel_rfl) (by kernel_rfl) (fun _ _ _ h => h) (Or.inr ⟨by rfl, rfl⟩) (by assumption) ?_
    try simp only [Act.put, List.setIfInBounds_toArray, List.set_cons_zero, List.set_cons_succ]
    refine wpAnyH_take (i := 26) (v := undef) (op_later (op_later (op_later (op_later (op_later (op_later (op_later (op_later (op_later (op_later (op_later (op_later (op_later (op_later (op_later (op_later (op_later (op_later (op_later (op_later (op_later (op_later (op_later (op_later (op_later (op_later (op_here))))))))))))))))))))))))))) (by kernel_rfl) (by kernel_rfl) (by kernel_rfl) (fun _ _ _ h => h) (Or.inr ⟨by rfl, rfl⟩) (by assumption) ?_
    try simp only [Act.put, List.setIfInBounds_toArray, List.set_cons_zero, List.set_cons_succ]
    refine wpAnyH_take (i := 27) (v := ?_) (op_later (op_later (op_later (op_later (op_later (op_later (op_later (op_later (op_later (op_later (op_later (op_later (op_later (op_later (op_later (op_later (op_later (op_later (op_later (op_later (op_later (op_later (op_later (op_later (op_later (op_later (op_later (op_here)))))))))))))))))))))))))))) (by kernel_rfl) (by kernel_rfl) (by kernel_rfl) (fun _ _ _ h => h) (Or.inl ⟨by rfl, ?_⟩) (by assumption) ?_
    rotate_left 1
    (intro w hSw; (try dsimp only at hSw); go_simp; try with_reducible rfl)
    try simp only [Act.put, List.setIfInBounds_toArray, List.set_cons_zero, List.set_cons_succ]
    refine wpAnyH_take (i := 28) (v := ?_) (op_later (op_later (op_later (op_later (op_later (op_later (op_later (op_later (op_later (op_later (op_later (op_later (op_later (op_later (op_later (op_later (op_later (op_later (op_later (op_later (op_later (op_later (op_later (op_later (op_later (op_later (op_later (op_later (op_here))))))))))))))))))))))))))))) (by kernel_rfl) (by kernel_rfl) (by kernel_rfl) (fun _ _ _ h => h) (Or.inl ⟨by rfl, ?_⟩) (by assumption) ?_
    rotate_left 1
    (intro w hSw; (try dsimp only at hSw); go_simp; try with_reducible rfl)
    try simp only [Act.put, List.setIfInBounds_toArray, List.set_cons_zero, List.set_cons_succ]
    refine wpAnyH_take (i := 29) (v := undef) (op_later (op_later (op_later (op_later (op_later (op_later (op_later (op_later (op_later (op_later (op_later (op_later (op_later (op_later (op_later (op_later (op_later (op_later (op_later (op_later (op_later (op_later (op_later (op_later (op_later (op_later (op_later (op_later (op_later (op_here)))))))))))))))))))))))))))))) (by kernel_rfl) (by kernel_rfl) (by kernel_rfl) (fun _ _ _ h => h) (Or.inr ⟨by rfl, rfl⟩) (by assumption) ?_
    try simp only [Act.put, List.setIfInBounds_toArray, List.set_cons_zero, List.set_cons_succ]
    refine wpAnyH_take (i := 30) (v := undef) (op_later (op_later (op_later (op_later (op_later (op_later (op_later (op_later (op_later (op_later (op_later (op_later (op_later (op_later (op_later (op_later (op_later (op_later (op_later (op_later (op_later (op_later (op_later (op_later (op_later (op_later (op_later (op_later (op_later (op_later (op_here))))))))))))))))))))))))))))))) (by kernel_rfl) (by kernel_rfl) (by kernel_rfl) (fun _ _ _ h => h) (Or.inr ⟨by rfl, rfl⟩) (by assumption) ?_
    try simp only [Act.put, List.setIfInBounds_toArray, List.set_cons_zero, List.set_cons_succ]
    refine wpAnyH_take (i := 31) (v := undef) (op_later (op_later (op_later (op_later (op_later (op_later (op_later (op_later (op_later (op_later (op_later (op_later (op_later (op_later (op_later (op_later (op_later (op_later (op_later (op_later (op_later (op_later (op_later (op_later (op_later (op_later (op_later (op_later (op_later (op_later (op_later (op_here)))))))))))))))))))))))))))))))) (by kernel_rfl) (by kernel_rfl) (by kernel_rfl) (fun _ _ _ h => h) (Or.inr ⟨by rfl, rfl⟩) (by assumption) ?_
    try simp only [Act.put, List.setIfInBounds_toArray, List.set_cons_zero, List.set_cons_succ]
    refine wpAnyH_take (i := 32) (v := undef) (op_later (op_later (op_later (op_later (op_later (op_later (op_later (op_later (op_later (op_later (op_later (op_later (op_later (op_later (op_later (op_later (op_later (op_later (op_later (op_later (op_later (op_later (op_later (op_later (op_later (op_later (op_later (op_later (op_later (op_later (op_later (op_later (op_here))))))))))))))))))))))))))))))))) (by kernel_rfl) (by kernel_rfl) (by kernel_rfl) (fun _ _ _ h => h) (Or.inr ⟨by rfl, rfl⟩) (by assumption) ?_
    try simp only [Act.put, List.setIfInBounds_toArray, List.set_cons_zero, List.set_cons_succ]
    refine wpAnyH_take (i := 33) (v := undef) (op_later (op_later (op_later (op_later (op_later (op_later (op_later (op_later (op_later (op_later (op_later (op_later (op_later (op_later (op_later (op_later (op_later (op_later (op_later (op_later (op_later (op_later (op_later (op_later (op_later (op_later (op_later (op_later (op_later (op_later (op_later (op_later (op_later (op_here)))))))))))))))))))))))))))))))))) (by kernel_rfl) (by kernel_rfl) (by kernel_rfl) (fun _ _ _ h => h) (Or.inr ⟨by rfl, rfl⟩) (by assumption) ?_
    try simp only [Act.put, List.setIfInBounds_toArray, List.set_cons_zero, List.set_cons_succ]
    refine wpAnyH_take (i := 34) (v := undef) (op_later (op_later (op_later (op_later (op_later (op_later (op_later (op_later (op_later (op_later (op_later (op_later (op_later (op_later (op_later (op_later (op_later (op_later (op_later (op_later (op_later (op_later (op_later (op_later (op_later (op_later (op_later (op_later (op_later (op_later (op_later (op_later (op_later (op_later (op_here))))))))))))))))))))))))))))))))))) (by kernel_rfl) (by kernel_rfl) (by kernel_rfl) (fun _ _ _ h => h) (Or.inr ⟨by rfl, rfl⟩) (by assumption) ?_
    try simp only [Act.put, List.setIfInBounds_toArray, List.set_cons_zero, List.set_cons_succ]
    refine wpAnyH_take (i := 35) (v := ?_) (op_later (op_later (op_later (op_later (op_later (op_later (op_later (op_later (op_later (op_later (op_later (op_later (op_later (op_later (op_later (op_later (op_later (op_later (op_later (op_later (op_later (op_later (op_later (op_later (op_later (op_later (op_later (op_later (op_later (op_later (op_later (op_later (op_later (op_later (op_later (op_here)))))))))))))))))))))))))))))))))))) (by kernel_rfl) (by kernel_rfl) (by kernel_rfl) (fun _ _ _ h => h) (Or.inl ⟨by rfl, ?_⟩) (by assumption) ?_
    rotate_left 1
    (intro w hSw; (try dsimp only at hSw); go_simp; try with_reducible rfl)
    try simp only [Act.put, List.setIfInBounds_toArray, List.set_cons_zero, List.set_cons_succ]
    refine wpAnyH_done (by kernel_rfl) ?_ _
    go_wp2_with fail
    go_ret
    exact ⟨by simp, HN.out.fresh ((Frm.refl _ W).drew)⟩
end Go.Proofs.Ytlceembcehokoaa

/- Between two nodes cut, or healed. -/
import Derived.Test.YtlceembcehokoaaNet10
import Derived.WideKeyEntry
namespace Go.Proofs.Ytlceembcehokoaa
open Go.RowKit
set_option maxRecDepth 100000

abbrev keyL (x y : Int) : Lit := .string (keyBytes [.int .i64 x, .int .i64 y])
theorem om_entry {w : World} {b n : Nat} {D : DataW Unit} (h : w.ownsMap Try.prog 98 (plainElem (H := Unit) Try.prog 4) b n D) (hn : n < maxLen) (x y : Int) (wx : (Lit.int .i64 x).wf = true) (wy : (Lit.int .i64 y).wf = true) (v : Bool) :
    ∃ v0 st w1, (Instr.mapEntry 94 (.map (some b)) (.agg #[.int .i64 x, .int .i64 y])).run Try.prog w = .ok (.tuple #[v0, .int .i64 st]) w1 ∧ Frm (fun k => k = b) w w1 ∧
      ∃ w3, (Instr.entryStore 94 (.map (some b)) (.int .i64 st) (.bool v)).run Try.prog w1 = .ok () w3 ∧ w3.ownsMap Try.prog 98 (plainElem (H := Unit) Try.prog 4) b (n + 1) (D.put (keyL x y) (.lit (.bool v))) ∧ Frm (fun k => k = b) w w3 := by
  have hkey := WideMaps.keyOf_pair (a := x) (b := y) pair_key Try.underlying3 types_size wx wy
  obtain ⟨w', hrun, hown, _⟩ := h.update (Maps.Keyed.of_law pair_key.law) Try.underlying94 hn hkey (plainElem_bool (H := Unit) Try.underlying4 v)
  obtain ⟨es, clock, hb, F, hs, hD⟩ := h
  obtain ⟨v0, st, es1, clock1, hrun1, _, hstore⟩ := WideElems.entry_then_store pair_key.law Try.underlying94 zero_bool hb F hkey
  have hsb := ChangeMaps.heap_setBlock_same hb (.map es1 clock1)
  obtain ⟨es', clock', hst, hup⟩ := hstore _ (.bool v) hsb
  rw [hrun] at hup
  injection hup with _ hw'
  subst hw'
  have hlt : b < w.heap.size := by
    rcases Nat.lt_or_ge b w.heap.size with h | h
    · exact h
    · rw [Array.getElem?_eq_none h] at hb; cases hb
  have F1 : Frm (fun k => k = b) w (ChangeMaps.setBlock w b (.map es1 clock1)) := ⟨rfl, rfl, rfl, by simp [ChangeMaps.setBlock], fun k _ hk => ChangeMaps.heap_setBlock_other hb _ hk⟩
  refine ⟨v0, st, _, hrun1, F1, _, hst, OM.same hown ?_, F1.trans ⟨rfl, rfl, rfl, by simp [ChangeMaps.setBlock], fun k _ hk => ChangeMaps.heap_setBlock_other hsb _ hk⟩⟩
  rw [ChangeMaps.heap_setBlock_same hsb, ChangeMaps.heap_setBlock_same hb]
/-- a net, so many on their way, and whom it is cut between -/
structure IsC (w0 : World) (b m n c : Nat) (D : DataW Unit) (w : World) : Prop where
  ex : ∃ v xs, Blk w b 97 #[v, .map (some m)] ∧ Sl w w0.heap.size 101 4 v n xs
  map : w.ownsMap Try.prog 98 (plainElem (H := Unit) Try.prog 4) m c D
  low : w0.heap.size ≤ b ∧ w0.heap.size ≤ m
  frm : Fresh w0 w
theorem IsC.fresh {w0 w w' : World} {b m n c : Nat} {D : DataW Unit} (h : IsC w0 b m n c D w) (F : Fresh w w') : IsC w0 b m n c D w' := by
  obtain ⟨v, xs, h1, h2⟩ := h.ex
  exact ⟨⟨v, xs, h1.frm F (fun f => f), h2.fresh F⟩, OM.frm h.map F (fun f => f), h.low, h.frm.trans F⟩
theorem IsC.cut {w0 w w' : World} {b m n c c' : Nat} {D D' : DataW Unit} (h : IsC w0 b m n c D w) (F : Frm (fun k => k = m) w w') (hm : w'.ownsMap Try.prog 98 (plainElem (H := Unit) Try.prog 4) m c' D') : IsC w0 b m n c' D' w' := by
  obtain ⟨v, xs, h1, h2⟩ := h.ex
  exact ⟨⟨v, xs, h1.frm F (fun e => OM.not_cells h.map h1 e.symm), h2.frm F (fun k hk e => by subst e; exact OM.not_sl h.map h2 hk)⟩, hm, h.low, h.frm.trans' F (fun k hk e => by have := h.low.2; omega)⟩
def okPair (x y : Int) : Bool := decide (1 ≤ x ∧ x ≤ 15 ∧ 1 ≤ y ∧ y ≤ 15 ∧ x ≠ y)
def SetPost (w0 : World) (b m n c : Nat) (D : DataW Unit) (x y : Int) (v : Bool) (e : Ending) (w' : World) : Prop :=
  if okPair x y = true then e = .returned (.int .i64 0) ∧ IsC w0 b m n (c + 2) ((D.put (keyL x y) (.lit (.bool v))).put (keyL y x) (.lit (.bool v))) w'
  else e = .returned (.int .i64 1) ∧ IsC w0 b m n c D w'
theorem node_yes (n : Int) (h1 : 1 ≤ n) (h2 : n ≤ 15) (w : World) : Calls Try.prog 67 #[.int .i64 n] w fun e w' => e = .returned (.bool true) ∧ w' = w := by
  have := node_any n w
  simpa [h1, h2] using this
theorem node_no (n : Int) (h : ¬ (1 ≤ n ∧ n ≤ 15)) (w : World) : Calls Try.prog 67 #[.int .i64 n] w fun e w' => e = .returned (.bool false) ∧ w' = w := by
  have := node_any n w
  rw [show (decide (1 ≤ n) && decide (n ≤ 15)) = false by
    rw [Bool.and_eq_false_iff]
    by_cases h1 : 1 ≤ n
    · right; simp; omega
    · left; simp; omega] at this
  exact this
set_option maxHeartbeats 8000000 in
theorem set_any (w0 w : World) (b m n c : Nat) (D : DataW Unit) (h : IsC w0 b m n c D w) (hc : c ≤ 100) (x y : Int) (wx : (Lit.int .i64 x).wf = true) (wy : (Lit.int .i64 y).wf = true) (v : Bool) :
    Calls Try.prog 69 #[.pointer (some ⟨b, 0, none⟩), .int .i64 x, .int .i64 y, .bool v] w fun e w' => SetPost w0 b m n c D x y v e w' := by
  have HC := Lib.hid h
  have KS : Hid (∀ w', Frm (fun k => k = m) w w' → w'.cell? ⟨b, 1, none⟩ = some (.map (some m))) := Lib.hid fun w' F => by
    obtain ⟨_, _, h1, _⟩ := h.ex
    exact (h1.frm F (fun e => OM.not_cells h.map h1 e.symm)).cell 1
  by_cases hok : 1 ≤ x ∧ x ≤ 15 ∧ 1 ≤ y ∧ y ≤ 15 ∧ x ≠ y
  · have hokb : okPair x y = true := by unfold okPair; simpa using hok
    obtain ⟨a1, a2, a3, a4, a5⟩ := hok
    obtain ⟨v0, st, w1, r1, f1, w2, r2, o2, f2⟩ := om_entry (HC.out.map.drew) (by unfold maxLen; omega) x y wx wy v
    obtain ⟨v1, su, w3, r3, f3, w4, r4, o4, f4⟩ := om_entry o2 (by unfold maxLen; omega) y x wy wx v
    have F0 : Frm (fun k => k = m) w w.drew := (Frm.refl _ w).drew
    have HF1 := Lib.hid (F0.trans f1)
    have HF2 := Lib.hid (F0.trans f2)
    have HF3 := Lib.hid ((F0.trans f2).trans f3)
    have HF4 := Lib.hid ((F0.trans f2).trans f4)
    have HO := Lib.hid o4
    clear h f1 f2 f3 f4 F0 o2 o4 wx wy
    unfold SetPost
    simp only [if_pos hokb]
    go_enter Try.func69, Try.ntmps69
    go_wp2_with fail
    refine (node_yes x a1 a2 _).mono ?_
    rintro e w' ⟨rfl, hw'⟩
    rw [hw']
    clear hw' w'
    go_wp2_with fail
    refine (node_yes y a3 a4 _).mono ?_
    rintro e w' ⟨rfl, hw'⟩
    rw [hw']
    clear hw' w'
    go_wp2_with fail
    refine wp_region_held_drew (S := fun w' => w'.cell? ⟨b, 1, none⟩ = some (.map (some m))) (by kernel_rfl) (KS.out _ ((Frm.refl _ w).drew)) (fun hHeld => ?_)
    refine wpAnyH_take (i := 0) (v := ?_) (op_here) (by kernel_rfl) (by kernel_rfl) (by kernel_rfl) (fun _ _ _ h => h) (Or.inl ⟨by rfl, ?_⟩) (by assumption) ?_
    rotate_left 1
    (intro w hSw; (try dsimp only at hSw); go_simp; try with_reducible rfl)
    try simp only [Act.put, List.setIfInBounds_toArray, List.set_cons_zero, List.set_cons_succ]
    refine wpAnyH_take (i := 1) (v := ?_) (op_later (op_here)) (by kernel_rfl) (by kernel_rfl) (by kernel_rfl) (fun _ _ _ h => h) (Or.inl ⟨by rfl, ?_⟩) (by assumption) ?_
    rotate_left 1
    (intro w hSw; (try dsimp only at hSw); go_simp; try with_reducible rfl)
    try simp only [Act.put, List.setIfInBounds_toArray, List.set_cons_zero, List.set_cons_succ]
    refine wpAnyH_take (i := 2) (v := ?_) (op_later (op_later (op_here))) (by kernel_rfl) (by kernel_rfl) (by kernel_rfl) (fun _ _ _ h => h) (Or.inl ⟨by rfl, ?_⟩) (by assumption) ?_
    rotate_left 1
    (intro w hSw; (try dsimp only at hSw); go_simp; try with_reducible rfl)
    try simp only [Act.put, List.setIfInBounds_toArray, List.set_cons_zero, List.set_cons_succ]
    refine wpAnyH_take (i := 3) (v := ?_) (op_later (op_later (op_later (op_here)))) (by kernel_rfl) (by kernel_rfl) (by kernel_rfl) (fun _ _ _ h => h) (Or.inl ⟨by rfl, ?_⟩) (by assumption) ?_
    rotate_left 1
    (intro w hSw; (try dsimp only at hSw); go_simp; try with_reducible rfl)
    try simp only [Act.put, List.setIfInBounds_toArray, List.set_cons_zero, List.set_cons_succ]
    refine wpAnyH_take (i := 4) (v := ?_) (op_later (op_later (op_later (op_later (op_here))))) (by kernel_rfl) (by kernel_rfl) (by kernel_rfl) (fun _ _ _ h => h) (Or.inl ⟨by rfl, ?_⟩) (by assumption) ?_
    rotate_left 1
    (intro w hSw; (try dsimp only at hSw); go_simp; try with_reducible rfl)
    try simp only [Act.put, List.setIfInBounds_toArray, List.set_cons_zero, List.set_cons_succ]
    refine wpAnyH_take (i := 5) (v := ?_) (op_later (op_later (op_later (op_later (op_later (op_here)))))) (by kernel_rfl) (by kernel_rfl) (by kernel_rfl) (fun _ _ _ h => h) (Or.inl ⟨by rfl, ?_⟩) (by assumption) ?_
    rotate_left 1
    (intro w hSw; (try dsimp only at hSw); go_simp; try with_reducible rfl)
    try simp only [Act.put, List.setIfInBounds_toArray, List.set_cons_zero, List.set_cons_succ]
    refine wpAnyH_take (i := 6) (v := ?_) (op_later (op_later (op_later (op_later (op_later (op_later (op_here))))))) (by kernel_rfl) (by kernel_rfl) (by kernel_rfl) (fun _ _ _ h => h) (Or.inl ⟨by rfl, ?_⟩) (by assumption) ?_
    rotate_left 1
    (intro w hSw; (try dsimp only at hSw); go_simp; try with_reducible rfl)
    try simp only [Act.put, List.setIfInBounds_toArray, List.set_cons_zero, List.set_cons_succ]
    refine wpAnyH_take (i := 7) (v := ?_) (op_later (op_later (op_later (op_later (op_later (op_later (op_later (op_here)))))))) (by kernel_rfl) (by kernel_rfl) (by kernel_rfl) (fun _ _ _ h => h) (Or.inl ⟨by rfl, ?_⟩) (by assumption) ?_
    rotate_left 1
    (intro w hSw; (try dsimp only at hSw); go_simp; try with_reducible rfl)
    try simp only [Act.put, List.setIfInBounds_toArray, List.set_cons_zero, List.set_cons_succ]
    refine wpAnyH_take (i := 8) (v := ?_) (op_later (op_later (op_later (op_later (op_later (op_later (op_later (op_later (op_here))))))))) (by kernel_rfl) (by kernel_rfl) (by kernel_rfl) (fun _ _ _ h => h) (Or.inl ⟨by rfl, ?_⟩) (by assumption) ?_
    rotate_left 1
    (intro w hSw; (try dsimp only at hSw); go_simp; try with_reducible rfl)
    try simp only [Act.put, List.setIfInBounds_toArray, List.set_cons_zero, List.set_cons_succ]
    refine wpAnyH_take (i := 9) (v := ?_) (op_later (op_later (op_later (op_later (op_later (op_later (op_later (op_later (op_later (op_here)))))))))) (by kernel_rfl) (by kernel_rfl) (by kernel_rfl) (fun _ _ _ h => h) (Or.inl ⟨by rfl, ?_⟩) (by assumption) ?_
    rotate_left 1
    (intro w hSw; (try dsimp only at hSw); go_simp; try with_reducible rfl)
    try simp only [Act.put, List.setIfInBounds_toArray, List.set_cons_zero, List.set_cons_succ]
    refine wpAnyH_take (i := 10) (v := ?_) (op_later (op_later (op_later (op_later (op_later (op_later (op_later (op_later (op_later (op_later (op_here))))))))))) (by kernel_rfl) (by kernel_rfl) (by kernel_rfl) (fun _ _ _ h => h) (Or.inl ⟨by rfl, ?_⟩) (by assumption) ?_
    rotate_left 1
    (intro w hSw; (try dsimp only at hSw); go_simp; try with_reducible rfl)
    try simp only [Act.put, List.setIfInBounds_toArray, List.set_cons_zero, List.set_cons_succ]
    refine wpAnyH_take (i := 11) (v := ?_) (op_later (op_later (op_later (op_later (op_later (op_later (op_later (op_later (op_later (op_later (op_later (op_here)))))))))))) (by kernel_rfl) (by kernel_rfl) (by kernel_rfl) (fun _ _ _ h => h) (Or.inl ⟨by rfl, ?_⟩) (by assumption) ?_
    rotate_left 1
    (intro w hSw; (try dsimp only at hSw); go_simp; try with_reducible rfl)
    try simp only [Act.put, List.setIfInBounds_toArray, List.set_cons_zero, List.set_cons_succ]
    refine wpAnyH_take (i := 12) (v := ?_) (op_later (op_later (op_later (op_later (op_later (op_later (op_later (op_later (op_later (op_later (op_later (op_later (op_here))))))))))))) (by kernel_rfl) (by kernel_rfl) (by kernel_rfl) (fun _ _ _ h => h) (Or.inl ⟨by rfl, ?_⟩) (by assumption) ?_
    rotate_left 1
    (intro w hSw; (try dsimp only at hSw); go_simp; try with_reducible rfl)
    try simp only [Act.put, List.setIfInBounds_toArray, List.set_cons_zero, List.set_cons_succ]
    refine wpAnyH_take (i := 13) (v := ?_) (op_later (op_later (op_later (op_later (op_later (op_later (op_later (op_later (op_later (op_later (op_later (op_later (op_later (op_here)))))))))))))) (by kernel_rfl) (by kernel_rfl) (by kernel_rfl) (fun _ _ _ h => h) (Or.inl ⟨by rfl, ?_⟩) (by assumption) ?_
    rotate_left 1
    (intro w hSw; (try dsimp only at hSw); go_simp; try with_reducible rfl)
    try simp only [Act.put, List.setIfInBounds_toArray, List.set_cons_zero, List.set_cons_succ]
    refine wpAnyH_take (i := 14) (v := ?_) (op_later (op_later (op_later (op_later (op_later (op_later (op_later (op_later (op_later (op_later (op_later (op_later (op_later (op_later (op_here))))))))))))))) (by kernel_rfl) (by kernel_rfl) (by kernel_rfl) (fun _ _ _ h => h) (Or.inl ⟨by rfl, ?_⟩) (by assumption) ?_
    rotate_left 1
    (intro w hSw; (try dsimp only at hSw); go_simp; try with_reducible rfl)
    try simp only [Act.put, List.setIfInBounds_toArray, List.set_cons_zero, List.set_cons_succ]
    refine wpAnyH_take (i := 15) (v := ?_) (op_later (op_later (op_later (op_later (op_later (op_later (op_later (op_later (op_later (op_later (op_later (op_later (op_later (op_later (op_later (op_here)))))))))))))))) (by kernel_rfl) (by kernel_rfl) (by kernel_rfl) (fun _ _ _ h => h) (Or.inl ⟨by rfl, ?_⟩) (by assumption) ?_
    rotate_left 1
    (intro w hSw; (try dsimp only at hSw); go_simp; try with_reducible rfl)
    try simp only [Act.put, List.setIfInBounds_toArray, List.set_cons_zero, List.set_cons_succ]
    refine wpAnyH_ready (rs := [16]) (by kernel_rfl) (by simp) (AllReadyH.cons (op_later (op_later (op_later (op_later (op_later (op_later (op_later (op_later (op_later (op_later (op_later (op_later (op_later (op_later (op_later (op_later (op_here))))))))))))))))) (fun K hK => ?_) AllReadyH.nil)
    go_simp
    refine hK.out _ _ (KS.out _ HF1.out) (fun hHeld => ?_)
    clear hK K
    try simp only [Act.put, List.setIfInBounds_toArray, List.set_cons_zero, List.set_cons_succ]
    refine wpAnyH_take (i := 17) (v := ?_) (op_later (op_later (op_later (op_later (op_later (op_later (op_later (op_later (op_later (op_later (op_later (op_later (op_later (op_later (op_later (op_later (op_later (op_here)))))))))))))))))) (by kernel_rfl) (by kernel_rfl) (by kernel_rfl) (fun _ _ _ h => h) (Or.inl ⟨by rfl, ?_⟩) (by assumption) ?_
    rotate_left 1
    (intro w hSw; (try dsimp only at hSw); go_simp; try with_reducible rfl)
    try simp only [Act.put, List.setIfInBounds_toArray, List.set_cons_zero, List.set_cons_succ]
    refine wpAnyH_ready (rs := [18]) (by kernel_rfl) (by simp) (AllReadyH.cons (op_later (op_later (op_later (op_later (op_later (op_later (op_later (op_later (op_later (op_later (op_later (op_later (op_later (op_later (op_later (op_later (op_later (op_later (op_here))))))))))))))))))) (fun K hK => ?_) AllReadyH.nil)
    go_simp
    refine hK.out _ _ (KS.out _ HF2.out) (fun hHeld => ?_)
    clear hK K
    try simp only [Act.put, List.setIfInBounds_toArray, List.set_cons_zero, List.set_cons_succ]
    refine wpAnyH_ready (rs := [19]) (by kernel_rfl) (by simp) (AllReadyH.cons (op_later (op_later (op_later (op_later (op_later (op_later (op_later (op_later (op_later (op_later (op_later (op_later (op_later (op_later (op_later (op_later (op_later (op_later (op_later (op_here)))))))))))))))))))) (fun K hK => ?_) AllReadyH.nil)
    go_simp
    refine hK.out _ _ (KS.out _ HF3.out) (fun hHeld => ?_)
    clear hK K
    try simp only [Act.put, List.setIfInBounds_toArray, List.set_cons_zero, List.set_cons_succ]
    refine wpAnyH_take (i := 20) (v := ?_) (op_later (op_later (op_later (op_later (op_later (op_later (op_later (op_later (op_later (op_later (op_later (op_later (op_later (op_later (op_later (op_later (op_later (op_later (op_later (op_later (op_here))))))))))))))))))))) (by kernel_rfl) (by kernel_rfl) (by kernel_rfl) (fun _ _ _ h => h) (Or.inl ⟨by rfl, ?_⟩) (by assumption) ?_
    rotate_left 1
    (intro w hSw; (try dsimp only at hSw); go_simp; try with_reducible rfl)
    try simp only [Act.put, List.setIfInBounds_toArray, List.set_cons_zero, List.set_cons_succ]
    refine wpAnyH_ready (rs := [21]) (by kernel_rfl) (by simp) (AllReadyH.cons (op_later (op_later (op_later (op_later (op_later (op_later (op_later (op_later (op_later (op_later (op_later (op_later (op_later (op_later (op_later (op_later (op_later (op_later (op_later (op_later (op_later (op_here)))))))))))))))))))))) (fun K hK => ?_) AllReadyH.nil)
    go_simp
    refine hK.out _ _ (KS.out _ HF4.out) (fun hHeld => ?_)
    clear hK K
    try simp only [Act.put, List.setIfInBounds_toArray, List.set_cons_zero, List.set_cons_succ]
    refine wpAnyH_done (by kernel_rfl) ?_ _
    all_goals
      go_wp2_with fail
      go_ret
      exact ⟨rfl, HC.out.cut HF4.out HO.out⟩
  · have hokb : okPair x y = false := by unfold okPair; simpa using hok
    unfold SetPost
    simp only [hokb, Bool.false_eq_true, if_false]
    clear h KS
    by_cases h1 : 1 ≤ x ∧ x ≤ 15
    · by_cases h2 : 1 ≤ y ∧ y ≤ 15
      · obtain rfl : x = y := by
          by_cases e : x = y
          · exact e
          · exact absurd ⟨h1.1, h1.2, h2.1, h2.2, e⟩ hok
        go_enter Try.func69, Try.ntmps69
        go_wp2_with fail
        refine (node_yes x h1.1 h1.2 _).mono ?_
        rintro e w' ⟨rfl, rfl⟩
        go_wp2_with fail
        refine (node_yes x h1.1 h1.2 _).mono ?_
        rintro e w' ⟨rfl, rfl⟩
        go_wp2_with fail
        go_ret
        exact ⟨rfl, HC.out⟩
      · go_enter Try.func69, Try.ntmps69
        go_wp2_with fail
        refine (node_yes x h1.1 h1.2 _).mono ?_
        rintro e w' ⟨rfl, rfl⟩
        go_wp2_with fail
        refine (node_no y h2 _).mono ?_
        rintro e w' ⟨rfl, rfl⟩
        go_wp2_with fail
        go_ret
        exact ⟨rfl, HC.out⟩
    · go_enter Try.func69, Try.ntmps69
      go_wp2_with fail
      refine (node_no x h1 _).mono ?_
      rintro e w' ⟨rfl, rfl⟩
      go_wp2_with fail
      go_ret
      exact ⟨rfl, HC.out⟩
end Go.Proofs.Ytlceembcehokoaa

/- Net19, Net21. (Put together by merge28.py.) -/
import Derived.Test.YtlceembcehokoaaNs1
import Derived.Deep.DrawnRows
import Derived.Laws.ResultCell
namespace Go.Proofs.Ytlceembcehokoaa
open Go.RowKit
set_option maxRecDepth 100000

theorem IsQ.cut {w0 w w' : World} {F : Nat → Prop} {b m c : Nat} {D : DataW Unit} {v : Value} {q : List Pq} (h : IsQ w0 F b m v q w) (hm : CutsAt w m c D) (fm : F m) (K : Frm (fun k => k = m) w w') : IsQ w0 F b m v q w' :=
  ⟨h.blk.frm K (fun e => OM.not_cells hm h.blk e.symm), h.sl.frm K (fun k hk e => by subst e; exact OM.not_sl hm h.sl hk), fun p hp => (h.own p hp).frm K (fun k hk e => by subst e; exact OM.not_sl hm (h.own p hp) hk), h.sep, h.fv, h.fo, h.fb, fun k hk => ⟨(h.low k hk).1, Nat.lt_of_lt_of_le (h.low k hk).2 K.size⟩, h.frm.trans' K (fun k hk e => by subst e; have := (h.low k fm).1; omega)⟩
def okPair (x y : Int) : Bool := decide (1 ≤ x ∧ x ≤ 15 ∧ 1 ≤ y ∧ y ≤ 15 ∧ x ≠ y)
def SetQ (w0 : World) (F : Nat → Prop) (b : Nat) (l : List Ab) (c : Nat) (C : Int → Int → Bool) (x y : Int) (v : Bool) (w : World) (e : Ending) (w' : World) : Prop :=
  e = .returned (.int .i64 (if okPair x y = true then 0 else 1)) ∧ ∃ c', c' ≤ c + 2 ∧ StepS w0 F b l c' (if okPair x y = true then setC C x y v else C) w w'
theorem setQ_made {w0 w w' : World} {F : Nat → Prop} {b m c : Nat} {es : List (Lit × DataW Unit)} {C : Int → Int → Bool} {u : Value} {q : List Pq} {x y : Int} {v : Bool} (h : IsQ w0 F b m u q w) (hm : CutsAt w m c (.map es)) (hC : CutsAre (.map es) C) (fm : F m)
    (K : Frm (fun k => k = m) w w') (hm' : CutsAt w' m (c + 1 + 1) (((DataW.map es).put (keyL x y) (.lit (.bool v))).put (keyL y x) (.lit (.bool v)))) (x1 : 1 ≤ x) (x2 : x ≤ 15) (y1 : 1 ≤ y) (y2 : y ≤ 15) :
    StepS w0 F b (q.map Pq.a) (c + 1 + 1) (setC C x y v) w w' :=
  ⟨F, ⟨m, u, q, rfl, h.cut hm fm K, ⟨⟨_, hm', hC.set x1 x2 y1 y2 v⟩, fm⟩⟩, K.mono (fun k _ e => by subst e; exact fm), fun k hk => .inl hk⟩
set_option maxHeartbeats 8000000 in
theorem setQ_any (w0 w : World) (F : Nat → Prop) (b : Nat) (l : List Ab) (c : Nat) (C : Int → Int → Bool) (h : IsS w0 F b l c C w) (hc : c ≤ 2000) (x y : Int) (wx : (Lit.int .i64 x).wf = true) (wy : (Lit.int .i64 y).wf = true) (v : Bool) :
    Calls Try.prog 69 #[.pointer (some ⟨b, 0, none⟩), .int .i64 x, .int .i64 y, .bool v] w fun e w' => SetQ w0 F b l c C x y v w e w' := by
  have HI := Lib.hid h
  obtain ⟨m, u, q, rfl, hq, hm⟩ := h
  obtain ⟨es, hm1, hm2⟩ := hm.map
  have KS : Hid (∀ w', Frm (fun k => k = m) w w' → w'.cell? ⟨b, 1, none⟩ = some (.map (some m))) := Lib.hid fun w' K => (hq.cut hm1 hm.fm K).blk.cell 1
  by_cases hok : 1 ≤ x ∧ x ≤ 15 ∧ 1 ≤ y ∧ y ≤ 15 ∧ x ≠ y
  · have hokb : okPair x y = true := by unfold okPair; simpa using hok
    obtain ⟨a1, a2, a3, a4, a5⟩ := hok
    obtain ⟨v0, st, w1, r1, f1, w2, r2, o2, f2⟩ := om_entry (hm1.drew) (by unfold maxLen; omega) x y wx wy v
    obtain ⟨v1, su, w3, r3, f3, w4, r4, o4, f4⟩ := om_entry o2 (by unfold maxLen; omega) y x wy wx v
    have F0 : Frm (fun k => k = m) w w.drew := (Frm.refl _ w).drew
    have HF1 := Lib.hid (F0.trans f1)
    have HF2 := Lib.hid (F0.trans f2)
    have HF3 := Lib.hid ((F0.trans f2).trans f3)
    have HF4 := Lib.hid ((F0.trans f2).trans f4)
    have HMADE := Lib.hid (setQ_made hq hm1 hm2 hm.fm HF4.out o4 a1 a2 a3 a4)
    clear hq hm hm1 hm2 f1 f2 f3 f4 F0 o2 o4 wx wy
    unfold SetQ
    simp only [if_pos hokb]
    go_enter Try.func69, Try.ntmps69
    go_wp2_with fail
    refine (node_yes x a1 a2 _).mono ?_
    rintro e w' ⟨rfl, hw'⟩
    rw [hw']
    clear hw' w'
    go_wp2_with fail
    refine (node_yes y a3 a4 _).mono ?_
    rintro e w' ⟨rfl, hw'⟩
    rw [hw']
    clear hw' w'
    go_wp2_with fail
    refine wp_region_held_drew (S := fun w' => w'.cell? ⟨b, 1, none⟩ = some (.map (some m))) (by kernel_rfl) (KS.out _ ((Frm.refl _ w).drew)) (fun hHeld => ?_)
    refine wpAnyH_take (i := 0) (v := ?_) (op_here) (by kernel_rfl) (by kernel_rfl) (by kernel_rfl) (fun _ _ _ h => h) (Or.inl ⟨by rfl, ?_⟩) (by assumption) ?_
    rotate_left 1
    (intro w hSw; (try dsimp only at hSw); go_simp; try with_reducible rfl)
    try simp only [Act.put, List.setIfInBounds_toArray, List.set_cons_zero, List.set_cons_succ]
    refine wpAnyH_take (i := 1) (v := ?_) (op_later (op_here)) (by kernel_rfl) (by kernel_rfl) (by kernel_rfl) (fun _ _ _ h => h) (Or.inl ⟨by rfl, ?_⟩) (by assumption) ?_
    rotate_left 1
    (intro w hSw; (try dsimp only at hSw); go_simp; try with_reducible rfl)
    try simp only [Act.put, List.setIfInBounds_toArray, List.set_cons_zero, List.set_cons_succ]
    refine wpAnyH_take (i := 2) (v := ?_) (op_later (op_later (op_here))) (by kernel_rfl) (by kernel_rfl) (by kernel_rfl) (fun _ _ _ h => h) (Or.inl ⟨by rfl, ?_⟩) (by assumption) ?_
    rotate_left 1
    (intro w hSw; (try dsimp only at hSw); go_simp; try with_reducible rfl)
    try simp only [Act.put, List.setIfInBounds_toArray, List.set_cons_zero, List.set_cons_succ]
    refine wpAnyH_take (i := 3) (v := ?_) (op_later (op_later (op_later (op_here)))) (by kernel_rfl) (by kernel_rfl) (by kernel_rfl) (fun _ _ _ h => h) (Or.inl ⟨by rfl, ?_⟩) (by assumption) ?_
    rotate_left 1
    (intro w hSw; (try dsimp only at hSw); go_simp; try with_reducible rfl)
    try simp only [Act.put, List.setIfInBounds_toArray, List.set_cons_zero, List.set_cons_succ]
    refine wpAnyH_take (i := 4) (v := ?_) (op_later (op_later (op_later (op_later (op_here))))) (by kernel_rfl) (by kernel_rfl) (by kernel_rfl) (fun _ _ _ h => h) (Or.inl ⟨by rfl, ?_⟩) (by assumption) ?_
    rotate_left 1
    (intro w hSw; (try dsimp only at hSw); go_simp; try with_reducible rfl)
    try simp only [Act.put, List.setIfInBounds_toArray, List.set_cons_zero, List.set_cons_succ]
    refine wpAnyH_take (i := 5) (v := ?_) (op_later (op_later (op_later (op_later (op_later (op_here)))))) (by kernel_rfl) (by kernel_rfl) (by kernel_rfl) (fun _ _ _ h => h) (Or.inl ⟨by rfl, ?_⟩) (by assumption) ?_
    rotate_left 1
    (intro w hSw; (try dsimp only at hSw); go_simp; try with_reducible rfl)
    try simp only [Act.put, List.setIfInBounds_toArray, List.set_cons_zero, List.set_cons_succ]
    refine wpAnyH_take (i := 6) (v := ?_) (op_later (op_later (op_later (op_later (op_later (op_later (op_here))))))) (by kernel_rfl) (by kernel_rfl) (by kernel_rfl) (fun _ _ _ h => h) (Or.inl ⟨by rfl, ?_⟩) (by assumption) ?_
    rotate_left 1
    (intro w hSw; (try dsimp only at hSw); go_simp; try with_reducible rfl)
    try simp only [Act.put, List.setIfInBounds_toArray, List.set_cons_zero, List.set_cons_succ]
    refine wpAnyH_take (i := 7) (v := ?_) (op_later (op_later (op_later (op_later (op_later (op_later (op_later (op_here)))))))) (by kernel_rfl) (by kernel_rfl) (by kernel_rfl) (fun _ _ _ h => h) (Or.inl ⟨by rfl, ?_⟩) (by assumption) ?_
    rotate_left 1
    (intro w hSw; (try dsimp only at hSw); go_simp; try with_reducible rfl)
    try simp only [Act.put, List.setIfInBounds_toArray, List.set_cons_zero, List.set_cons_succ]
    refine wpAnyH_take (i := 8) (v := ?_) (op_later (op_later (op_later (op_later (op_later (op_later (op_later (op_later (op_here))))))))) (by kernel_rfl) (by kernel_rfl) (by kernel_rfl) (fun _ _ _ h => h) (Or.inl ⟨by rfl, ?_⟩) (by assumption) ?_
    rotate_left 1
    (intro w hSw; (try dsimp only at hSw); go_simp; try with_reducible rfl)
    try simp only [Act.put, List.setIfInBounds_toArray, List.set_cons_zero, List.set_cons_succ]
    refine wpAnyH_take (i := 9) (v := ?_) (op_later (op_later (op_later (op_later (op_later (op_later (op_later (op_later (op_later (op_here)))))))))) (by kernel_rfl) (by kernel_rfl) (by kernel_rfl) (fun _ _ _ h => h) (Or.inl ⟨by rfl, ?_⟩) (by assumption) ?_
    rotate_left 1
    (intro w hSw; (try dsimp only at hSw); go_simp; try with_reducible rfl)
    try simp only [Act.put, List.setIfInBounds_toArray, List.set_cons_zero, List.set_cons_succ]
    refine wpAnyH_take (i := 10) (v := ?_) (op_later (op_later (op_later (op_later (op_later (op_later (op_later (op_later (op_later (op_later (op_here))))))))))) (by kernel_rfl) (by kernel_rfl) (by kernel_rfl) (fun _ _ _ h => h) (Or.inl ⟨by rfl, ?_⟩) (by assumption) ?_
    rotate_left 1
    (intro w hSw; (try dsimp only at hSw); go_simp; try with_reducible rfl)
    try simp only [Act.put, List.setIfInBounds_toArray, List.set_cons_zero, List.set_cons_succ]
    refine wpAnyH_take (i := 11) (v := ?_) (op_later (op_later (op_later (op_later (op_later (op_later (op_later (op_later (op_later (op_later (op_later (op_here)))))))))))) (by kernel_rfl) (by kernel_rfl) (by kernel_rfl) (fun _ _ _ h => h) (Or.inl ⟨by rfl, ?_⟩) (by assumption) ?_
    rotate_left 1
    (intro w hSw; (try dsimp only at hSw); go_simp; try with_reducible rfl)
    try simp only [Act.put, List.setIfInBounds_toArray, List.set_cons_zero, List.set_cons_succ]
    refine wpAnyH_take (i := 12) (v := ?_) (op_later (op_later (op_later (op_later (op_later (op_later (op_later (op_later (op_later (op_later (op_later (op_later (op_here))))))))))))) (by kernel_rfl) (by kernel_rfl) (by kernel_rfl) (fun _ _ _ h => h) (Or.inl ⟨by rfl, ?_⟩) (by assumption) ?_
    rotate_left 1
    (intro w hSw; (try dsimp only at hSw); go_simp; try with_reducible rfl)
    try simp only [Act.put, List.setIfInBounds_toArray, List.set_cons_zero, List.set_cons_succ]
    refine wpAnyH_take (i := 13) (v := ?_) (op_later (op_later (op_later (op_later (op_later (op_later (op_later (op_later (op_later (op_later (op_later (op_later (op_later (op_here)))))))))))))) (by kernel_rfl) (by kernel_rfl) (by kernel_rfl) (fun _ _ _ h => h) (Or.inl ⟨by rfl, ?_⟩) (by assumption) ?_
    rotate_left 1
    (intro w hSw; (try dsimp only at hSw); go_simp; try with_reducible rfl)
    try simp only [Act.put, List.setIfInBounds_toArray, List.set_cons_zero, List.set_cons_succ]
    refine wpAnyH_take (i := 14) (v := ?_) (op_later (op_later (op_later (op_later (op_later (op_later (op_later (op_later (op_later (op_later (op_later (op_later (op_later (op_later (op_here))))))))))))))) (by kernel_rfl) (by kernel_rfl) (by kernel_rfl) (fun _ _ _ h => h) (Or.inl ⟨by rfl, ?_⟩) (by assumption) ?_
    rotate_left 1
    (intro w hSw; (try dsimp only at hSw); go_simp; try with_reducible rfl)
    try simp only [Act.put, List.setIfInBounds_toArray, List.set_cons_zero, List.set_cons_succ]
    refine wpAnyH_take (i := 15) (v := ?_) (op_later (op_later (op_later (op_later (op_later (op_later (op_later (op_later (op_later (op_later (op_later (op_later (op_later (op_later (op_later (op_here)))))))))))))))) (by kernel_rfl) (by kernel_rfl) (by kernel_rfl) (fun _ _ _ h => h) (Or.inl ⟨by rfl, ?_⟩) (by assumption) ?_
    rotate_left 1
    (intro w hSw; (try dsimp only at hSw); go_simp; try with_reducible rfl)
    try simp only [Act.put, List.setIfInBounds_toArray, List.set_cons_zero, List.set_cons_succ]
    refine wpAnyH_ready (rs := [16]) (by kernel_rfl) (by simp) (AllReadyH.cons (op_later (op_later (op_later (op_later (op_later (op_later (op_later (op_later (op_later (op_later (op_later (op_later (op_later (op_later (op_later (op_later (op_here))))))))))))))))) (fun K hK => ?_) AllReadyH.nil)
    go_simp
    refine hK.out _ _ (KS.out _ HF1.out) (fun hHeld => ?_)
    clear hK K
    try simp only [Act.put, List.setIfInBounds_toArray, List.set_cons_zero, List.set_cons_succ]
    refine wpAnyH_take (i := 17) (v := ?_) (op_later (op_later (op_later (op_later (op_later (op_later (op_later (op_later (op_later (op_later (op_later (op_later (op_later (op_later (op_later (op_later (op_later (op_here)))))))))))))))))) (by kernel_rfl) (by kernel_rfl) (by kernel_rfl) (fun _ _ _ h => h) (Or.inl ⟨by rfl, ?_⟩) (by assumption) ?_
    rotate_left 1
    (intro w hSw; (try dsimp only at hSw); go_simp; try with_reducible rfl)
    try simp only [Act.put, List.setIfInBounds_toArray, List.set_cons_zero, List.set_cons_succ]
    refine wpAnyH_ready (rs := [18]) (by kernel_rfl) (by simp) (AllReadyH.cons (op_later (op_later (op_later (op_later (op_later (op_later (op_later (op_later (op_later (op_later (op_later (op_later (op_later (op_later (op_later (op_later (op_later (op_later (op_here))))))))))))))))))) (fun K hK => ?_) AllReadyH.nil)
    go_simp
    refine hK.out _ _ (KS.out _ HF2.out) (fun hHeld => ?_)
    clear hK K
    try simp only [Act.put, List.setIfInBounds_toArray, List.set_cons_zero, List.set_cons_succ]
    refine wpAnyH_ready (rs := [19]) (by kernel_rfl) (by simp) (AllReadyH.cons (op_later (op_later (op_later (op_later (op_later (op_later (op_later (op_later (op_later (op_later (op_later (op_later (op_later (op_later (op_later (op_later (op_later (op_later (op_later (op_here)))))))))))))))))))) (fun K hK => ?_) AllReadyH.nil)
    go_simp
    refine hK.out _ _ (KS.out _ HF3.out) (fun hHeld => ?_)
    clear hK K
    try simp only [Act.put, List.setIfInBounds_toArray, List.set_cons_zero, List.set_cons_succ]
    refine wpAnyH_take (i := 20) (v := ?_) (op_later (op_later (op_later (op_later (op_later (op_later (op_later (op_later (op_later (op_later (op_later (op_later (op_later (op_later (op_later (op_later (op_later (op_later (op_later (op_later (op_here))))))))))))))))))))) (by kernel_rfl) (by kernel_rfl) (by kernel_rfl) (fun _ _ _ h => h) (Or.inl ⟨by rfl, ?_⟩) (by assumption) ?_
    rotate_left 1
    (intro w hSw; (try dsimp only at hSw); go_simp; try with_reducible rfl)
    try simp only [Act.put, List.setIfInBounds_toArray, List.set_cons_zero, List.set_cons_succ]
    refine wpAnyH_ready (rs := [21]) (by kernel_rfl) (by simp) (AllReadyH.cons (op_later (op_later (op_later (op_later (op_later (op_later (op_later (op_later (op_later (op_later (op_later (op_later (op_later (op_later (op_later (op_later (op_later (op_later (op_later (op_later (op_later (op_here)))))))))))))))))))))) (fun K hK => ?_) AllReadyH.nil)
    go_simp
    refine hK.out _ _ (KS.out _ HF4.out) (fun hHeld => ?_)
    clear hK K
    try simp only [Act.put, List.setIfInBounds_toArray, List.set_cons_zero, List.set_cons_succ]
    refine wpAnyH_done (by kernel_rfl) ?_ _
    all_goals
      go_wp2_with fail
      go_ret
      exact ⟨rfl, _, by omega, HMADE.out⟩
  · have hokb : okPair x y = false := by unfold okPair; simpa using hok
    unfold SetQ
    simp only [hokb, Bool.false_eq_true, if_false]
    clear hq hm hm1 hm2 KS
    by_cases h1 : 1 ≤ x ∧ x ≤ 15
    · by_cases h2 : 1 ≤ y ∧ y ≤ 15
      · obtain rfl : x = y := by
          by_cases e : x = y
          · exact e
          · exact absurd ⟨h1.1, h1.2, h2.1, h2.2, e⟩ hok
        go_enter Try.func69, Try.ntmps69
        go_wp2_with fail
        refine (node_yes x h1.1 h1.2 _).mono ?_
        rintro e w' ⟨rfl, rfl⟩
        go_wp2_with fail
        refine (node_yes x h1.1 h1.2 _).mono ?_
        rintro e w' ⟨rfl, rfl⟩
        go_wp2_with fail
        go_ret
        exact ⟨rfl, c, by omega, .still HI.out (Frm.refl _ _)⟩
      · go_enter Try.func69, Try.ntmps69
        go_wp2_with fail
        refine (node_yes x h1.1 h1.2 _).mono ?_
        rintro e w' ⟨rfl, rfl⟩
        go_wp2_with fail
        refine (node_no y h2 _).mono ?_
        rintro e w' ⟨rfl, rfl⟩
        go_wp2_with fail
        go_ret
        exact ⟨rfl, c, by omega, .still HI.out (Frm.refl _ _)⟩
    · go_enter Try.func69, Try.ntmps69
      go_wp2_with fail
      refine (node_no x h1 _).mono ?_
      rintro e w' ⟨rfl, rfl⟩
      go_wp2_with fail
      go_ret
      exact ⟨rfl, c, by omega, .still HI.out (Frm.refl _ _)⟩
set_option maxHeartbeats 1000000 in
theorem cutQ_any (w0 w : World) (F : Nat → Prop) (b : Nat) (l : List Ab) (c : Nat) (C : Int → Int → Bool) (h : IsS w0 F b l c C w) (hc : c ≤ 2000) (x y : Int) (wx : (Lit.int .i64 x).wf = true) (wy : (Lit.int .i64 y).wf = true) :
    Calls Try.prog 20 #[.pointer (some ⟨b, 0, none⟩), .int .i64 x, .int .i64 y] w fun e w' => SetQ w0 F b l c C x y true w e w' := by
  have HX := Lib.hid (setQ_any w0 w F b l c C h hc x y wx wy true)
  unfold SetQ at HX ⊢
  generalize (if okPair x y = true then (0 : Int) else 1) = z at HX ⊢
  generalize (if okPair x y = true then setC C x y true else C) = D at HX ⊢
  clear h wx wy
  go_enter Try.func20, Try.ntmps20
  go_wp2_with fail
  refine HX.out.mono ?_
  rintro e w' ⟨rfl, h1⟩
  go_wp2_with fail
  go_ret
  exact ⟨rfl, h1⟩
set_option maxHeartbeats 1000000 in
theorem healQ_any (w0 w : World) (F : Nat → Prop) (b : Nat) (l : List Ab) (c : Nat) (C : Int → Int → Bool) (h : IsS w0 F b l c C w) (hc : c ≤ 2000) (x y : Int) (wx : (Lit.int .i64 x).wf = true) (wy : (Lit.int .i64 y).wf = true) :
    Calls Try.prog 21 #[.pointer (some ⟨b, 0, none⟩), .int .i64 x, .int .i64 y] w fun e w' => SetQ w0 F b l c C x y false w e w' := by
  have HX := Lib.hid (setQ_any w0 w F b l c C h hc x y wx wy false)
  unfold SetQ at HX ⊢
  generalize (if okPair x y = true then (0 : Int) else 1) = z at HX ⊢
  generalize (if okPair x y = true then setC C x y false else C) = D at HX ⊢
  clear h wx wy
  go_enter Try.func21, Try.ntmps21
  go_wp2_with fail
  refine HX.out.mono ?_
  rintro e w' ⟨rfl, h1⟩
  go_wp2_with fail
  go_ret
  exact ⟨rfl, h1⟩
end Go.Proofs.Ytlceembcehokoaa
namespace Go.Proofs.Ytlceembcehokoaa
open Go.RowKit
set_option maxRecDepth 100000

theorem pushQ {w0 w w3 w5 : World} {F : Nat → Prop} {b m c : Nat} {C : Int → Int → Bool} {v v' : Value} {q : List Pq} (h : IsQ w0 F b m v q w) (hm : IsM F m c C w) (K3 : Fresh w w3) {x t : Int} {bs : List UInt8} {u : Value} (hu : Sl w3 w.heap.size 5 1 u bs.length (bs.map bv)) (o : Obj)
    (hf5 : Frm (fun k => v.ownBlock = some k) (w3.alloc o) w5) (hs5 : Sl w5 w0.heap.size 101 4 v' (q.length + 1) (q.flatMap qcells ++ [.int .i64 x, .int .i64 t, u, .bool false])) (ha5 : v'.ownBlock = v.ownBlock ∨ v'.ownBlock = some (w3.alloc o).heap.size) :
    StepS w0 F b (q.map Pq.a ++ [⟨x, t, bs, false⟩]) c C w (w5.setCell ⟨b, 0, none⟩ v') ∧ w5.cell? ⟨b, 0, none⟩ = some v ∧ w5.frozen? ⟨b, 0, none⟩ = false := by
  have hsz := h.frm.size
  have hp := h.put (q' := q ++ [⟨⟨x, t, bs, false⟩, u⟩]) (v' := v') (K3.alloc o) hf5 (by rw [List.length_append, List.flatMap_append]; exact hs5)
    (fun k hk => by
      rcases ha5 with e | e
      · exact .inl (h.fv k (by rw [← e]; exact hk))
      · rw [e] at hk
        have := Option.some.inj hk
        have := K3.size
        rw [World.size_alloc] at *
        exact .inr (by omega))
    (fun p hp => by
      rcases List.mem_append.1 hp with hp | hp
      · exact ⟨(h.own p hp).fresh (K3.alloc o), fun k hk => .inl (h.fo p hp k hk)⟩
      · rw [List.mem_singleton] at hp
        subst hp
        exact ⟨(hu.less hsz).alloc o, fun k hk => .inr (hu.lt k hk).1⟩)
    (by
      rw [List.pairwise_append]
      refine ⟨h.sep, List.pairwise_singleton _ _, fun p hp p' hp' k h1 h2 => ?_⟩
      rw [List.mem_singleton] at hp'
      subst hp'
      have := (h.low k (h.fo p hp k h1)).2
      have := (hu.lt k h2).1
      omega)
  refine ⟨?_, hp.2.1, hp.2.2.1⟩
  have := StepS.put h hm hp.1 (hp.2.2.2.mono (fun k _ e => e.elim .inl (fun e => .inr (.inl e))))
  rwa [List.map_append] at this
def sendOk (C : Int → Int → Bool) (x t : Int) (bs : List UInt8) : Bool := decide ((1 ≤ x ∧ x ≤ 15) ∧ (1 ≤ t ∧ t ≤ 15) ∧ bs.length ≤ 70000) && !(C x t)
def sendL (C : Int → Int → Bool) (x t : Int) (bs : List UInt8) (l : List Ab) : List Ab := if sendOk C x t bs = true then l ++ [⟨x, t, bs, false⟩] else l
def SendQ (w0 : World) (F : Nat → Prop) (b : Nat) (l : List Ab) (x t : Int) (bs : List UInt8) (c : Nat) (C : Int → Int → Bool) (w : World) (e : Ending) (w' : World) : Prop :=
  e = .returned (.bool (sendOk C x t bs)) ∧ StepS w0 F b (sendL C x t bs l) c C w w'
theorem sendOk_yes {C : Int → Int → Bool} {x t : Int} {bs : List UInt8} (hx : 1 ≤ x ∧ x ≤ 15) (ht : 1 ≤ t ∧ t ≤ 15) (hb : bs.length ≤ 70000) (hC : C x t = false) : sendOk C x t bs = true := by
  unfold sendOk
  rw [hC, decide_eq_true (⟨hx, ht, hb⟩)]
  rfl
theorem sendOk_no {C : Int → Int → Bool} {x t : Int} {bs : List UInt8} (h : ¬ ((1 ≤ x ∧ x ≤ 15) ∧ (1 ≤ t ∧ t ≤ 15) ∧ bs.length ≤ 70000)) : sendOk C x t bs = false := by
  unfold sendOk
  rw [decide_eq_false h]
  rfl
theorem sendOk_cut {C : Int → Int → Bool} {x t : Int} {bs : List UInt8} (hC : C x t = true) : sendOk C x t bs = false := by
  unfold sendOk
  rw [hC, Bool.not_true, Bool.and_false]
theorem sendL_no {C : Int → Int → Bool} {x t : Int} {bs : List UInt8} {l : List Ab} (h : sendOk C x t bs = false) : sendL C x t bs l = l := by
  unfold sendL
  rw [h]
  rfl
set_option maxHeartbeats 8000000 in
theorem sendQ_any (w0 w : World) (F : Nat → Prop) (b : Nat) (l : List Ab) (c : Nat) (C : Int → Int → Bool) (h : IsS w0 F b l c C w) (hl : l.length ≤ 1000) (x t : Int) (wx : (Lit.int .i64 x).wf = true) (wt : (Lit.int .i64 t).wf = true)
    (AB : Option Addr) (cb : Nat) (bs : List UInt8) (hr : Rd w w.heap.size AB (bs.map bv)) (hbl : bs.length ≤ 100000) (hbc : bs.length ≤ cb) (hbm : cb ≤ maxLen) :
    Calls Try.prog 18 #[.pointer (some ⟨b, 0, none⟩), .agg #[.int .i64 x, .int .i64 t, .slice AB bs.length cb]] w fun e w' => SendQ w0 F b l x t bs c C w e w' := by
  obtain ⟨i0, hi, hz0, hz1, hz2⟩ := info_parts info_pk
  obtain ⟨W, hW⟩ : ∃ W, w.alloc (.cells #[.int .i64 x, .int .i64 t, .slice AB bs.length cb] 45) = W := ⟨_, rfl⟩
  have FW : Fresh w W := by rw [← hW]; exact (Frm.refl _ w).alloc _
  have BP : Hid (Blk W w.heap.size 45 #[.int .i64 x, .int .i64 t, .slice AB bs.length cb]) := Lib.hid (by rw [← hW]; exact Blk.new w _ _)
  have HI := Lib.hid h
  obtain ⟨m, v, q, rfl, hq, hm⟩ := h
  rw [List.length_map] at hl
  obtain ⟨A, cap, rfl, hcl, hcm, _⟩ := hq.sl.shape
  have HQ := Lib.hid hq
  have HMM := Lib.hid hm
  have HFW := Lib.hid FW
  have HRB := Lib.hid ((hr.fresh (Nat.le_refl _) FW).more FW.size)
  have hbW := hq.blk.frm FW (fun f => f)
  have SS : Hid (W.drew.cell? ⟨w.heap.size, 0, none⟩ = some (.int .i64 x) ∧ W.drew.cell? ⟨w.heap.size, 1, none⟩ = some (.int .i64 t) ∧ W.drew.cell? ⟨w.heap.size, 2, none⟩ = some (.slice AB bs.length cb) ∧ W.drew.cell? ⟨b, 0, none⟩ = some (.slice A q.length cap) ∧ W.drew.cell? ⟨b, 1, none⟩ = some (.map (some m))) :=
    Lib.hid ⟨BP.out.cell 0, BP.out.cell 1, BP.out.cell 2, hbW.cell 0, hbW.cell 1⟩
  have HASK : Hid ((1 ≤ x ∧ x ≤ 15) → (1 ≤ t ∧ t ≤ 15) → (Instr.lookup 94 (.map (some m)) (.agg #[.int .i64 x, .int .i64 t]) false).run Try.prog W.drew = .ok (.bool (C x t)) W.drew) := Lib.hid (by
    intro h1 h2
    obtain ⟨es, hm1, hm2⟩ := hm.map
    exact OM.ask (w := W.drew) (b := m) (n := c) (OM.frm hm1 (FW.drew) (fun f => f)) (Maps.Keyed.of_law pair_key.law) Try.underlying94 Try.underlying4 (zero_bool W.drew) (WideMaps.keyOf_pair (a := x) (b := t) pair_key Try.underlying3 types_size wx wt) (r := C x t) (hm2 x t h1.1 h1.2 h2.1 h2.2))
  have hn0 : (0 : Int) ≤ (q.length : Int) := by omega
  have hge : ¬ (4096 : Int) ≤ (q.length : Int) := by omega
  unfold SendQ
  clear hq hm FW wx wt hbW hr
  by_cases hx : 1 ≤ x ∧ x ≤ 15
  · by_cases ht : 1 ≤ t ∧ t ≤ 15
    · by_cases hb7 : bs.length ≤ 70000
      · have hbi : ¬ (70000 : Int) < (bs.length : Int) := by omega
        have hbd : decide ((70000 : Int) < (bs.length : Int)) = false := by simp; omega
        have hbn : decide (70000 < bs.length) = false := by simp; omega
        have hask := HASK.out hx ht
        cases hC : C x t with
        | false =>
          rw [hC] at hask
          have HO := Lib.hid (sendOk_yes hx ht hb7 hC)
          unfold sendL
          simp only [if_pos HO.out]
          rw [HO.out]
          clear hC HASK
          obtain ⟨x1, x2⟩ := hx
          obtain ⟨t1, t2⟩ := ht
          go_enter Try.func18, Try.ntmps18
          go_wp2_with fail
          clear hW
          go_region_held3 (fun w' => w'.cell? ⟨w.heap.size, 0, none⟩ = some (.int .i64 x) ∧ w'.cell? ⟨w.heap.size, 1, none⟩ = some (.int .i64 t) ∧ w'.cell? ⟨w.heap.size, 2, none⟩ = some (.slice AB bs.length cb) ∧ w'.cell? ⟨b, 0, none⟩ = some (.slice A q.length cap) ∧ w'.cell? ⟨b, 1, none⟩ = some (.map (some m)))
            (exact SS.out)
            (first
              | (go_at_call 67; refine (node_yes x x1 x2 _).mono ?_; rintro e w' ⟨rfl, rfl⟩)
              | (go_at_call 67; refine (node_yes t t1 t2 _).mono ?_; rintro e w' ⟨rfl, rfl⟩))
          have SD := SS.out
          obtain ⟨d0, d1, d2, d3, d4⟩ := SD
          have d0 : W.drew.drew.cell? ⟨w.heap.size, 0, none⟩ = some (.int .i64 x) := d0
          have d1 : W.drew.drew.cell? ⟨w.heap.size, 1, none⟩ = some (.int .i64 t) := d1
          have d2 : W.drew.drew.cell? ⟨w.heap.size, 2, none⟩ = some (.slice AB bs.length cb) := d2
          have d3 : W.drew.drew.cell? ⟨b, 0, none⟩ = some (.slice A q.length cap) := d3
          have HCO := Lib.hid (copied_any W.drew.drew x t AB cb bs HRB.out (by omega) hbc hbm)
          go_wp2_with fail
          go_region_law
            ((first
              | (refine step_append_sl (by rfl) (.tmp 45) (.tmp 49) 95 (by rfl) w0.heap.size 101 i0 _ 4 48 Try.underlying95 hi hz0 hz1 hz2 rfl (by omega) (.slice A q.length cap) q.length (q.flatMap qcells) (by rfl) HS4.out _ (some ⟨w3.heap.size, 0, none⟩) 1 1 [Value.int .i64 x, .int .i64 t, .slice A3 bs.length c3, .bool false] (by rfl) (by rfl) HR4.out HO4.out (by unfold maxLen; omega) (by omega) (by have := HF4.out.size; omega) ?_; intro v5 w5 hs5 hf5 ha5; have HP := Lib.hid (pushQ HQ.out HMM.out HK3.out HS3.out _ hf5 hs5 ha5); obtain ⟨A5, cp5, rfl, _⟩ := hs5.shape; have c5 := HP.out.2.1; have z5 := HP.out.2.2; clear hs5 hf5 ha5)
              | (go_simp; go_at_call 68; show Calls _ _ #[.agg #[.int .i64 x, .int .i64 t, .slice AB bs.length cb]] W.drew.drew _; refine HCO.out.mono ?_; rintro e w3 ⟨v3, rfl, hs3, f3⟩; obtain ⟨A3, c3, rfl, _⟩ := hs3.shape; have HK3 : Hid (Fresh w w3) := Lib.hid ((HFW.out.drew.drew).trans f3); have hb3 := HQ.out.blk.frm HK3.out (fun f => f); have e3 : w3.cell? ⟨b, 0, none⟩ = some (.slice A q.length cap) := hb3.cell 0; have e4 : ∀ o, (w3.alloc o).cell? ⟨b, 0, none⟩ = some (.slice A q.length cap) := (fun o => (hb3.alloc o).cell 0); have HS4 : Hid (Sl (w3.alloc (.cells #[.int .i64 x, .int .i64 t, .slice A3 bs.length c3, .bool false] 101)) w0.heap.size 101 4 (.slice A q.length cap) q.length (q.flatMap qcells)) := Lib.hid ((HQ.out.sl.fresh HK3.out).alloc _); have HF4 : Hid (Fresh w0 (w3.alloc (.cells #[.int .i64 x, .int .i64 t, .slice A3 bs.length c3, .bool false] 101))) := Lib.hid ((HQ.out.frm.trans HK3.out).alloc _); have HR4 := Lib.hid (rd_new w3 [Value.int .i64 x, .int .i64 t, .slice A3 bs.length c3, .bool false] 101); have HO4 : Hid (∀ u ∈ [Value.int .i64 x, Value.int .i64 t, Value.slice A3 bs.length c3, Value.bool false], u.oneCell' = true) := Lib.hid (by intro u hu; simp only [List.mem_cons, List.not_mem_nil, or_false] at hu; rcases hu with rfl | rfl | rfl | rfl <;> rfl); have HS3 := Lib.hid (hs3.less (B' := w.heap.size) HFW.out.size); clear hs3 f3 hb3)))
          all_goals
            go_wp2_with fail
            all_goals
              go_ret
              exact ⟨by first | rfl | simp, HP.out.1⟩
        | true =>
          rw [hC] at hask
          have HO := Lib.hid (sendOk_cut (x := x) (t := t) (bs := bs) hC)
          rw [HO.out, sendL_no HO.out]
          clear hC HASK
          go_enter Try.func18, Try.ntmps18
          go_wp2_with fail
          clear hW
          refine wp_region_held_drew (S := fun w' => w'.cell? ⟨w.heap.size, 0, none⟩ = some (.int .i64 x) ∧ w'.cell? ⟨w.heap.size, 1, none⟩ = some (.int .i64 t) ∧ w'.cell? ⟨w.heap.size, 2, none⟩ = some (.slice AB bs.length cb) ∧ w'.cell? ⟨b, 0, none⟩ = some (.slice A q.length cap) ∧ w'.cell? ⟨b, 1, none⟩ = some (.map (some m))) (by kernel_rfl) SS.out (fun hHeld => ?_)
          refine wpAnyH_take (i := 0) (v := ?_) (op_here) (by kernel_rfl) (by kernel_rfl) (by kernel_rfl) (fun _ _ _ h => h) (Or.inl ⟨by rfl, ?_⟩) (by assumption) ?_
          rotate_left 1
          (intro w hSw; (try dsimp only at hSw); go_simp; try with_reducible rfl)
          try simp only [Act.put, List.setIfInBounds_toArray, List.set_cons_zero, List.set_cons_succ]
          refine wpAnyH_take (i := 1) (v := ?_) (op_later (op_here)) (by kernel_rfl) (by kernel_rfl) (by kernel_rfl) (fun _ _ _ h => h) (Or.inl ⟨by rfl, ?_⟩) (by assumption) ?_
          rotate_left 1
          (intro w hSw; (try dsimp only at hSw); go_simp; try with_reducible rfl)
          try simp only [Act.put, List.setIfInBounds_toArray, List.set_cons_zero, List.set_cons_succ]
          refine wpAnyH_ready (rs := [2]) (by kernel_rfl) (by simp) (AllReadyH.cons (op_later (op_later (op_here))) (fun K hK => ?_) AllReadyH.nil)
          go_simp
          refine (node_yes x hx.1 hx.2 _).mono ?_
          rintro e w' ⟨rfl, rfl⟩
          refine hK.out _ _ SS.out (fun hHeld => ?_)
          clear hK K
          try simp only [Act.put, List.setIfInBounds_toArray, List.set_cons_zero, List.set_cons_succ]
          refine wpAnyH_take (i := 3) (v := ?_) (op_later (op_later (op_later (op_here)))) (by kernel_rfl) (by kernel_rfl) (by kernel_rfl) (fun _ _ _ h => h) (Or.inl ⟨by rfl, ?_⟩) (by assumption) ?_
          rotate_left 1
          (intro w hSw; (try dsimp only at hSw); go_simp; try with_reducible rfl)
          try simp only [Act.put, List.setIfInBounds_toArray, List.set_cons_zero, List.set_cons_succ]
          refine wpAnyH_take (i := 4) (v := ?_) (op_later (op_later (op_later (op_later (op_here))))) (by kernel_rfl) (by kernel_rfl) (by kernel_rfl) (fun _ _ _ h => h) (Or.inl ⟨by rfl, ?_⟩) (by assumption) ?_
          rotate_left 1
          (intro w hSw; (try dsimp only at hSw); go_simp; try with_reducible rfl)
          try simp only [Act.put, List.setIfInBounds_toArray, List.set_cons_zero, List.set_cons_succ]
          refine wpAnyH_take (i := 5) (v := ?_) (op_later (op_later (op_later (op_later (op_later (op_here)))))) (by kernel_rfl) (by kernel_rfl) (by kernel_rfl) (fun _ _ _ h => h) (Or.inl ⟨by rfl, ?_⟩) (by assumption) ?_
          rotate_left 1
          (intro w hSw; (try dsimp only at hSw); go_simp; try with_reducible rfl)
          try simp only [Act.put, List.setIfInBounds_toArray, List.set_cons_zero, List.set_cons_succ]
          refine wpAnyH_take (i := 6) (v := ?_) (op_later (op_later (op_later (op_later (op_later (op_later (op_here))))))) (by kernel_rfl) (by kernel_rfl) (by kernel_rfl) (fun _ _ _ h => h) (Or.inl ⟨by rfl, ?_⟩) (by assumption) ?_
          rotate_left 1
          (intro w hSw; (try dsimp only at hSw); go_simp; try with_reducible rfl)
          try simp only [Act.put, List.setIfInBounds_toArray, List.set_cons_zero, List.set_cons_succ]
          refine wpAnyH_ready (rs := [7]) (by kernel_rfl) (by simp) (AllReadyH.cons (op_later (op_later (op_later (op_later (op_later (op_later (op_later (op_here)))))))) (fun K hK => ?_) AllReadyH.nil)
          go_simp
          refine (node_yes t ht.1 ht.2 _).mono ?_
          rintro e w' ⟨rfl, rfl⟩
          refine hK.out _ _ SS.out (fun hHeld => ?_)
          clear hK K
          try simp only [Act.put, List.setIfInBounds_toArray, List.set_cons_zero, List.set_cons_succ]
          refine wpAnyH_take (i := 8) (v := ?_) (op_later (op_later (op_later (op_later (op_later (op_later (op_later (op_later (op_here))))))))) (by kernel_rfl) (by kernel_rfl) (by kernel_rfl) (fun _ _ _ h => h) (Or.inl ⟨by rfl, ?_⟩) (by assumption) ?_
          rotate_left 1
          (intro w hSw; (try dsimp only at hSw); go_simp; try with_reducible rfl)
          try simp only [Act.put, List.setIfInBounds_toArray, List.set_cons_zero, List.set_cons_succ]
          refine wpAnyH_take (i := 9) (v := ?_) (op_later (op_later (op_later (op_later (op_later (op_later (op_later (op_later (op_later (op_here)))))))))) (by kernel_rfl) (by kernel_rfl) (by kernel_rfl) (fun _ _ _ h => h) (Or.inl ⟨by rfl, ?_⟩) (by assumption) ?_
          rotate_left 1
          (intro w hSw; (try dsimp only at hSw); go_simp; try with_reducible rfl)
          try simp only [Act.put, List.setIfInBounds_toArray, List.set_cons_zero, List.set_cons_succ]
          refine wpAnyH_take (i := 10) (v := ?_) (op_later (op_later (op_later (op_later (op_later (op_later (op_later (op_later (op_later (op_later (op_here))))))))))) (by kernel_rfl) (by kernel_rfl) (by kernel_rfl) (fun _ _ _ h => h) (Or.inl ⟨by rfl, ?_⟩) (by assumption) ?_
          rotate_left 1
          (intro w hSw; (try dsimp only at hSw); go_simp; try with_reducible rfl)
          try simp only [Act.put, List.setIfInBounds_toArray, List.set_cons_zero, List.set_cons_succ]
          refine wpAnyH_take (i := 11) (v := ?_) (op_later (op_later (op_later (op_later (op_later (op_later (op_later (op_later (op_later (op_later (op_later (op_here)))))))))))) (by kernel_rfl) (by kernel_rfl) (by kernel_rfl) (fun _ _ _ h => h) (Or.inl ⟨by rfl, ?_⟩) (by assumption) ?_
          rotate_left 1
          (intro w hSw; (try dsimp only at hSw); go_simp; try with_reducible rfl)
          try simp only [Act.put, List.setIfInBounds_toArray, List.set_cons_zero, List.set_cons_succ]
          refine wpAnyH_take (i := 12) (v := ?_) (op_later (op_later (op_later (op_later (op_later (op_later (op_later (op_later (op_later (op_later (op_later (op_later (op_here))))))))))))) (by kernel_rfl) (by kernel_rfl) (by kernel_rfl) (fun _ _ _ h => h) (Or.inl ⟨by rfl, ?_⟩) (by assumption) ?_
          rotate_left 1
          (intro w hSw; (try dsimp only at hSw); go_simp; try with_reducible rfl)
          try simp only [Act.put, List.setIfInBounds_toArray, List.set_cons_zero, List.set_cons_succ]
          refine wpAnyH_take (i := 13) (v := ?_) (op_later (op_later (op_later (op_later (op_later (op_later (op_later (op_later (op_later (op_later (op_later (op_later (op_later (op_here)))))))))))))) (by kernel_rfl) (by kernel_rfl) (by kernel_rfl) (fun _ _ _ h => h) (Or.inl ⟨by rfl, ?_⟩) (by assumption) ?_
          rotate_left 1
          (intro w hSw; (try dsimp only at hSw); go_simp; try with_reducible rfl)
          try simp only [Act.put, List.setIfInBounds_toArray, List.set_cons_zero, List.set_cons_succ]
          refine wpAnyH_take (i := 14) (v := ?_) (op_later (op_later (op_later (op_later (op_later (op_later (op_later (op_later (op_later (op_later (op_later (op_later (op_later (op_later (op_here))))))))))))))) (by kernel_rfl) (by kernel_rfl) (by kernel_rfl) (fun _ _ _ h => h) (Or.inl ⟨by rfl, ?_⟩) (by assumption) ?_
          rotate_left 1
          (intro w hSw; (try dsimp only at hSw); go_simp; try with_reducible rfl)
          try simp only [Act.put, List.setIfInBounds_toArray, List.set_cons_zero, List.set_cons_succ]
          refine wpAnyH_take (i := 15) (v := ?_) (op_later (op_later (op_later (op_later (op_later (op_later (op_later (op_later (op_later (op_later (op_later (op_later (op_later (op_later (op_later (op_here)))))))))))))))) (by kernel_rfl) (by kernel_rfl) (by kernel_rfl) (fun _ _ _ h => h) (Or.inl ⟨by rfl, ?_⟩) (by assumption) ?_
          rotate_left 1
          (intro w hSw; (try dsimp only at hSw); go_simp; try with_reducible rfl)
          try simp only [Act.put, List.setIfInBounds_toArray, List.set_cons_zero, List.set_cons_succ]
          refine wpAnyH_take (i := 16) (v := ?_) (op_later (op_later (op_later (op_later (op_later (op_later (op_later (op_later (op_later (op_later (op_later (op_later (op_later (op_later (op_later (op_later (op_here))))))))))))))))) (by kernel_rfl) (by kernel_rfl) (by kernel_rfl) (fun _ _ _ h => h) (Or.inl ⟨by rfl, ?_⟩) (by assumption) ?_
          rotate_left 1
          (intro w hSw; (try dsimp only at hSw); go_simp; try with_reducible rfl)
          try simp only [Act.put, List.setIfInBounds_toArray, List.set_cons_zero, List.set_cons_succ]
          refine wpAnyH_take (i := 17) (v := ?_) (op_later (op_later (op_later (op_later (op_later (op_later (op_later (op_later (op_later (op_later (op_later (op_later (op_later (op_later (op_later (op_later (op_later (op_here)))))))))))))))))) (by kernel_rfl) (by kernel_rfl) (by kernel_rfl) (fun _ _ _ h => h) (Or.inl ⟨by rfl, ?_⟩) (by assumption) ?_
          rotate_left 1
          (intro w hSw; (try dsimp only at hSw); go_simp; try with_reducible rfl)
          try simp only [Act.put, List.setIfInBounds_toArray, List.set_cons_zero, List.set_cons_succ]
          refine wpAnyH_take (i := 18) (v := ?_) (op_later (op_later (op_later (op_later (op_later (op_later (op_later (op_later (op_later (op_later (op_later (op_later (op_later (op_later (op_later (op_later (op_later (op_later (op_here))))))))))))))))))) (by kernel_rfl) (by kernel_rfl) (by kernel_rfl) (fun _ _ _ h => h) (Or.inl ⟨by rfl, ?_⟩) (by assumption) ?_
          rotate_left 1
          (intro w hSw; (try dsimp only at hSw); go_simp; try with_reducible rfl)
          try simp only [Act.put, List.setIfInBounds_toArray, List.set_cons_zero, List.set_cons_succ]
          refine wpAnyH_take (i := 19) (v := ?_) (op_later (op_later (op_later (op_later (op_later (op_later (op_later (op_later (op_later (op_later (op_later (op_later (op_later (op_later (op_later (op_later (op_later (op_later (op_later (op_here)))))))))))))))))))) (by kernel_rfl) (by kernel_rfl) (by kernel_rfl) (fun _ _ _ h => h) (Or.inl ⟨by rfl, ?_⟩) (by assumption) ?_
          rotate_left 1
          (intro w hSw; (try dsimp only at hSw); go_simp; try with_reducible rfl)
          try simp only [Act.put, List.setIfInBounds_toArray, List.set_cons_zero, List.set_cons_succ]
          refine wpAnyH_take (i := 20) (v := ?_) (op_later (op_later (op_later (op_later (op_later (op_later (op_later (op_later (op_later (op_later (op_later (op_later (op_later (op_later (op_later (op_later (op_later (op_later (op_later (op_later (op_here))))))))))))))))))))) (by kernel_rfl) (by kernel_rfl) (by kernel_rfl) (fun _ _ _ h => h) (Or.inl ⟨by rfl, ?_⟩) (by assumption) ?_
          rotate_left 1
          (intro w hSw; (try dsimp only at hSw); go_simp; try with_reducible rfl)
          try simp only [Act.put, List.setIfInBounds_toArray, List.set_cons_zero, List.set_cons_succ]
          refine wpAnyH_take (i := 21) (v := ?_) (op_later (op_later (op_later (op_later (op_later (op_later (op_later (op_later (op_later (op_later (op_later (op_later (op_later (op_later (op_later (op_later (op_later (op_later (op_later (op_later (op_later (op_here)))))))))))))))))))))) (by kernel_rfl) (by kernel_rfl) (by kernel_rfl) (fun _ _ _ h => h) (Or.inl ⟨by rfl, ?_⟩) (by assumption) ?_
          rotate_left 1
          (intro w hSw; (try dsimp only at hSw); go_simp; try with_reducible rfl)
          try simp only [Act.put, List.setIfInBounds_toArray, List.set_cons_zero, List.set_cons_succ]
          refine wpAnyH_take (i := 22) (v := ?_) (op_later (op_later (op_later (op_later (op_later (op_later (op_later (op_later (op_later (op_later (op_later (op_later (op_later (op_later (op_later (op_later (op_later (op_later (op_later (op_later (op_later (op_later (op_here))))))))))))))))))))))) (by kernel_rfl) (by kernel_rfl) (by kernel_rfl) (fun _ _ _ h => h) (Or.inl ⟨by rfl, ?_⟩) (by assumption) ?_
          rotate_left 1
          (intro w hSw; (try dsimp only at hSw); go_simp; try with_reducible rfl)
          try simp only [Act.put, List.setIfInBounds_toArray, List.set_cons_zero, List.set_cons_succ]
          refine wpAnyH_take (i := 23) (v := ?_) (op_later (op_later (op_later (op_later (op_later (op_later (op_later (op_later (op_later (op_later (op_later (op_later (op_later (op_later (op_later (op_later (op_later (op_later (op_later (op_later (op_later (op_later (op_later (op_here)))))))))))))))))))))))) (by kernel_rfl) (by kernel_rfl) (by kernel_rfl) (fun _ _ _ h => h) (Or.inl ⟨by rfl, ?_⟩) (by assumption) ?_
          rotate_left 1
          (intro w hSw; (try dsimp only at hSw); go_simp; try with_reducible rfl)
          try simp only [Act.put, List.setIfInBounds_toArray, List.set_cons_zero, List.set_cons_succ]
          refine wpAnyH_take (i := 24) (v := ?_) (op_later (op_later (op_later (op_later (op_later (op_later (op_later (op_later (op_later (op_later (op_later (op_later (op_later (op_later (op_later (op_later (op_later (op_later (op_later (op_later (op_later (op_later (op_later (op_later (op_here))))))))))))))))))))))))) (by kernel_rfl) (by kernel_rfl) (by kernel_rfl) (fun _ _ _ h => h) (Or.inl ⟨by rfl, ?_⟩) (by assumption) ?_
          rotate_left 1
          (intro w hSw; (try dsimp only at hSw); go_simp; try with_reducible rfl)
          try simp only [Act.put, List.setIfInBounds_toArray, List.set_cons_zero, List.set_cons_succ]
          refine wpAnyH_take (i := 25) (v := ?_) (op_later (op_later (op_later (op_later (op_later (op_later (op_later (op_later (op_later (op_later (op_later (op_later (op_later (op_later (op_later (op_later (op_later (op_later (op_later (op_later (op_later (op_later (op_later (op_later (op_later (op_here)))))))))))))))))))))))))) (by kernel_rfl) (by kernel_rfl) (by kernel_rfl) (fun _ _ _ h => h) (Or.inl ⟨by rfl, ?_⟩) (by assumption) ?_
          rotate_left 1
          (intro w hSw; (try dsimp only at hSw); go_simp; try with_reducible rfl)
          try simp only [Act.put, List.setIfInBounds_toArray, List.set_cons_zero, List.set_cons_succ]
          refine wpAnyH_ready (rs := [26]) (by kernel_rfl) (by simp) (AllReadyH.cons (op_later (op_later (op_later (op_later (op_later (op_later (op_later (op_later (op_later (op_later (op_later (op_later (op_later (op_later (op_later (op_later (op_later (op_later (op_later (op_later (op_later (op_later (op_later (op_later (op_later (op_later (op_here))))))))))))))))))))))))))) (fun K hK => ?_) AllReadyH.nil)
          go_simp
          refine hK.out _ _ SS.out (fun hHeld => ?_)
          clear hK K
          try simp only [Act.put, List.setIfInBounds_toArray, List.set_cons_zero, List.set_cons_succ]
          refine wpAnyH_take (i := 27) (v := ?_) (op_later (op_later (op_later (op_later (op_later (op_later (op_later (op_later (op_later (op_later (op_later (op_later (op_later (op_later (op_later (op_later (op_later (op_later (op_later (op_later (op_later (op_later (op_later (op_later (op_later (op_later (op_later (op_here)))))))))))))))))))))))))))) (by kernel_rfl) (by kernel_rfl) (by kernel_rfl) (fun _ _ _ h => h) (Or.inl ⟨by rfl, ?_⟩) (by assumption) ?_
          rotate_left 1
          (intro w hSw; (try dsimp only at hSw); go_simp; try with_reducible rfl)
          try simp only [Act.put, List.setIfInBounds_toArray, List.set_cons_zero, List.set_cons_succ]
          refine wpAnyH_take (i := 28) (v := ?_) (op_later (op_later (op_later (op_later (op_later (op_later (op_later (op_later (op_later (op_later (op_later (op_later (op_later (op_later (op_later (op_later (op_later (op_later (op_later (op_later (op_later (op_later (op_later (op_later (op_later (op_later (op_later (op_later (op_here))))))))))))))))))))))))))))) (by kernel_rfl) (by kernel_rfl) (by kernel_rfl) (fun _ _ _ h => h) (Or.inl ⟨by rfl, ?_⟩) (by assumption) ?_
          rotate_left 1
          (intro w hSw; (try dsimp only at hSw); go_simp; try with_reducible rfl)
          try simp only [Act.put, List.setIfInBounds_toArray, List.set_cons_zero, List.set_cons_succ]
          refine wpAnyH_take (i := 29) (v := undef) (op_later (op_later (op_later (op_later (op_later (op_later (op_later (op_later (op_later (op_later (op_later (op_later (op_later (op_later (op_later (op_later (op_later (op_later (op_later (op_later (op_later (op_later (op_later (op_later (op_later (op_later (op_later (op_later (op_later (op_here)))))))))))))))))))))))))))))) (by kernel_rfl) (by kernel_rfl) (by kernel_rfl) (fun _ _ _ h => h) (Or.inr ⟨by rfl, rfl⟩) (by assumption) ?_
          try simp only [Act.put, List.setIfInBounds_toArray, List.set_cons_zero, List.set_cons_succ]
          refine wpAnyH_take (i := 30) (v := undef) (op_later (op_later (op_later (op_later (op_later (op_later (op_later (op_later (op_later (op_later (op_later (op_later (op_later (op_later (op_later (op_later (op_later (op_later (op_later (op_later (op_later (op_later (op_later (op_later (op_later (op_later (op_later (op_later (op_later (op_later (op_here))))))))))))))))))))))))))))))) (by kernel_rfl) (by kernel_rfl) (by kernel_rfl) (fun _ _ _ h => h) (Or.inr ⟨by rfl, rfl⟩) (by assumption) ?_
          try simp only [Act.put, List.setIfInBounds_toArray, List.set_cons_zero, List.set_cons_succ]
          refine wpAnyH_take (i := 31) (v := undef) (op_later (op_later (op_later (op_later (op_later (op_later (op_later (op_later (op_later (op_later (op_later (op_later (op_later (op_later (op_later (op_later (op_later (op_later (op_later (op_later (op_later (op_later (op_later (op_later (op_later (op_later (op_later (op_later (op_later (op_later (op_later (op_here)))))))))))))))))))))))))))))))) (by kernel_rfl) (by kernel_rfl) (by kernel_rfl) (fun _ _ _ h => h) (Or.inr ⟨by rfl, rfl⟩) (by assumption) ?_
          try simp only [Act.put, List.setIfInBounds_toArray, List.set_cons_zero, List.set_cons_succ]
          refine wpAnyH_take (i := 32) (v := undef) (op_later (op_later (op_later (op_later (op_later (op_later (op_later (op_later (op_later (op_later (op_later (op_later (op_later (op_later (op_later (op_later (op_later (op_later (op_later (op_later (op_later (op_later (op_later (op_later (op_later (op_later (op_later (op_later (op_later (op_later (op_later (op_later (op_here))))))))))))))))))))))))))))))))) (by kernel_rfl) (by kernel_rfl) (by kernel_rfl) (fun _ _ _ h => h) (Or.inr ⟨by rfl, rfl⟩) (by assumption) ?_
          try simp only [Act.put, List.setIfInBounds_toArray, List.set_cons_zero, List.set_cons_succ]
          refine wpAnyH_take (i := 33) (v := undef) (op_later (op_later (op_later (op_later (op_later (op_later (op_later (op_later (op_later (op_later (op_later (op_later (op_later (op_later (op_later (op_later (op_later (op_later (op_later (op_later (op_later (op_later (op_later (op_later (op_later (op_later (op_later (op_later (op_later (op_later (op_later (op_later (op_later (op_here)))))))))))))))))))))))))))))))))) (by kernel_rfl) (by kernel_rfl) (by kernel_rfl) (fun _ _ _ h => h) (Or.inr ⟨by rfl, rfl⟩) (by assumption) ?_
          try simp only [Act.put, List.setIfInBounds_toArray, List.set_cons_zero, List.set_cons_succ]
          refine wpAnyH_take (i := 34) (v := undef) (op_later (op_later (op_later (op_later (op_later (op_later (op_later (op_later (op_later (op_later (op_later (op_later (op_later (op_later (op_later (op_later (op_later (op_later (op_later (op_later (op_later (op_later (op_later (op_later (op_later (op_later (op_later (op_later (op_later (op_later (op_later (op_later (op_later (op_later (op_here))))))))))))))))))))))))))))))))))) (by kernel_rfl) (by kernel_rfl) (by kernel_rfl) (fun _ _ _ h => h) (Or.inr ⟨by rfl, rfl⟩) (by assumption) ?_
          try simp only [Act.put, List.setIfInBounds_toArray, List.set_cons_zero, List.set_cons_succ]
          refine wpAnyH_take (i := 35) (v := ?_) (op_later (op_later (op_later (op_later (op_later (op_later (op_later (op_later (op_later (op_later (op_later (op_later (op_later (op_later (op_later (op_later (op_later (op_later (op_later (op_later (op_later (op_later (op_later (op_later (op_later (op_later (op_later (op_later (op_later (op_later (op_later (op_later (op_later (op_later (op_later (op_here)))))))))))))))))))))))))))))))))))) (by kernel_rfl) (by kernel_rfl) (by kernel_rfl) (fun _ _ _ h => h) (Or.inl ⟨by rfl, ?_⟩) (by assumption) ?_
          rotate_left 1
          (intro w hSw; (try dsimp only at hSw); go_simp; try with_reducible rfl)
          try simp only [Act.put, List.setIfInBounds_toArray, List.set_cons_zero, List.set_cons_succ]
          refine wpAnyH_done (by kernel_rfl) ?_ _
          go_wp2_with fail
          go_ret
          exact ⟨by simp, .still HI.out HFW.out.drew⟩
      · have HO := Lib.hid (sendOk_no (C := C) (x := x) (t := t) (bs := bs) (fun e => hb7 e.2.2))
        rw [HO.out, sendL_no HO.out]
        have hbi : (70000 : Int) < (bs.length : Int) := by omega
        have hbd : decide ((70000 : Int) < (bs.length : Int)) = true := by simp; omega
        have hbn : decide (70000 < bs.length) = true := by simp; omega
        clear HASK
        go_enter Try.func18, Try.ntmps18
        go_wp2_with fail
        clear hW
        refine wp_region_held_drew (S := fun w' => w'.cell? ⟨w.heap.size, 0, none⟩ = some (.int .i64 x) ∧ w'.cell? ⟨w.heap.size, 1, none⟩ = some (.int .i64 t) ∧ w'.cell? ⟨w.heap.size, 2, none⟩ = some (.slice AB bs.length cb) ∧ w'.cell? ⟨b, 0, none⟩ = some (.slice A q.length cap) ∧ w'.cell? ⟨b, 1, none⟩ = some (.map (some m))) (by kernel_rfl) SS.out (fun hHeld => ?_)
        refine wpAnyH_take (i := 0) (v := ?_) (op_here) (by kernel_rfl) (by kernel_rfl) (by kernel_rfl) (fun _ _ _ h => h) (Or.inl ⟨by rfl, ?_⟩) (by assumption) ?_
        rotate_left 1
        (intro w hSw; (try dsimp only at hSw); go_simp; try with_reducible rfl)
        try simp only [Act.put, List.setIfInBounds_toArray, List.set_cons_zero, List.set_cons_succ]
        refine wpAnyH_take (i := 1) (v := ?_) (op_later (op_here)) (by kernel_rfl) (by kernel_rfl) (by kernel_rfl) (fun _ _ _ h => h) (Or.inl ⟨by rfl, ?_⟩) (by assumption) ?_
        rotate_left 1
        (intro w hSw; (try dsimp only at hSw); go_simp; try with_reducible rfl)
        try simp only [Act.put, List.setIfInBounds_toArray, List.set_cons_zero, List.set_cons_succ]
        refine wpAnyH_ready (rs := [2]) (by kernel_rfl) (by simp) (AllReadyH.cons (op_later (op_later (op_here))) (fun K hK => ?_) AllReadyH.nil)
        go_simp
        refine (node_yes x hx.1 hx.2 _).mono ?_
        rintro e w' ⟨rfl, rfl⟩
        refine hK.out _ _ SS.out (fun hHeld => ?_)
        clear hK K
        try simp only [Act.put, List.setIfInBounds_toArray, List.set_cons_zero, List.set_cons_succ]
        refine wpAnyH_take (i := 3) (v := ?_) (op_later (op_later (op_later (op_here)))) (by kernel_rfl) (by kernel_rfl) (by kernel_rfl) (fun _ _ _ h => h) (Or.inl ⟨by rfl, ?_⟩) (by assumption) ?_
        rotate_left 1
        (intro w hSw; (try dsimp only at hSw); go_simp; try with_reducible rfl)
        try simp only [Act.put, List.setIfInBounds_toArray, List.set_cons_zero, List.set_cons_succ]
        refine wpAnyH_take (i := 4) (v := ?_) (op_later (op_later (op_later (op_later (op_here))))) (by kernel_rfl) (by kernel_rfl) (by kernel_rfl) (fun _ _ _ h => h) (Or.inl ⟨by rfl, ?_⟩) (by assumption) ?_
        rotate_left 1
        (intro w hSw; (try dsimp only at hSw); go_simp; try with_reducible rfl)
        try simp only [Act.put, List.setIfInBounds_toArray, List.set_cons_zero, List.set_cons_succ]
        refine wpAnyH_take (i := 5) (v := ?_) (op_later (op_later (op_later (op_later (op_later (op_here)))))) (by kernel_rfl) (by kernel_rfl) (by kernel_rfl) (fun _ _ _ h => h) (Or.inl ⟨by rfl, ?_⟩) (by assumption) ?_
        rotate_left 1
        (intro w hSw; (try dsimp only at hSw); go_simp; try with_reducible rfl)
        try simp only [Act.put, List.setIfInBounds_toArray, List.set_cons_zero, List.set_cons_succ]
        refine wpAnyH_take (i := 6) (v := ?_) (op_later (op_later (op_later (op_later (op_later (op_later (op_here))))))) (by kernel_rfl) (by kernel_rfl) (by kernel_rfl) (fun _ _ _ h => h) (Or.inl ⟨by rfl, ?_⟩) (by assumption) ?_
        rotate_left 1
        (intro w hSw; (try dsimp only at hSw); go_simp; try with_reducible rfl)
        try simp only [Act.put, List.setIfInBounds_toArray, List.set_cons_zero, List.set_cons_succ]
        refine wpAnyH_ready (rs := [7]) (by kernel_rfl) (by simp) (AllReadyH.cons (op_later (op_later (op_later (op_later (op_later (op_later (op_later (op_here)))))))) (fun K hK => ?_) AllReadyH.nil)
        go_simp
        refine (node_yes t ht.1 ht.2 _).mono ?_
        rintro e w' ⟨rfl, rfl⟩
        refine hK.out _ _ SS.out (fun hHeld => ?_)
        clear hK K
        try simp only [Act.put, List.setIfInBounds_toArray, List.set_cons_zero, List.set_cons_succ]
        refine wpAnyH_take (i := 8) (v := ?_) (op_later (op_later (op_later (op_later (op_later (op_later (op_later (op_later (op_here))))))))) (by kernel_rfl) (by kernel_rfl) (by kernel_rfl) (fun _ _ _ h => h) (Or.inl ⟨by rfl, ?_⟩) (by assumption) ?_
        rotate_left 1
        (intro w hSw; (try dsimp only at hSw); go_simp; try with_reducible rfl)
        try simp only [Act.put, List.setIfInBounds_toArray, List.set_cons_zero, List.set_cons_succ]
        refine wpAnyH_take (i := 9) (v := ?_) (op_later (op_later (op_later (op_later (op_later (op_later (op_later (op_later (op_later (op_here)))))))))) (by kernel_rfl) (by kernel_rfl) (by kernel_rfl) (fun _ _ _ h => h) (Or.inl ⟨by rfl, ?_⟩) (by assumption) ?_
        rotate_left 1
        (intro w hSw; (try dsimp only at hSw); go_simp; try with_reducible rfl)
        try simp only [Act.put, List.setIfInBounds_toArray, List.set_cons_zero, List.set_cons_succ]
        refine wpAnyH_take (i := 10) (v := ?_) (op_later (op_later (op_later (op_later (op_later (op_later (op_later (op_later (op_later (op_later (op_here))))))))))) (by kernel_rfl) (by kernel_rfl) (by kernel_rfl) (fun _ _ _ h => h) (Or.inl ⟨by rfl, ?_⟩) (by assumption) ?_
        rotate_left 1
        (intro w hSw; (try dsimp only at hSw); go_simp; try with_reducible rfl)
        try simp only [Act.put, List.setIfInBounds_toArray, List.set_cons_zero, List.set_cons_succ]
        refine wpAnyH_take (i := 11) (v := ?_) (op_later (op_later (op_later (op_later (op_later (op_later (op_later (op_later (op_later (op_later (op_later (op_here)))))))))))) (by kernel_rfl) (by kernel_rfl) (by kernel_rfl) (fun _ _ _ h => h) (Or.inl ⟨by rfl, ?_⟩) (by assumption) ?_
        rotate_left 1
        (intro w hSw; (try dsimp only at hSw); go_simp; try with_reducible rfl)
        try simp only [Act.put, List.setIfInBounds_toArray, List.set_cons_zero, List.set_cons_succ]
        refine wpAnyH_take (i := 12) (v := ?_) (op_later (op_later (op_later (op_later (op_later (op_later (op_later (op_later (op_later (op_later (op_later (op_later (op_here))))))))))))) (by kernel_rfl) (by kernel_rfl) (by kernel_rfl) (fun _ _ _ h => h) (Or.inl ⟨by rfl, ?_⟩) (by assumption) ?_
        rotate_left 1
        (intro w hSw; (try dsimp only at hSw); go_simp; try with_reducible rfl)
        try simp only [Act.put, List.setIfInBounds_toArray, List.set_cons_zero, List.set_cons_succ]
        refine wpAnyH_take (i := 13) (v := ?_) (op_later (op_later (op_later (op_later (op_later (op_later (op_later (op_later (op_later (op_later (op_later (op_later (op_later (op_here)))))))))))))) (by kernel_rfl) (by kernel_rfl) (by kernel_rfl) (fun _ _ _ h => h) (Or.inl ⟨by rfl, ?_⟩) (by assumption) ?_
        rotate_left 1
        (intro w hSw; (try dsimp only at hSw); go_simp; try with_reducible rfl)
        try simp only [Act.put, List.setIfInBounds_toArray, List.set_cons_zero, List.set_cons_succ]
        refine wpAnyH_take (i := 14) (v := ?_) (op_later (op_later (op_later (op_later (op_later (op_later (op_later (op_later (op_later (op_later (op_later (op_later (op_later (op_later (op_here))))))))))))))) (by kernel_rfl) (by kernel_rfl) (by kernel_rfl) (fun _ _ _ h => h) (Or.inl ⟨by rfl, ?_⟩) (by assumption) ?_
        rotate_left 1
        (intro w hSw; (try dsimp only at hSw); go_simp; try with_reducible rfl)
        try simp only [Act.put, List.setIfInBounds_toArray, List.set_cons_zero, List.set_cons_succ]
        refine wpAnyH_take (i := 15) (v := ?_) (op_later (op_later (op_later (op_later (op_later (op_later (op_later (op_later (op_later (op_later (op_later (op_later (op_later (op_later (op_later (op_here)))))))))))))))) (by kernel_rfl) (by kernel_rfl) (by kernel_rfl) (fun _ _ _ h => h) (Or.inl ⟨by rfl, ?_⟩) (by assumption) ?_
        rotate_left 1
        (intro w hSw; (try dsimp only at hSw); go_simp; try with_reducible rfl)
        try simp only [Act.put, List.setIfInBounds_toArray, List.set_cons_zero, List.set_cons_succ]
        refine wpAnyH_take (i := 16) (v := ?_) (op_later (op_later (op_later (op_later (op_later (op_later (op_later (op_later (op_later (op_later (op_later (op_later (op_later (op_later (op_later (op_later (op_here))))))))))))))))) (by kernel_rfl) (by kernel_rfl) (by kernel_rfl) (fun _ _ _ h => h) (Or.inl ⟨by rfl, ?_⟩) (by assumption) ?_
        rotate_left 1
        (intro w hSw; (try dsimp only at hSw); go_simp; try with_reducible rfl)
        try simp only [Act.put, List.setIfInBounds_toArray, List.set_cons_zero, List.set_cons_succ]
        refine wpAnyH_take (i := 17) (v := undef) (op_later (op_later (op_later (op_later (op_later (op_later (op_later (op_later (op_later (op_later (op_later (op_later (op_later (op_later (op_later (op_later (op_later (op_here)))))))))))))))))) (by kernel_rfl) (by kernel_rfl) (by kernel_rfl) (fun _ _ _ h => h) (Or.inr ⟨by rfl, rfl⟩) (by assumption) ?_
        try simp only [Act.put, List.setIfInBounds_toArray, List.set_cons_zero, List.set_cons_succ]
        refine wpAnyH_take (i := 18) (v := undef) (op_later (op_later (op_later (op_later (op_later (op_later (op_later (op_later (op_later (op_later (op_later (op_later (op_later (op_later (op_later (op_later (op_later (op_later (op_here))))))))))))))))))) (by kernel_rfl) (by kernel_rfl) (by kernel_rfl) (fun _ _ _ h => h) (Or.inr ⟨by rfl, rfl⟩) (by assumption) ?_
        try simp only [Act.put, List.setIfInBounds_toArray, List.set_cons_zero, List.set_cons_succ]
        refine wpAnyH_take (i := 19) (v := undef) (op_later (op_later (op_later (op_later (op_later (op_later (op_later (op_later (op_later (op_later (op_later (op_later (op_later (op_later (op_later (op_later (op_later (op_later (op_later (op_here)))))))))))))))))))) (by kernel_rfl) (by kernel_rfl) (by kernel_rfl) (fun _ _ _ h => h) (Or.inr ⟨by rfl, rfl⟩) (by assumption) ?_
        try simp only [Act.put, List.setIfInBounds_toArray, List.set_cons_zero, List.set_cons_succ]
        refine wpAnyH_take (i := 20) (v := undef) (op_later (op_later (op_later (op_later (op_later (op_later (op_later (op_later (op_later (op_later (op_later (op_later (op_later (op_later (op_later (op_later (op_later (op_later (op_later (op_later (op_here))))))))))))))))))))) (by kernel_rfl) (by kernel_rfl) (by kernel_rfl) (fun _ _ _ h => h) (Or.inr ⟨by rfl, rfl⟩) (by assumption) ?_
        try simp only [Act.put, List.setIfInBounds_toArray, List.set_cons_zero, List.set_cons_succ]
        refine wpAnyH_take (i := 21) (v := undef) (op_later (op_later (op_later (op_later (op_later (op_later (op_later (op_later (op_later (op_later (op_later (op_later (op_later (op_later (op_later (op_later (op_later (op_later (op_later (op_later (op_later (op_here)))))))))))))))))))))) (by kernel_rfl) (by kernel_rfl) (by kernel_rfl) (fun _ _ _ h => h) (Or.inr ⟨by rfl, rfl⟩) (by assumption) ?_
        try simp only [Act.put, List.setIfInBounds_toArray, List.set_cons_zero, List.set_cons_succ]
        refine wpAnyH_take (i := 22) (v := undef) (op_later (op_later (op_later (op_later (op_later (op_later (op_later (op_later (op_later (op_later (op_later (op_later (op_later (op_later (op_later (op_later (op_later (op_later (op_later (op_later (op_later (op_later (op_here))))))))))))))))))))))) (by kernel_rfl) (by kernel_rfl) (by kernel_rfl) (fun _ _ _ h => h) (Or.inr ⟨by rfl, rfl⟩) (by assumption) ?_
        try simp only [Act.put, List.setIfInBounds_toArray, List.set_cons_zero, List.set_cons_succ]
        refine wpAnyH_take (i := 23) (v := undef) (op_later (op_later (op_later (op_later (op_later (op_later (op_later (op_later (op_later (op_later (op_later (op_later (op_later (op_later (op_later (op_later (op_later (op_later (op_later (op_later (op_later (op_later (op_later (op_here)))))))))))))))))))))))) (by kernel_rfl) (by kernel_rfl) (by kernel_rfl) (fun _ _ _ h => h) (Or.inr ⟨by rfl, rfl⟩) (by assumption) ?_
        try simp only [Act.put, List.setIfInBounds_toArray, List.set_cons_zero, List.set_cons_succ]
        refine wpAnyH_take (i := 24) (v := undef) (op_later (op_later (op_later (op_later (op_later (op_later (op_later (op_later (op_later (op_later (op_later (op_later (op_later (op_later (op_later (op_later (op_later (op_later (op_later (op_later (op_later (op_later (op_later (op_later (op_here))))))))))))))))))))))))) (by kernel_rfl) (by kernel_rfl) (by kernel_rfl) (fun _ _ _ h => h) (Or.inr ⟨by rfl, rfl⟩) (by assumption) ?_
        try simp only [Act.put, List.setIfInBounds_toArray, List.set_cons_zero, List.set_cons_succ]
        refine wpAnyH_take (i := 25) (v := undef) (op_later (op_later (op_later (op_later (op_later (op_later (op_later (op_later (op_later (op_later (op_later (op_later (op_later (op_later (op_later (op_later (op_later (op_later (op_later (op_later (op_later (op_later (op_later (op_later (op_later (op_here)))))))))))))))))))))))))) (by kernel_rfl) (by kernel_rfl) (by kernel_rfl) (fun _ _ _ h => h) (Or.inr ⟨by rfl, rfl⟩) (by assumption) ?_
        try simp only [Act.put, List.setIfInBounds_toArray, List.set_cons_zero, List.set_cons_succ]
        refine wpAnyH_take (i := 26) (v := undef) (op_later (op_later (op_later (op_later (op_later (op_later (op_later (op_later (op_later (op_later (op_later (op_later (op_later (op_later (op_later (op_later (op_later (op_later (op_later (op_later (op_later (op_later (op_later (op_later (op_later (op_later (op_here))))))))))))))))))))))))))) (by kernel_rfl) (by kernel_rfl) (by kernel_rfl) (fun _ _ _ h => h) (Or.inr ⟨by rfl, rfl⟩) (by assumption) ?_
        try simp only [Act.put, List.setIfInBounds_toArray, List.set_cons_zero, List.set_cons_succ]
        refine wpAnyH_take (i := 27) (v := ?_) (op_later (op_later (op_later (op_later (op_later (op_later (op_later (op_later (op_later (op_later (op_later (op_later (op_later (op_later (op_later (op_later (op_later (op_later (op_later (op_later (op_later (op_later (op_later (op_later (op_later (op_later (op_later (op_here)))))))))))))))))))))))))))) (by kernel_rfl) (by kernel_rfl) (by kernel_rfl) (fun _ _ _ h => h) (Or.inl ⟨by rfl, ?_⟩) (by assumption) ?_
        rotate_left 1
        (intro w hSw; (try dsimp only at hSw); go_simp; try with_reducible rfl)
        try simp only [Act.put, List.setIfInBounds_toArray, List.set_cons_zero, List.set_cons_succ]
        refine wpAnyH_take (i := 28) (v := ?_) (op_later (op_later (op_later (op_later (op_later (op_later (op_later (op_later (op_later (op_later (op_later (op_later (op_later (op_later (op_later (op_later (op_later (op_later (op_later (op_later (op_later (op_later (op_later (op_later (op_later (op_later (op_later (op_later (op_here))))))))))))))))))))))))))))) (by kernel_rfl) (by kernel_rfl) (by kernel_rfl) (fun _ _ _ h => h) (Or.inl ⟨by rfl, ?_⟩) (by assumption) ?_
        rotate_left 1
        (intro w hSw; (try dsimp only at hSw); go_simp; try with_reducible rfl)
        try simp only [Act.put, List.setIfInBounds_toArray, List.set_cons_zero, List.set_cons_succ]
        refine wpAnyH_take (i := 29) (v := undef) (op_later (op_later (op_later (op_later (op_later (op_later (op_later (op_later (op_later (op_later (op_later (op_later (op_later (op_later (op_later (op_later (op_later (op_later (op_later (op_later (op_later (op_later (op_later (op_later (op_later (op_later (op_later (op_later (op_later (op_here)))))))))))))))))))))))))))))) (by kernel_rfl) (by kernel_rfl) (by kernel_rfl) (fun _ _ _ h => h) (Or.inr ⟨by rfl, rfl⟩) (by assumption) ?_
        try simp only [Act.put, List.setIfInBounds_toArray, List.set_cons_zero, List.set_cons_succ]
        refine wpAnyH_take (i := 30) (v := undef) (op_later (op_later (op_later (op_later (op_later (op_later (op_later (op_later (op_later (op_later (op_later (op_later (op_later (op_later (op_later (op_later (op_later (op_later (op_later (op_later (op_later (op_later (op_later (op_later (op_later (op_later (op_later (op_later (op_later (op_later (op_here))))))))))))))))))))))))))))))) (by kernel_rfl) (by kernel_rfl) (by kernel_rfl) (fun _ _ _ h => h) (Or.inr ⟨by rfl, rfl⟩) (by assumption) ?_
        try simp only [Act.put, List.setIfInBounds_toArray, List.set_cons_zero, List.set_cons_succ]
        refine wpAnyH_take (i := 31) (v := undef) (op_later (op_later (op_later (op_later (op_later (op_later (op_later (op_later (op_later (op_later (op_later (op_later (op_later (op_later (op_later (op_later (op_later (op_later (op_later (op_later (op_later (op_later (op_later (op_later (op_later (op_later (op_later (op_later (op_later (op_later (op_later (op_here)))))))))))))))))))))))))))))))) (by kernel_rfl) (by kernel_rfl) (by kernel_rfl) (fun _ _ _ h => h) (Or.inr ⟨by rfl, rfl⟩) (by assumption) ?_
        try simp only [Act.put, List.setIfInBounds_toArray, List.set_cons_zero, List.set_cons_succ]
        refine wpAnyH_take (i := 32) (v := undef) (op_later (op_later (op_later (op_later (op_later (op_later (op_later (op_later (op_later (op_later (op_later (op_later (op_later (op_later (op_later (op_later (op_later (op_later (op_later (op_later (op_later (op_later (op_later (op_later (op_later (op_later (op_later (op_later (op_later (op_later (op_later (op_later (op_here))))))))))))))))))))))))))))))))) (by kernel_rfl) (by kernel_rfl) (by kernel_rfl) (fun _ _ _ h => h) (Or.inr ⟨by rfl, rfl⟩) (by assumption) ?_
        try simp only [Act.put, List.setIfInBounds_toArray, List.set_cons_zero, List.set_cons_succ]
        refine wpAnyH_take (i := 33) (v := undef) (op_later (op_later (op_later (op_later (op_later (op_later (op_later (op_later (op_later (op_later (op_later (op_later (op_later (op_later (op_later (op_later (op_later (op_later (op_later (op_later (op_later (op_later (op_later (op_later (op_later (op_later (op_later (op_later (op_later (op_later (op_later (op_later (op_later (op_here)))))))))))))))))))))))))))))))))) (by kernel_rfl) (by kernel_rfl) (by kernel_rfl) (fun _ _ _ h => h) (Or.inr ⟨by rfl, rfl⟩) (by assumption) ?_
        try simp only [Act.put, List.setIfInBounds_toArray, List.set_cons_zero, List.set_cons_succ]
        refine wpAnyH_take (i := 34) (v := undef) (op_later (op_later (op_later (op_later (op_later (op_later (op_later (op_later (op_later (op_later (op_later (op_later (op_later (op_later (op_later (op_later (op_later (op_later (op_later (op_later (op_later (op_later (op_later (op_later (op_later (op_later (op_later (op_later (op_later (op_later (op_later (op_later (op_later (op_later (op_here))))))))))))))))))))))))))))))))))) (by kernel_rfl) (by kernel_rfl) (by kernel_rfl) (fun _ _ _ h => h) (Or.inr ⟨by rfl, rfl⟩) (by assumption) ?_
        try simp only [Act.put, List.setIfInBounds_toArray, List.set_cons_zero, List.set_cons_succ]
        refine wpAnyH_take (i := 35) (v := ?_) (op_later (op_later (op_later (op_later (op_later (op_later (op_later (op_later (op_later (op_later (op_later (op_later (op_later (op_later (op_later (op_later (op_later (op_later (op_later (op_later (op_later (op_later (op_later (op_later (op_later (op_later (op_later (op_later (op_later (op_later (op_later (op_later (op_later (op_later (op_later (op_here)))))))))))))))))))))))))))))))))))) (by kernel_rfl) (by kernel_rfl) (by kernel_rfl) (fun _ _ _ h => h) (Or.inl ⟨by rfl, ?_⟩) (by assumption) ?_
        rotate_left 1
        (intro w hSw; (try dsimp only at hSw); go_simp; try with_reducible rfl)
        try simp only [Act.put, List.setIfInBounds_toArray, List.set_cons_zero, List.set_cons_succ]
        refine wpAnyH_done (by kernel_rfl) ?_ _
        go_wp2_with fail
        go_ret
        exact ⟨by simp, .still HI.out HFW.out.drew⟩
    · have HO := Lib.hid (sendOk_no (C := C) (x := x) (t := t) (bs := bs) (fun e => ht e.2.1))
      rw [HO.out, sendL_no HO.out]
      clear HASK
      go_enter Try.func18, Try.ntmps18
      go_wp2_with fail
      clear hW
      refine wp_region_held_drew (S := fun w' => w'.cell? ⟨w.heap.size, 0, none⟩ = some (.int .i64 x) ∧ w'.cell? ⟨w.heap.size, 1, none⟩ = some (.int .i64 t) ∧ w'.cell? ⟨w.heap.size, 2, none⟩ = some (.slice AB bs.length cb) ∧ w'.cell? ⟨b, 0, none⟩ = some (.slice A q.length cap) ∧ w'.cell? ⟨b, 1, none⟩ = some (.map (some m))) (by kernel_rfl) SS.out (fun hHeld => ?_)
      refine wpAnyH_take (i := 0) (v := ?_) (op_here) (by kernel_rfl) (by kernel_rfl) (by kernel_rfl) (fun _ _ _ h => h) (Or.inl ⟨by rfl, ?_⟩) (by assumption) ?_
      rotate_left 1
      (intro w hSw; (try dsimp only at hSw); go_simp; try with_reducible rfl)
      try simp only [Act.put, List.setIfInBounds_toArray, List.set_cons_zero, List.set_cons_succ]
      refine wpAnyH_take (i := 1) (v := ?_) (op_later (op_here)) (by kernel_rfl) (by kernel_rfl) (by kernel_rfl) (fun _ _ _ h => h) (Or.inl ⟨by rfl, ?_⟩) (by assumption) ?_
      rotate_left 1
      (intro w hSw; (try dsimp only at hSw); go_simp; try with_reducible rfl)
      try simp only [Act.put, List.setIfInBounds_toArray, List.set_cons_zero, List.set_cons_succ]
      refine wpAnyH_ready (rs := [2]) (by kernel_rfl) (by simp) (AllReadyH.cons (op_later (op_later (op_here))) (fun K hK => ?_) AllReadyH.nil)
      go_simp
      refine (node_yes x hx.1 hx.2 _).mono ?_
      rintro e w' ⟨rfl, rfl⟩
      refine hK.out _ _ SS.out (fun hHeld => ?_)
      clear hK K
      try simp only [Act.put, List.setIfInBounds_toArray, List.set_cons_zero, List.set_cons_succ]
      refine wpAnyH_take (i := 3) (v := ?_) (op_later (op_later (op_later (op_here)))) (by kernel_rfl) (by kernel_rfl) (by kernel_rfl) (fun _ _ _ h => h) (Or.inl ⟨by rfl, ?_⟩) (by assumption) ?_
      rotate_left 1
      (intro w hSw; (try dsimp only at hSw); go_simp; try with_reducible rfl)
      try simp only [Act.put, List.setIfInBounds_toArray, List.set_cons_zero, List.set_cons_succ]
      refine wpAnyH_take (i := 4) (v := ?_) (op_later (op_later (op_later (op_later (op_here))))) (by kernel_rfl) (by kernel_rfl) (by kernel_rfl) (fun _ _ _ h => h) (Or.inl ⟨by rfl, ?_⟩) (by assumption) ?_
      rotate_left 1
      (intro w hSw; (try dsimp only at hSw); go_simp; try with_reducible rfl)
      try simp only [Act.put, List.setIfInBounds_toArray, List.set_cons_zero, List.set_cons_succ]
      refine wpAnyH_take (i := 5) (v := ?_) (op_later (op_later (op_later (op_later (op_later (op_here)))))) (by kernel_rfl) (by kernel_rfl) (by kernel_rfl) (fun _ _ _ h => h) (Or.inl ⟨by rfl, ?_⟩) (by assumption) ?_
      rotate_left 1
      (intro w hSw; (try dsimp only at hSw); go_simp; try with_reducible rfl)
      try simp only [Act.put, List.setIfInBounds_toArray, List.set_cons_zero, List.set_cons_succ]
      refine wpAnyH_take (i := 6) (v := ?_) (op_later (op_later (op_later (op_later (op_later (op_later (op_here))))))) (by kernel_rfl) (by kernel_rfl) (by kernel_rfl) (fun _ _ _ h => h) (Or.inl ⟨by rfl, ?_⟩) (by assumption) ?_
      rotate_left 1
      (intro w hSw; (try dsimp only at hSw); go_simp; try with_reducible rfl)
      try simp only [Act.put, List.setIfInBounds_toArray, List.set_cons_zero, List.set_cons_succ]
      refine wpAnyH_ready (rs := [7]) (by kernel_rfl) (by simp) (AllReadyH.cons (op_later (op_later (op_later (op_later (op_later (op_later (op_later (op_here)))))))) (fun K hK => ?_) AllReadyH.nil)
      go_simp
      refine (node_no t ht _).mono ?_
      rintro e w' ⟨rfl, rfl⟩
      refine hK.out _ _ SS.out (fun hHeld => ?_)
      clear hK K
      try simp only [Act.put, List.setIfInBounds_toArray, List.set_cons_zero, List.set_cons_succ]
      refine wpAnyH_take (i := 8) (v := ?_) (op_later (op_later (op_later (op_later (op_later (op_later (op_later (op_later (op_here))))))))) (by kernel_rfl) (by kernel_rfl) (by kernel_rfl) (fun _ _ _ h => h) (Or.inl ⟨by rfl, ?_⟩) (by assumption) ?_
      rotate_left 1
      (intro w hSw; (try dsimp only at hSw); go_simp; try with_reducible rfl)
      try simp only [Act.put, List.setIfInBounds_toArray, List.set_cons_zero, List.set_cons_succ]
      refine wpAnyH_take (i := 9) (v := ?_) (op_later (op_later (op_later (op_later (op_later (op_later (op_later (op_later (op_later (op_here)))))))))) (by kernel_rfl) (by kernel_rfl) (by kernel_rfl) (fun _ _ _ h => h) (Or.inl ⟨by rfl, ?_⟩) (by assumption) ?_
      rotate_left 1
      (intro w hSw; (try dsimp only at hSw); go_simp; try with_reducible rfl)
      try simp only [Act.put, List.setIfInBounds_toArray, List.set_cons_zero, List.set_cons_succ]
      refine wpAnyH_take (i := 10) (v := ?_) (op_later (op_later (op_later (op_later (op_later (op_later (op_later (op_later (op_later (op_later (op_here))))))))))) (by kernel_rfl) (by kernel_rfl) (by kernel_rfl) (fun _ _ _ h => h) (Or.inl ⟨by rfl, ?_⟩) (by assumption) ?_
      rotate_left 1
      (intro w hSw; (try dsimp only at hSw); go_simp; try with_reducible rfl)
      try simp only [Act.put, List.setIfInBounds_toArray, List.set_cons_zero, List.set_cons_succ]
      refine wpAnyH_take (i := 11) (v := undef) (op_later (op_later (op_later (op_later (op_later (op_later (op_later (op_later (op_later (op_later (op_later (op_here)))))))))))) (by kernel_rfl) (by kernel_rfl) (by kernel_rfl) (fun _ _ _ h => h) (Or.inr ⟨by rfl, rfl⟩) (by assumption) ?_
      try simp only [Act.put, List.setIfInBounds_toArray, List.set_cons_zero, List.set_cons_succ]
      refine wpAnyH_take (i := 12) (v := undef) (op_later (op_later (op_later (op_later (op_later (op_later (op_later (op_later (op_later (op_later (op_later (op_later (op_here))))))))))))) (by kernel_rfl) (by kernel_rfl) (by kernel_rfl) (fun _ _ _ h => h) (Or.inr ⟨by rfl, rfl⟩) (by assumption) ?_
      try simp only [Act.put, List.setIfInBounds_toArray, List.set_cons_zero, List.set_cons_succ]
      refine wpAnyH_take (i := 13) (v := undef) (op_later (op_later (op_later (op_later (op_later (op_later (op_later (op_later (op_later (op_later (op_later (op_later (op_later (op_here)))))))))))))) (by kernel_rfl) (by kernel_rfl) (by kernel_rfl) (fun _ _ _ h => h) (Or.inr ⟨by rfl, rfl⟩) (by assumption) ?_
      try simp only [Act.put, List.setIfInBounds_toArray, List.set_cons_zero, List.set_cons_succ]
      refine wpAnyH_take (i := 14) (v := undef) (op_later (op_later (op_later (op_later (op_later (op_later (op_later (op_later (op_later (op_later (op_later (op_later (op_later (op_later (op_here))))))))))))))) (by kernel_rfl) (by kernel_rfl) (by kernel_rfl) (fun _ _ _ h => h) (Or.inr ⟨by rfl, rfl⟩) (by assumption) ?_
      try simp only [Act.put, List.setIfInBounds_toArray, List.set_cons_zero, List.set_cons_succ]
      refine wpAnyH_take (i := 15) (v := ?_) (op_later (op_later (op_later (op_later (op_later (op_later (op_later (op_later (op_later (op_later (op_later (op_later (op_later (op_later (op_later (op_here)))))))))))))))) (by kernel_rfl) (by kernel_rfl) (by kernel_rfl) (fun _ _ _ h => h) (Or.inl ⟨by rfl, ?_⟩) (by assumption) ?_
      rotate_left 1
      (intro w hSw; (try dsimp only at hSw); go_simp; try with_reducible rfl)
      try simp only [Act.put, List.setIfInBounds_toArray, List.set_cons_zero, List.set_cons_succ]
      refine wpAnyH_take (i := 16) (v := ?_) (op_later (op_later (op_later (op_later (op_later (op_later (op_later (op_later (op_later (op_later (op_later (op_later (op_later (op_later (op_later (op_later (op_here))))))))))))))))) (by kernel_rfl) (by kernel_rfl) (by kernel_rfl) (fun _ _ _ h => h) (Or.inl ⟨by rfl, ?_⟩) (by assumption) ?_
      rotate_left 1
      (intro w hSw; (try dsimp only at hSw); go_simp; try with_reducible rfl)
      try simp only [Act.put, List.setIfInBounds_toArray, List.set_cons_zero, List.set_cons_succ]
      refine wpAnyH_take (i := 17) (v := undef) (op_later (op_later (op_later (op_later (op_later (op_later (op_later (op_later (op_later (op_later (op_later (op_later (op_later (op_later (op_later (op_later (op_later (op_here)))))))))))))))))) (by kernel_rfl) (by kernel_rfl) (by kernel_rfl) (fun _ _ _ h => h) (Or.inr ⟨by rfl, rfl⟩) (by assumption) ?_
      try simp only [Act.put, List.setIfInBounds_toArray, List.set_cons_zero, List.set_cons_succ]
      refine wpAnyH_take (i := 18) (v := undef) (op_later (op_later (op_later (op_later (op_later (op_later (op_later (op_later (op_later (op_later (op_later (op_later (op_later (op_later (op_later (op_later (op_later (op_later (op_here))))))))))))))))))) (by kernel_rfl) (by kernel_rfl) (by kernel_rfl) (fun _ _ _ h => h) (Or.inr ⟨by rfl, rfl⟩) (by assumption) ?_
      try simp only [Act.put, List.setIfInBounds_toArray, List.set_cons_zero, List.set_cons_succ]
      refine wpAnyH_take (i := 19) (v := undef) (op_later (op_later (op_later (op_later (op_later (op_later (op_later (op_later (op_later (op_later (op_later (op_later (op_later (op_later (op_later (op_later (op_later (op_later (op_later (op_here)))))))))))))))))))) (by kernel_rfl) (by kernel_rfl) (by kernel_rfl) (fun _ _ _ h => h) (Or.inr ⟨by rfl, rfl⟩) (by assumption) ?_
      try simp only [Act.put, List.setIfInBounds_toArray, List.set_cons_zero, List.set_cons_succ]
      refine wpAnyH_take (i := 20) (v := undef) (op_later (op_later (op_later (op_later (op_later (op_later (op_later (op_later (op_later (op_later (op_later (op_later (op_later (op_later (op_later (op_later (op_later (op_later (op_later (op_later (op_here))))))))))))))))))))) (by kernel_rfl) (by kernel_rfl) (by kernel_rfl) (fun _ _ _ h => h) (Or.inr ⟨by rfl, rfl⟩) (by assumption) ?_
      try simp only [Act.put, List.setIfInBounds_toArray, List.set_cons_zero, List.set_cons_succ]
      refine wpAnyH_take (i := 21) (v := undef) (op_later (op_later (op_later (op_later (op_later (op_later (op_later (op_later (op_later (op_later (op_later (op_later (op_later (op_later (op_later (op_later (op_later (op_later (op_later (op_later (op_later (op_here)))))))))))))))))))))) (by kernel_rfl) (by kernel_rfl) (by kernel_rfl) (fun _ _ _ h => h) (Or.inr ⟨by rfl, rfl⟩) (by assumption) ?_
      try simp only [Act.put, List.setIfInBounds_toArray, List.set_cons_zero, List.set_cons_succ]
      refine wpAnyH_take (i := 22) (v := undef) (op_later (op_later (op_later (op_later (op_later (op_later (op_later (op_later (op_later (op_later (op_later (op_later (op_later (op_later (op_later (op_later (op_later (op_later (op_later (op_later (op_later (op_later (op_here))))))))))))))))))))))) (by kernel_rfl) (by kernel_rfl) (by kernel_rfl) (fun _ _ _ h => h) (Or.inr ⟨by rfl, rfl⟩) (by assumption) ?_
      try simp only [Act.put, List.setIfInBounds_toArray, List.set_cons_zero, List.set_cons_succ]
      refine wpAnyH_take (i := 23) (v := undef) (op_later (op_later (op_later (op_later (op_later (op_later (op_later (op_later (op_later (op_later (op_later (op_later (op_later (op_later (op_later (op_later (op_later (op_later (op_later (op_later (op_later (op_later (op_later (op_here)))))))))))))))))))))))) (by kernel_rfl) (by kernel_rfl) (by kernel_rfl) (fun _ _ _ h => h) (Or.inr ⟨by rfl, rfl⟩) (by assumption) ?_
      try simp only [Act.put, List.setIfInBounds_toArray, List.set_cons_zero, List.set_cons_succ]
      refine wpAnyH_take (i := 24) (v := undef) (op_later (op_later (op_later (op_later (op_later (op_later (op_later (op_later (op_later (op_later (op_later (op_later (op_later (op_later (op_later (op_later (op_later (op_later (op_later (op_later (op_later (op_later (op_later (op_later (op_here))))))))))))))))))))))))) (by kernel_rfl) (by kernel_rfl) (by kernel_rfl) (fun _ _ _ h => h) (Or.inr ⟨by rfl, rfl⟩) (by assumption) ?_
      try simp only [Act.put, List.setIfInBounds_toArray, List.set_cons_zero, List.set_cons_succ]
      refine wpAnyH_take (i := 25) (v := undef) (op_later (op_later (op_later (op_later (op_later (op_later (op_later (op_later (op_later (op_later (op_later (op_later (op_later (op_later (op_later (op_later (op_later (op_later (op_later (op_later (op_later (op_later (op_later (op_later (op_later (op_here)))))))))))))))))))))))))) (by kernel_rfl) (by kernel_rfl) (by kernel_rfl) (fun _ _ _ h => h) (Or.inr ⟨by rfl, rfl⟩) (by assumption) ?_
      try simp only [Act.put, List.setIfInBounds_toArray, List.set_cons_zero, List.set_cons_succ]
      refine wpAnyH_take (i := 26) (v := undef) (op_later (op_later (op_later (op_later (op_later (op_later (op_later (op_later (op_later (op_later (op_later (op_later (op_later (op_later (op_later (op_later (op_later (op_later (op_later (op_later (op_later (op_later (op_later (op_later (op_later (op_later (op_here))))))))))))))))))))))))))) (by kernel_rfl) (by kernel_rfl) (by kernel_rfl) (fun _ _ _ h => h) (Or.inr ⟨by rfl, rfl⟩) (by assumption) ?_
      try simp only [Act.put, List.setIfInBounds_toArray, List.set_cons_zero, List.set_cons_succ]
      refine wpAnyH_take (i := 27) (v := ?_) (op_later (op_later (op_later (op_later (op_later (op_later (op_later (op_later (op_later (op_later (op_later (op_later (op_later (op_later (op_later (op_later (op_later (op_later (op_later (op_later (op_later (op_later (op_later (op_later (op_later (op_later (op_later (op_here)))))))))))))))))))))))))))) (by kernel_rfl) (by kernel_rfl) (by kernel_rfl) (fun _ _ _ h => h) (Or.inl ⟨by rfl, ?_⟩) (by assumption) ?_
      rotate_left 1
      (intro w hSw; (try dsimp only at hSw); go_simp; try with_reducible rfl)
      try simp only [Act.put, List.setIfInBounds_toArray, List.set_cons_zero, List.set_cons_succ]
      refine wpAnyH_take (i := 28) (v := ?_) (op_later (op_later (op_later (op_later (op_later (op_later (op_later (op_later (op_later (op_later (op_later (op_later (op_later (op_later (op_later (op_later (op_later (op_later (op_later (op_later (op_later (op_later (op_later (op_later (op_later (op_later (op_later (op_later (op_here))))))))))))))))))))))))))))) (by kernel_rfl) (by kernel_rfl) (by kernel_rfl) (fun _ _ _ h => h) (Or.inl ⟨by rfl, ?_⟩) (by assumption) ?_
      rotate_left 1
      (intro w hSw; (try dsimp only at hSw); go_simp; try with_reducible rfl)
      try simp only [Act.put, List.setIfInBounds_toArray, List.set_cons_zero, List.set_cons_succ]
      refine wpAnyH_take (i := 29) (v := undef) (op_later (op_later (op_later (op_later (op_later (op_later (op_later (op_later (op_later (op_later (op_later (op_later (op_later (op_later (op_later (op_later (op_later (op_later (op_later (op_later (op_later (op_later (op_later (op_later (op_later (op_later (op_later (op_later (op_later (op_here)))))))))))))))))))))))))))))) (by kernel_rfl) (by kernel_rfl) (by kernel_rfl) (fun _ _ _ h => h) (Or.inr ⟨by rfl, rfl⟩) (by assumption) ?_
      try simp only [Act.put, List.setIfInBounds_toArray, List.set_cons_zero, List.set_cons_succ]
      refine wpAnyH_take (i := 30) (v := undef) (op_later (op_later (op_later (op_later (op_later (op_later (op_later (op_later (op_later (op_later (op_later (op_later (op_later (op_later (op_later (op_later (op_later (op_later (op_later (op_later (op_later (op_later (op_later (op_later (op_later (op_later (op_later (op_later (op_later (op_later (op_here))))))))))))))))))))))))))))))) (by kernel_rfl) (by kernel_rfl) (by kernel_rfl) (fun _ _ _ h => h) (Or.inr ⟨by rfl, rfl⟩) (by assumption) ?_
      try simp only [Act.put, List.setIfInBounds_toArray, List.set_cons_zero, List.set_cons_succ]
      refine wpAnyH_take (i := 31) (v := undef) (op_later (op_later (op_later (op_later (op_later (op_later (op_later (op_later (op_later (op_later (op_later (op_later (op_later (op_later (op_later (op_later (op_later (op_later (op_later (op_later (op_later (op_later (op_later (op_later (op_later (op_later (op_later (op_later (op_later (op_later (op_later (op_here)))))))))))))))))))))))))))))))) (by kernel_rfl) (by kernel_rfl) (by kernel_rfl) (fun _ _ _ h => h) (Or.inr ⟨by rfl, rfl⟩) (by assumption) ?_
      try simp only [Act.put, List.setIfInBounds_toArray, List.set_cons_zero, List.set_cons_succ]
      refine wpAnyH_take (i := 32) (v := undef) (op_later (op_later (op_later (op_later (op_later (op_later (op_later (op_later (op_later (op_later (op_later (op_later (op_later (op_later (op_later (op_later (op_later (op_later (op_later (op_later (op_later (op_later (op_later (op_later (op_later (op_later (op_later (op_later (op_later (op_later (op_later (op_later (op_here))))))))))))))))))))))))))))))))) (by kernel_rfl) (by kernel_rfl) (by kernel_rfl) (fun _ _ _ h => h) (Or.inr ⟨by rfl, rfl⟩) (by assumption) ?_
      try simp only [Act.put, List.setIfInBounds_toArray, List.set_cons_zero, List.set_cons_succ]
      refine wpAnyH_take (i := 33) (v := undef) (op_later (op_later (op_later (op_later (op_later (op_later (op_later (op_later (op_later (op_later (op_later (op_later (op_later (op_later (op_later (op_later (op_later (op_later (op_later (op_later (op_later (op_later (op_later (op_later (op_later (op_later (op_later (op_later (op_later (op_later (op_later (op_later (op_later (op_here)))))))))))))))))))))))))))))))))) (by kernel_rfl) (by kernel_rfl) (by kernel_rfl) (fun _ _ _ h => h) (Or.inr ⟨by rfl, rfl⟩) (by assumption) ?_
      try simp only [Act.put, List.setIfInBounds_toArray, List.set_cons_zero, List.set_cons_succ]
      refine wpAnyH_take (i := 34) (v := undef) (op_later (op_later (op_later (op_later (op_later (op_later (op_later (op_later (op_later (op_later (op_later (op_later (op_later (op_later (op_later (op_later (op_later (op_later (op_later (op_later (op_later (op_later (op_later (op_later (op_later (op_later (op_later (op_later (op_later (op_later (op_later (op_later (op_later (op_later (op_here))))))))))))))))))))))))))))))))))) (by kernel_rfl) (by kernel_rfl) (by kernel_rfl) (fun _ _ _ h => h) (Or.inr ⟨by rfl, rfl⟩) (by assumption) ?_
      try simp only [Act.put, List.setIfInBounds_toArray, List.set_cons_zero, List.set_cons_succ]
      refine wpAnyH_take (i := 35) (v := ?_) (op_later (op_later (op_later (op_later (op_later (op_later (op_later (op_later (op_later (op_later (op_later (op_later (op_later (op_later (op_later (op_later (op_later (op_later (op_later (op_later (op_later (op_later (op_later (op_later (op_later (op_later (op_later (op_later (op_later (op_later (op_later (op_later (op_later (op_later (op_later (op_here)))))))))))))))))))))))))))))))))))) (by kernel_rfl) (by kernel_rfl) (by kernel_rfl) (fun _ _ _ h => h) (Or.inl ⟨by rfl, ?_⟩) (by assumption) ?_
      rotate_left 1
      (intro w hSw; (try dsimp only at hSw); go_simp; try with_reducible rfl)
      try simp only [Act.put, List.setIfInBounds_toArray, List.set_cons_zero, List.set_cons_succ]
      refine wpAnyH_done (by kernel_rfl) ?_ _
      go_wp2_with fail
      go_ret
      exact ⟨by simp, .still HI.out HFW.out.drew⟩
  · have HO := Lib.hid (sendOk_no (C := C) (x := x) (t := t) (bs := bs) (fun e => hx e.1))
    rw [HO.out, sendL_no HO.out]
    clear HASK
    go_enter Try.func18, Try.ntmps18
    go_wp2_with fail
    clear hW
    refine wp_region_held_drew (S := fun w' => w'.cell? ⟨w.heap.size, 0, none⟩ = some (.int .i64 x) ∧ w'.cell? ⟨w.heap.size, 1, none⟩ = some (.int .i64 t) ∧ w'.cell? ⟨w.heap.size, 2, none⟩ = some (.slice AB bs.length cb) ∧ w'.cell? ⟨b, 0, none⟩ = some (.slice A q.length cap) ∧ w'.cell? ⟨b, 1, none⟩ = some (.map (some m))) (by kernel_rfl) SS.out (fun hHeld => ?_)
    refine wpAnyH_take (i := 0) (v := ?_) (op_here) (by kernel_rfl) (by kernel_rfl) (by kernel_rfl) (fun _ _ _ h => h) (Or.inl ⟨by rfl, ?_⟩) (by assumption) ?_
    rotate_left 1
    (intro w hSw; (try dsimp only at hSw); go_simp; try with_reducible rfl)
    try simp only [Act.put, List.setIfInBounds_toArray, List.set_cons_zero, List.set_cons_succ]
    refine wpAnyH_take (i := 1) (v := ?_) (op_later (op_here)) (by kernel_rfl) (by kernel_rfl) (by kernel_rfl) (fun _ _ _ h => h) (Or.inl ⟨by rfl, ?_⟩) (by assumption) ?_
    rotate_left 1
    (intro w hSw; (try dsimp only at hSw); go_simp; try with_reducible rfl)
    try simp only [Act.put, List.setIfInBounds_toArray, List.set_cons_zero, List.set_cons_succ]
    refine wpAnyH_ready (rs := [2]) (by kernel_rfl) (by simp) (AllReadyH.cons (op_later (op_later (op_here))) (fun K hK => ?_) AllReadyH.nil)
    go_simp
    refine (node_no x hx _).mono ?_
    rintro e w' ⟨rfl, rfl⟩
    refine hK.out _ _ SS.out (fun hHeld => ?_)
    clear hK K
    try simp only [Act.put, List.setIfInBounds_toArray, List.set_cons_zero, List.set_cons_succ]
    refine wpAnyH_take (i := 3) (v := ?_) (op_later (op_later (op_later (op_here)))) (by kernel_rfl) (by kernel_rfl) (by kernel_rfl) (fun _ _ _ h => h) (Or.inl ⟨by rfl, ?_⟩) (by assumption) ?_
    rotate_left 1
    (intro w hSw; (try dsimp only at hSw); go_simp; try with_reducible rfl)
    try simp only [Act.put, List.setIfInBounds_toArray, List.set_cons_zero, List.set_cons_succ]
    refine wpAnyH_take (i := 4) (v := ?_) (op_later (op_later (op_later (op_later (op_here))))) (by kernel_rfl) (by kernel_rfl) (by kernel_rfl) (fun _ _ _ h => h) (Or.inl ⟨by rfl, ?_⟩) (by assumption) ?_
    rotate_left 1
    (intro w hSw; (try dsimp only at hSw); go_simp; try with_reducible rfl)
    try simp only [Act.put, List.setIfInBounds_toArray, List.set_cons_zero, List.set_cons_succ]
    refine wpAnyH_take (i := 5) (v := undef) (op_later (op_later (op_later (op_later (op_later (op_here)))))) (by kernel_rfl) (by kernel_rfl) (by kernel_rfl) (fun _ _ _ h => h) (Or.inr ⟨by rfl, rfl⟩) (by assumption) ?_
    try simp only [Act.put, List.setIfInBounds_toArray, List.set_cons_zero, List.set_cons_succ]
    refine wpAnyH_take (i := 6) (v := undef) (op_later (op_later (op_later (op_later (op_later (op_later (op_here))))))) (by kernel_rfl) (by kernel_rfl) (by kernel_rfl) (fun _ _ _ h => h) (Or.inr ⟨by rfl, rfl⟩) (by assumption) ?_
    try simp only [Act.put, List.setIfInBounds_toArray, List.set_cons_zero, List.set_cons_succ]
    refine wpAnyH_take (i := 7) (v := undef) (op_later (op_later (op_later (op_later (op_later (op_later (op_later (op_here)))))))) (by kernel_rfl) (by kernel_rfl) (by kernel_rfl) (fun _ _ _ h => h) (Or.inr ⟨by rfl, rfl⟩) (by assumption) ?_
    try simp only [Act.put, List.setIfInBounds_toArray, List.set_cons_zero, List.set_cons_succ]
    refine wpAnyH_take (i := 8) (v := undef) (op_later (op_later (op_later (op_later (op_later (op_later (op_later (op_later (op_here))))))))) (by kernel_rfl) (by kernel_rfl) (by kernel_rfl) (fun _ _ _ h => h) (Or.inr ⟨by rfl, rfl⟩) (by assumption) ?_
    try simp only [Act.put, List.setIfInBounds_toArray, List.set_cons_zero, List.set_cons_succ]
    refine wpAnyH_take (i := 9) (v := ?_) (op_later (op_later (op_later (op_later (op_later (op_later (op_later (op_later (op_later (op_here)))))))))) (by kernel_rfl) (by kernel_rfl) (by kernel_rfl) (fun _ _ _ h => h) (Or.inl ⟨by rfl, ?_⟩) (by assumption) ?_
    rotate_left 1
    (intro w hSw; (try dsimp only at hSw); go_simp; try with_reducible rfl)
    try simp only [Act.put, List.setIfInBounds_toArray, List.set_cons_zero, List.set_cons_succ]
    refine wpAnyH_take (i := 10) (v := ?_) (op_later (op_later (op_later (op_later (op_later (op_later (op_later (op_later (op_later (op_later (op_here))))))))))) (by kernel_rfl) (by kernel_rfl) (by kernel_rfl) (fun _ _ _ h => h) (Or.inl ⟨by rfl, ?_⟩) (by assumption) ?_
    rotate_left 1
    (intro w hSw; (try dsimp only at hSw); go_simp; try with_reducible rfl)
    try simp only [Act.put, List.setIfInBounds_toArray, List.set_cons_zero, List.set_cons_succ]
    refine wpAnyH_take (i := 11) (v := undef) (op_later (op_later (op_later (op_later (op_later (op_later (op_later (op_later (op_later (op_later (op_later (op_here)))))))))))) (by kernel_rfl) (by kernel_rfl) (by kernel_rfl) (fun _ _ _ h => h) (Or.inr ⟨by rfl, rfl⟩) (by assumption) ?_
    try simp only [Act.put, List.setIfInBounds_toArray, List.set_cons_zero, List.set_cons_succ]
    refine wpAnyH_take (i := 12) (v := undef) (op_later (op_later (op_later (op_later (op_later (op_later (op_later (op_later (op_later (op_later (op_later (op_later (op_here))))))))))))) (by kernel_rfl) (by kernel_rfl) (by kernel_rfl) (fun _ _ _ h => h) (Or.inr ⟨by rfl, rfl⟩) (by assumption) ?_
    try simp only [Act.put, List.setIfInBounds_toArray, List.set_cons_zero, List.set_cons_succ]
    refine wpAnyH_take (i := 13) (v := undef) (op_later (op_later (op_later (op_later (op_later (op_later (op_later (op_later (op_later (op_later (op_later (op_later (op_later (op_here)))))))))))))) (by kernel_rfl) (by kernel_rfl) (by kernel_rfl) (fun _ _ _ h => h) (Or.inr ⟨by rfl, rfl⟩) (by assumption) ?_
    try simp only [Act.put, List.setIfInBounds_toArray, List.set_cons_zero, List.set_cons_succ]
    refine wpAnyH_take (i := 14) (v := undef) (op_later (op_later (op_later (op_later (op_later (op_later (op_later (op_later (op_later (op_later (op_later (op_later (op_later (op_later (op_here))))))))))))))) (by kernel_rfl) (by kernel_rfl) (by kernel_rfl) (fun _ _ _ h => h) (Or.inr ⟨by rfl, rfl⟩) (by assumption) ?_
    try simp only [Act.put, List.setIfInBounds_toArray, List.set_cons_zero, List.set_cons_succ]
    refine wpAnyH_take (i := 15) (v := ?_) (op_later (op_later (op_later (op_later (op_later (op_later (op_later (op_later (op_later (op_later (op_later (op_later (op_later (op_later (op_later (op_here)))))))))))))))) (by kernel_rfl) (by kernel_rfl) (by kernel_rfl) (fun _ _ _ h => h) (Or.inl ⟨by rfl, ?_⟩) (by assumption) ?_
    rotate_left 1
    (intro w hSw; (try dsimp only at hSw); go_simp; try with_reducible rfl)
    try simp only [Act.put, List.setIfInBounds_toArray, List.set_cons_zero, List.set_cons_succ]
    refine wpAnyH_take (i := 16) (v := ?_) (op_later (op_later (op_later (op_later (op_later (op_later (op_later (op_later (op_later (op_later (op_later (op_later (op_later (op_later (op_later (op_later (op_here))))))))))))))))) (by kernel_rfl) (by kernel_rfl) (by kernel_rfl) (fun _ _ _ h => h) (Or.inl ⟨by rfl, ?_⟩) (by assumption) ?_
    rotate_left 1
    (intro w hSw; (try dsimp only at hSw); go_simp; try with_reducible rfl)
    try simp only [Act.put, List.setIfInBounds_toArray, List.set_cons_zero, List.set_cons_succ]
    refine wpAnyH_take (i := 17) (v := undef) (op_later (op_later (op_later (op_later (op_later (op_later (op_later (op_later (op_later (op_later (op_later (op_later (op_later (op_later (op_later (op_later (op_later (op_here)))))))))))))))))) (by kernel_rfl) (by kernel_rfl) (by kernel_rfl) (fun _ _ _ h => h) (Or.inr ⟨by rfl, rfl⟩) (by assumption) ?_
    try simp only [Act.put, List.setIfInBounds_toArray, List.set_cons_zero, List.set_cons_succ]
    refine wpAnyH_take (i := 18) (v := undef) (op_later (op_later (op_later (op_later (op_later (op_later (op_later (op_later (op_later (op_later (op_later (op_later (op_later (op_later (op_later (op_later (op_later (op_later (op_here))))))))))))))))))) (by kernel_rfl) (by kernel_rfl) (by kernel_rfl) (fun _ _ _ h => h) (Or.inr ⟨by rfl, rfl⟩) (by assumption) ?_
    try simp only [Act.put, List.setIfInBounds_toArray, List.set_cons_zero, List.set_cons_succ]
    refine wpAnyH_take (i := 19) (v := undef) (op_later (op_later (op_later (op_later (op_later (op_later (op_later (op_later (op_later (op_later (op_later (op_later (op_later (op_later (op_later (op_later (op_later (op_later (op_later (op_here)))))))))))))))))))) (by kernel_rfl) (by kernel_rfl) (by kernel_rfl) (fun _ _ _ h => h) (Or.inr ⟨by rfl, rfl⟩) (by assumption) ?_
    try simp only [Act.put, List.setIfInBounds_toArray, List.set_cons_zero, List.set_cons_succ]
    refine wpAnyH_take (i := 20) (v := undef) (op_later (op_later (op_later (op_later (op_later (op_later (op_later (op_later (op_later (op_later (op_later (op_later (op_later (op_later (op_later (op_later (op_later (op_later (op_later (op_later (op_here))))))))))))))))))))) (by kernel_rfl) (by kernel_rfl) (by kernel_rfl) (fun _ _ _ h => h) (Or.inr ⟨by rfl, rfl⟩) (by assumption) ?_
    try simp only [Act.put, List.setIfInBounds_toArray, List.set_cons_zero, List.set_cons_succ]
    refine wpAnyH_take (i := 21) (v := undef) (op_later (op_later (op_later (op_later (op_later (op_later (op_later (op_later (op_later (op_later (op_later (op_later (op_later (op_later (op_later (op_later (op_later (op_later (op_later (op_later (op_later (op_here)))))))))))))))))))))) (by kernel_rfl) (by kernel_rfl) (by kernel_rfl) (fun _ _ _ h => h) (Or.inr ⟨by rfl, rfl⟩) (by assumption) ?_
    try simp only [Act.put, List.setIfInBounds_toArray, List.set_cons_zero, List.set_cons_succ]
    refine wpAnyH_take (i := 22) (v := undef) (op_later (op_later (op_later (op_later (op_later (op_later (op_later (op_later (op_later (op_later (op_later (op_later (op_later (op_later (op_later (op_later (op_later (op_later (op_later (op_later (op_later (op_later (op_here))))))))))))))))))))))) (by kernel_rfl) (by kernel_rfl) (by kernel_rfl) (fun _ _ _ h => h) (Or.inr ⟨by rfl, rfl⟩) (by assumption) ?_
    try simp only [Act.put, List.setIfInBounds_toArray, List.set_cons_zero, List.set_cons_succ]
    refine wpAnyH_take (i := 23) (v := undef) (op_later (op_later (op_later (op_later (op_later (op_later (op_later (op_later (op_later (op_later (op_later (op_later (op_later (op_later (op_later (op_later (op_later (op_later (op_later (op_later (op_later (op_later (op_later (op_here)))))))))))))))))))))))) (by kernel_rfl) (by kernel_rfl) (by kernel_rfl) (fun _ _ _ h => h) (Or.inr ⟨by rfl, rfl⟩) (by assumption) ?_
    try simp only [Act.put, List.setIfInBounds_toArray, List.set_cons_zero, List.set_cons_succ]
    refine wpAnyH_take (i := 24) (v := undef) (op_later (op_later (op_later (op_later (op_later (op_later (op_later (op_later (op_later (op_later (op_later (op_later (op_later (op_later (op_later (op_later (op_later (op_later (op_later (op_later (op_later (op_later (op_later (op_later (op_here))))))))))))))))))))))))) (by kernel_rfl) (by kernel_rfl) (by kernel_rfl) (fun _ _ _ h => h) (Or.inr ⟨by rfl, rfl⟩) (by assumption) ?_
    try simp only [Act.put, List.setIfInBounds_toArray, List.set_cons_zero, List.set_cons_succ]
    refine wpAnyH_take (i := 25) (v := undef) (op_later (op_later (op_later (op_later (op_later (op_later (op_later (op_later (op_later (op_later (op_later (op_later (op_later (op_later (op_later (op_later (op_later (op_later (op_later (op_later (op_later (op_later (op_later (op_later (op_later (op_here)))))))))))))))))))))))))) (by kernel_rfl) (by kernel_rfl) (by kernel_rfl) (fun _ _ _ h => h) (Or.inr ⟨by rfl, rfl⟩) (by assumption) ?_
    try simp only [Act.put, List.setIfInBounds_toArray, List.set_cons_zero, List.set_cons_succ]
    refine wpAnyH_take (i := 26) (v := undef) (op_later (op_later (op_later (op_later (op_later (op_later (op_later (op_later (op_later (op_later (op_later (op_later (op_later (op_later (op_later (op_later (op_later (op_later (op_later (op_later (op_later (op_later (op_later (op_later (op_later (op_later (op_here))))))))))))))))))))))))))) (by kernel_rfl) (by kernel_rfl) (by kernel_rfl) (fun _ _ _ h => h) (Or.inr ⟨by rfl, rfl⟩) (by assumption) ?_
    try simp only [Act.put, List.setIfInBounds_toArray, List.set_cons_zero, List.set_cons_succ]
    refine wpAnyH_take (i := 27) (v := ?_) (op_later (op_later (op_later (op_later (op_later (op_later (op_later (op_later (op_later (op_later (op_later (op_later (op_later (op_later (op_later (op_later (op_later (op_later (op_later (op_later (op_later (op_later (op_later (op_later (op_later (op_later (op_later (op_here)))))))))))))))))))))))))))) (by kernel_rfl) (by kernel_rfl) (by kernel_rfl) (fun _ _ _ h => h) (Or.inl ⟨by rfl, ?_⟩) (by assumption) ?_
    rotate_left 1
    (intro w hSw; (try dsimp only at hSw); go_simp; try with_reducible rfl)
    try simp only [Act.put, List.setIfInBounds_toArray, List.set_cons_zero, List.set_cons_succ]
    refine wpAnyH_take (i := 28) (v := ?_) (op_later (op_later (op_later (op_later (op_later (op_later (op_later (op_later (op_later (op_later (op_later (op_later (op_later (op_later (op_later (op_later (op_later (op_later (op_later (op_later (op_later (op_later (op_later (op_later (op_later (op_later (op_later (op_later (op_here))))))))))))))))))))))))))))) (by kernel_rfl) (by kernel_rfl) (by kernel_rfl) (fun _ _ _ h => h) (Or.inl ⟨by rfl, ?_⟩) (by assumption) ?_
    rotate_left 1
    (intro w hSw; (try dsimp only at hSw); go_simp; try with_reducible rfl)
    try simp only [Act.put, List.setIfInBounds_toArray, List.set_cons_zero, List.set_cons_succ]
    refine wpAnyH_take (i := 29) (v := undef) (op_later (op_later (op_later (op_later (op_later (op_later (op_later (op_later (op_later (op_later (op_later (op_later (op_later (op_later (op_later (op_later (op_later (op_later (op_later (op_later (op_later (op_later (op_later (op_later (op_later (op_later (op_later (op_later (op_later (op_here)))))))))))))))))))))))))))))) (by kernel_rfl) (by kernel_rfl) (by kernel_rfl) (fun _ _ _ h => h) (Or.inr ⟨by rfl, rfl⟩) (by assumption) ?_
    try simp only [Act.put, List.setIfInBounds_toArray, List.set_cons_zero, List.set_cons_succ]
    refine wpAnyH_take (i := 30) (v := undef) (op_later (op_later (op_later (op_later (op_later (op_later (op_later (op_later (op_later (op_later (op_later (op_later (op_later (op_later (op_later (op_later (op_later (op_later (op_later (op_later (op_later (op_later (op_later (op_later (op_later (op_later (op_later (op_later (op_later (op_later (op_here))))))))))))))))))))))))))))))) (by kernel_rfl) (by kernel_rfl) (by kernel_rfl) (fun _ _ _ h => h) (Or.inr ⟨by rfl, rfl⟩) (by assumption) ?_
    try simp only [Act.put, List.setIfInBounds_toArray, List.set_cons_zero, List.set_cons_succ]
    refine wpAnyH_take (i := 31) (v := undef) (op_later (op_later (op_later (op_later (op_later (op_later (op_later (op_later (op_later (op_later (op_later (op_later (op_later (op_later (op_later (op_later (op_later (op_later (op_later (op_later (op_later (op_later (op_later (op_later (op_later (op_later (op_later (op_later (op_later (op_later (op_later (op_here)))))))))))))))))))))))))))))))) (by kernel_rfl) (by kernel_rfl) (by kernel_rfl) (fun _ _ _ h => h) (Or.inr ⟨by rfl, rfl⟩) (by assumption) ?_
    try simp only [Act.put, List.setIfInBounds_toArray, List.set_cons_zero, List.set_cons_succ]
    refine wpAnyH_take (i := 32) (v := undef) (op_later (op_later (op_later (op_later (op_later (op_later (op_later (op_later (op_later (op_later (op_later (op_later (op_later (op_later (op_later (op_later (op_later (op_later (op_later (op_later (op_later (op_later (op_later (op_later (op_later (op_later (op_later (op_later (op_later (op_later (op_later (op_later (op_here))))))))))))))))))))))))))))))))) (by kernel_rfl) (by kernel_rfl) (by kernel_rfl) (fun _ _ _ h => h) (Or.inr ⟨by rfl, rfl⟩) (by assumption) ?_
    try simp only [Act.put, List.setIfInBounds_toArray, List.set_cons_zero, List.set_cons_succ]
    refine wpAnyH_take (i := 33) (v := undef) (op_later (op_later (op_later (op_later (op_later (op_later (op_later (op_later (op_later (op_later (op_later (op_later (op_later (op_later (op_later (op_later (op_later (op_later (op_later (op_later (op_later (op_later (op_later (op_later (op_later (op_later (op_later (op_later (op_later (op_later (op_later (op_later (op_later (op_here)))))))))))))))))))))))))))))))))) (by kernel_rfl) (by kernel_rfl) (by kernel_rfl) (fun _ _ _ h => h) (Or.inr ⟨by rfl, rfl⟩) (by assumption) ?_
    try simp only [Act.put, List.setIfInBounds_toArray, List.set_cons_zero, List.set_cons_succ]
    refine wpAnyH_take (i := 34) (v := undef) (op_later (op_later (op_later (op_later (op_later (op_later (op_later (op_later (op_later (op_later (op_later (op_later (op_later (op_later (op_later (op_later (op_later (op_later (op_later (op_later (op_later (op_later (op_later (op_later (op_later (op_later (op_later (op_later (op_later (op_later (op_later (op_later (op_later (op_later (op_here))))))))))))))))))))))))))))))))))) (by kernel_rfl) (by kernel_rfl) (by kernel_rfl) (fun _ _ _ h => h) (Or.inr ⟨by rfl, rfl⟩) (by assumption) ?_
    try simp only [Act.put, List.setIfInBounds_toArray, List.set_cons_zero, List.set_cons_succ]
    refine wpAnyH_take (i := 35) (v := ?_) (op_later (op_later (op_later (op_later (op_later (op_later (op_later (op_later (op_later (op_later (op_later (op_later (op_later (op_later (op_later (op_later (op_later (op_later (op_later (op_later (op_later (op_later (op_later (op_later (op_later (op_later (op_later (op_later (op_later (op_later (op_later (op_later (op_later (op_later (op_later (op_here)))))))))))))))))))))))))))))))))))) (by kernel_rfl) (by kernel_rfl) (by kernel_rfl) (fun _ _ _ h => h) (Or.inl ⟨by rfl, ?_⟩) (by assumption) ?_
    rotate_left 1
    (intro w hSw; (try dsimp only at hSw); go_simp; try with_reducible rfl)
    try simp only [Act.put, List.setIfInBounds_toArray, List.set_cons_zero, List.set_cons_succ]
    refine wpAnyH_done (by kernel_rfl) ?_ _
    go_wp2_with fail
    go_ret
    exact ⟨by simp, .still HI.out HFW.out.drew⟩
set_option maxHeartbeats 1000000 in
theorem lenQ_any (w0 w : World) (F : Nat → Prop) (b : Nat) (l : List Ab) (c : Nat) (C : Int → Int → Bool) (h : IsS w0 F b l c C w) : Calls Try.prog 19 #[.pointer (some ⟨b, 0, none⟩)] w fun e w' => e = .returned (.int .i64 (l.length : Int)) ∧ w' = w := by
  obtain ⟨m, v, q, rfl, hq, hm⟩ := h
  rw [List.length_map]
  obtain ⟨A, cap, rfl, hcl, hcm, _⟩ := hq.sl.shape
  have c0 : w.cell? ⟨b, 0, none⟩ = some (.slice A q.length cap) := hq.blk.cell 0
  clear hq hm
  go_enter Try.func19, Try.ntmps19
  go_wp2_with fail
  go_ret
  exact ⟨rfl, rfl⟩
end Go.Proofs.Ytlceembcehokoaa

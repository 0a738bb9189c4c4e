/- What the reader's Int computes. -/
import Derived.Test.YtlceembcehokoaaRead4
namespace Go.Proofs.Ytlceembcehokoaa
open Go.RowKit ReadM

def lv (n : Int) : Value := .int .i64 n
set_option maxRecDepth 100000 in
set_option maxHeartbeats 2000000 in
theorem one_int (W : World) (B g1 g2 g3 : Nat) (bs : List UInt8) (low high : Int) (h1 : Blk W g1 2 #[lv low]) (h2 : Blk W g2 2 #[lv high]) (h3 : Blk W g3 2 #[lv 0]) (hB3 : B ≤ g3) :
    One 95 #[.pointer (some ⟨g1, 0, none⟩), .pointer (some ⟨g2, 0, none⟩), .pointer (some ⟨g3, 0, none⟩)] W B g3 bs ((intRes low high bs).map (·.2)) (fun w' => ∀ x, intRes low high bs = some x → Blk w' g3 2 #[lv x.1]) where
  enter := fun args w => enter_any (P := Try.prog) (f := 95) Try.func95 (by kernel_rfl) rfl args w
  step := fun w g A cap F hg hl => by
    have hg1 : g1 ≠ g := by have := h1.lt; omega
    have hg2 : g2 ≠ g := by have := h2.lt; omega
    have hg3 : g3 ≠ g := by have := h3.lt; omega
    have HB1 := Lib.hid (fresh_blk h1 F)
    have HB2 := Lib.hid (fresh_blk h2 F)
    have HB3 := Lib.hid (fresh_blk h3 F)
    have HL := Lib.hid hl
    clear hl h1 h2 h3
    show Calls _ _ #[_, _, _, _] _ _
    go_enter Try.func95, Try.ntmps95
    go_wp2_with fail
    refine (size_any w B g A cap bs HL.out).mono ?_
    intro e w1 hsz
    cases hd : dec bs with
    | none =>
      unfold SizeWay at hsz
      rw [hd] at hsz
      obtain ⟨rfl, F1⟩ := hsz
      have HR := Lib.hid (show intRes low high bs = none from by rw [intRes, hd])
      clear hd
      have HF1 := Lib.hid F1
      clear F1
      go_wp2_with fail
      refine ⟨rfl, ?_⟩
      rw [HR.out]
      exact ⟨rfl, HF1.out⟩
    | some x =>
      obtain ⟨n, m, rest⟩ := x
      unfold SizeWay at hsz
      rw [hd] at hsz
      obtain ⟨A1, cap1, rfl, hl1, F1⟩ := hsz
      have hn := dec_lt hd
      have HD := Lib.hid hd
      have HL1 := Lib.hid hl1
      have HF1 := Lib.hid F1
      have c1 : w1.cell? ⟨g1, 0, none⟩ = some (.int .i64 low) := (HB1.out.frm F1 hg1).cell 0
      have c2 : w1.cell? ⟨g2, 0, none⟩ = some (.int .i64 high) := (HB2.out.frm F1 hg2).cell 0
      have c3 : w1.cell? ⟨g3, 0, none⟩ = some (.int .i64 0) := (HB3.out.frm F1 hg3).cell 0
      have z3 := (HB3.out.frm F1 hg3).frozen 0
      have HB3' := Lib.hid (HB3.out.frm F1 hg3)
      clear hd hl1 F1
      have HN := Lib.hid hn
      clear hn
      cases m with
      | true =>
        have hpos := dec_pos HD.out
        by_cases g1 : (n : Int) ≤ 9223372036854775808
        · obtain ⟨y, hy⟩ : ∃ y : Int, y = intVal true n := ⟨_, rfl⟩
          have hw : wrap64 (-wrap64 (n : Int)) = y := by
            rw [hy]
            unfold wrap64 intVal
            simp only [if_true]
            omega
          have HOK := Lib.hid (show intOk true n = true from by unfold intOk big; simpa using g1)
          have hy0 : y < 0 := by rw [hy]; show -(n : Int) < 0; omega
          have HY := Lib.hid hy
          clear hy
          by_cases g2 : low ≤ y
          · by_cases g3' : y ≤ high
            · have d3 : decide (y ≤ high) = true := by simpa using g3'
              have HR := Lib.hid (show intRes low high bs = some (y, rest) from by rw [intRes, HD.out, HY.out]; exact if_pos ⟨HOK.out, by rw [← HY.out]; omega, by rw [← HY.out]; omega⟩)
              go_wp2_with fail
              refine (must_yes _).mono ?_
              rintro e w2 ⟨rfl, rfl⟩
              go_wp2_with fail
              go_end0
              have FS : Frm (fun k => k = g ∨ k = g3) w (w2.setCell ⟨g3, 0, none⟩ (.int .i64 y)) := (HF1.out.mono (fun _ _ h => .inl h)).setCell (p := ⟨g3, 0, none⟩) (fun _ => .inr rfl) _
              rw [HR.out]
              refine ⟨rfl, ⟨A1, cap1, HL1.out.box.far (by show g ≠ g3; omega) _, ?_, HL1.out.le, HL1.out.most, HL1.out.hB⟩, ?_, FS⟩
              · exact HL1.out.rd.frm (by have := HL1.out.box.lt; have := HL1.out.hB; omega) ((Frm.refl (fun k => k = g3) w2).setCell (p := ⟨g3, 0, none⟩) (fun _ => rfl) _) (fun p _ hp e => by omega)
              · intro x hx
                cases hx
                exact HB3'.out.set 0 _
            · have d3 : decide (y ≤ high) = false := by simpa using g3'
              have HR := Lib.hid (show intRes low high bs = none from by rw [intRes, HD.out]; exact if_neg (fun h => by have := h.2.2; rw [← HY.out] at this; omega))
              go_wp2_with fail
              refine (must_no _).mono ?_
              rintro e w2 ⟨rfl, rfl⟩
              go_wp2_with fail
              refine ⟨rfl, ?_⟩
              rw [HR.out]
              exact ⟨rfl, HF1.out⟩
          · have d2 : decide (low ≤ y) = false := by simpa using g2
            have G2 := Lib.hid (show y < low by omega)
            clear g2
            have HR := Lib.hid (show intRes low high bs = none from by rw [intRes, HD.out]; exact if_neg (fun h => by have := h.2.1; rw [← HY.out] at this; have := G2.out; omega))
            go_wp2_with fail
            refine (must_no _).mono ?_
            rintro e w2 ⟨rfl, rfl⟩
            go_wp2_with fail
            refine ⟨rfl, ?_⟩
            rw [HR.out]
            exact ⟨rfl, HF1.out⟩
        · have g1' : 9223372036854775808 < (n : Int) := by omega
          have HR := Lib.hid (show intRes low high bs = none from by rw [intRes, HD.out]; exact if_neg (fun h => by have := h.1; unfold intOk big at this; simp at this; omega))
          go_wp2_with fail
          refine (must_no _).mono ?_
          rintro e w2 ⟨rfl, rfl⟩
          go_wp2_with fail
          refine ⟨rfl, ?_⟩
          rw [HR.out]
          exact ⟨rfl, HF1.out⟩
      | false =>
        by_cases g1 : (n : Int) < 9223372036854775808
        · obtain ⟨y, hy⟩ : ∃ y : Int, y = intVal false n := ⟨_, rfl⟩
          have hw : wrap64 (n : Int) = y := by
            rw [hy]
            unfold wrap64 intVal
            simp only [Bool.false_eq_true, if_false]
            omega
          have HOK := Lib.hid (show intOk false n = true from by unfold intOk big; simpa using g1)
          have hy0 : 0 ≤ y := by rw [hy]; show 0 ≤ (n : Int); omega
          have hyn : decide (y < 0) = false := by simp; omega
          have g1' : (n : Int) ≤ 9223372036854775808 := by omega
          clear g1
          have HY := Lib.hid hy
          clear hy
          by_cases g2 : low ≤ y
          · by_cases g3' : y ≤ high
            · have d3 : decide (y ≤ high) = true := by simpa using g3'
              have HR := Lib.hid (show intRes low high bs = some (y, rest) from by rw [intRes, HD.out, HY.out]; exact if_pos ⟨HOK.out, by rw [← HY.out]; omega, by rw [← HY.out]; omega⟩)
              go_wp2_with fail
              refine (must_yes _).mono ?_
              rintro e w2 ⟨rfl, rfl⟩
              go_wp2_with fail
              go_end0
              have FS : Frm (fun k => k = g ∨ k = g3) w (w2.setCell ⟨g3, 0, none⟩ (.int .i64 y)) := (HF1.out.mono (fun _ _ h => .inl h)).setCell (p := ⟨g3, 0, none⟩) (fun _ => .inr rfl) _
              rw [HR.out]
              refine ⟨rfl, ⟨A1, cap1, HL1.out.box.far (by show g ≠ g3; omega) _, ?_, HL1.out.le, HL1.out.most, HL1.out.hB⟩, ?_, FS⟩
              · exact HL1.out.rd.frm (by have := HL1.out.box.lt; have := HL1.out.hB; omega) ((Frm.refl (fun k => k = g3) w2).setCell (p := ⟨g3, 0, none⟩) (fun _ => rfl) _) (fun p _ hp e => by omega)
              · intro x hx
                cases hx
                exact HB3'.out.set 0 _
            · have d3 : decide (y ≤ high) = false := by simpa using g3'
              have HR := Lib.hid (show intRes low high bs = none from by rw [intRes, HD.out]; exact if_neg (fun h => by have := h.2.2; rw [← HY.out] at this; omega))
              go_wp2_with fail
              refine (must_no _).mono ?_
              rintro e w2 ⟨rfl, rfl⟩
              go_wp2_with fail
              refine ⟨rfl, ?_⟩
              rw [HR.out]
              exact ⟨rfl, HF1.out⟩
          · have d2 : decide (low ≤ y) = false := by simpa using g2
            have G2 := Lib.hid (show y < low by omega)
            clear g2
            have HR := Lib.hid (show intRes low high bs = none from by rw [intRes, HD.out]; exact if_neg (fun h => by have := h.2.1; rw [← HY.out] at this; have := G2.out; omega))
            go_wp2_with fail
            refine (must_no _).mono ?_
            rintro e w2 ⟨rfl, rfl⟩
            go_wp2_with fail
            refine ⟨rfl, ?_⟩
            rw [HR.out]
            exact ⟨rfl, HF1.out⟩
        · by_cases g5 : (n : Int) = 9223372036854775808
          · have hw : wrap64 (n : Int) < 0 := by
              unfold wrap64
              omega
            have g1' : (n : Int) ≤ 9223372036854775808 := by omega
            have G5 := Lib.hid g5
            clear g5 g1
            have HR := Lib.hid (show intRes low high bs = none from by rw [intRes, HD.out]; exact if_neg (fun h => by have := h.1; have h5 := G5.out; unfold intOk big at this; simp at this; omega))
            go_wp2_with fail
            refine (must_no _).mono ?_
            rintro e w2 ⟨rfl, rfl⟩
            go_wp2_with fail
            refine ⟨rfl, ?_⟩
            rw [HR.out]
            exact ⟨rfl, HF1.out⟩
          · have g1' : 9223372036854775808 < (n : Int) := by omega
            have HR := Lib.hid (show intRes low high bs = none from by rw [intRes, HD.out]; exact if_neg (fun h => by have := h.1; unfold intOk big at this; simp at this; omega))
            go_wp2_with fail
            refine (must_no _).mono ?_
            rintro e w2 ⟨rfl, rfl⟩
            go_wp2_with fail
            refine ⟨rfl, ?_⟩
            rw [HR.out]
            exact ⟨rfl, HF1.out⟩
end Go.Proofs.Ytlceembcehokoaa

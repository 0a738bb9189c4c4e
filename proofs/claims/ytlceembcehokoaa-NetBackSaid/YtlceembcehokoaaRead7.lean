/- What the reader's Text computes. -/
import Derived.Test.YtlceembcehokoaaRead6
namespace Go.Proofs.Ytlceembcehokoaa
set_option maxRecDepth 100000
open Go.RowKit ReadM
set_option linter.unusedVariables false

theorem wrap_small {n : Nat} (h : n ≤ 140737488355328) : wrap64 (n : Int) = (n : Int) := by unfold wrap64; omega
theorem u64_small {n : Nat} (h : (n : Int) ≤ 9223372036854775807) : IntKind.u64.wrap (n : Int) = (n : Int) := by rw [IntKind.wrap_u64]; omega
/-- a text that came out of a reader, in a box -/
def Boxed (w : World) (L g : Nat) (t : List UInt8) : Prop := ∃ v, Blk w g 26 #[v] ∧ Sl w L 5 1 v t.length (t.map bv)
set_option maxRecDepth 100000 in
set_option maxHeartbeats 2000000 in
theorem one_text (W : World) (B g1 g2 : Nat) (bs : List UInt8) (most : Int) (hmx : most ≤ 9223372036854775807) (hbl : bs.length ≤ 140737488355328) (h1 : Blk W g1 3 #[.int .i64 most]) (h2 : Blk W g2 26 #[.slice none 0 0]) (hB2 : B ≤ g2) (hBW : B ≤ W.heap.size) :
    One 96 #[.pointer (some ⟨g1, 0, none⟩), .pointer (some ⟨g2, 0, none⟩)] W B g2 bs ((textRes most bs).map (·.2)) (fun w' => ∀ x, textRes most bs = some x → Boxed w' W.heap.size g2 x.1) where
  enter := fun args w => enter_any (P := Try.prog) (f := 96) Try.func96 (by kernel_rfl) rfl args w
  step := fun w g A cap F hg hl => by
    have hg1 : g1 ≠ g := by have := h1.lt; omega
    have hg2 : g2 ≠ g := by have := h2.lt; omega
    have HFW := Lib.hid F
    have HB1 := Lib.hid (fresh_blk h1 F)
    have HB2 := Lib.hid (fresh_blk h2 F)
    have HL := Lib.hid hl
    clear hl h1 h2 F
    show Calls _ _ #[_, _, _] _ _
    go_enter Try.func96, Try.ntmps96
    go_wp2_with fail
    refine (size_any w B g A cap bs HL.out).mono ?_
    intro e w1 hsz
    cases hd : dec bs with
    | none =>
      unfold SizeWay at hsz
      rw [hd] at hsz
      obtain ⟨rfl, F1⟩ := hsz
      have HR := Lib.hid (show textRes most bs = none from by rw [textRes, hd])
      clear hd
      have HF1 := Lib.hid F1
      clear F1
      go_wp2_with fail
      refine ⟨rfl, ?_⟩
      rw [HR.out]
      exact ⟨rfl, HF1.out⟩
    | some x =>
      obtain ⟨n, m, rest⟩ := x
      unfold SizeWay at hsz
      rw [hd] at hsz
      obtain ⟨A1, cap1, rfl, hl1, F1⟩ := hsz
      have hrl := dec_len hd
      have HD := Lib.hid hd
      have HL1 := Lib.hid hl1
      have HF1 := Lib.hid F1
      have c1 : w1.cell? ⟨g1, 0, none⟩ = some (.int .i64 most) := (HB1.out.frm F1 hg1).cell 0
      have c0 : w1.cell? ⟨g, 0, none⟩ = some (.slice A1 rest.length cap1) := hl1.box.cell 0
      have HB2' := Lib.hid (HB2.out.frm F1 hg2)
      have hr2 : rest.length ≤ 140737488355328 := by omega
      have hcap1 := hl1.le
      have hcap2 := hl1.most
      unfold maxLen at hcap2
      clear hd hl1 F1
      cases m with
      | true =>
        have HR := Lib.hid (show textRes most bs = none from by rw [textRes, HD.out])
        go_wp2_with fail
        refine (must_no _).mono ?_
        rintro e w2 ⟨rfl, rfl⟩
        go_wp2_with fail
        refine ⟨rfl, ?_⟩
        rw [HR.out]
        exact ⟨rfl, HF1.out⟩
      | false =>
        by_cases q1 : 0 ≤ most
        · obtain ⟨mm, rfl⟩ := Int.eq_ofNat_of_zero_le q1
          have hcv : IntKind.u64.wrap (mm : Int) = (mm : Int) := u64_small hmx
          have hcl : IntKind.u64.wrap (rest.length : Int) = (rest.length : Int) := u64_small (by omega)
          by_cases q2 : n ≤ mm
          · by_cases q3 : n ≤ rest.length
            · have HR := Lib.hid (show textRes (mm : Int) bs = some (rest.take n, rest.drop n) from by rw [textRes, HD.out]; exact if_pos ⟨q1, by omega, q3⟩)
              have d2 : decide (n ≤ mm) = true := by simpa using q2
              have d3 : decide (n ≤ rest.length) = true := by simpa using q3
              have hn63 : (n : Int) ≤ 9223372036854775807 := by omega
              have hn00 : (0 : Int) ≤ (n : Int) := by omega
              go_wp2_with fail
              refine (must_yes _).mono ?_
              rintro e w2 ⟨rfl, rfl⟩
              go_wp2_with fail
              refine (take_yes w2 B g A1 cap1 rest n HL1.out q3).mono ?_
              rintro e w3 ⟨A3, rfl, h3, r3, F3⟩
              have hBw3 : B ≤ w3.heap.size := by have := h3.box.lt; have := h3.hB; omega
              have htl : (rest.take n).length = n := by rw [List.length_take]; omega
              have HC : Calls Try.prog 90 #[.slice A1 n cap1] w3 fun e w' => ∃ v, e = .returned v ∧ Sl w' w3.heap.size 5 1 v (rest.take n).length ((rest.take n).map bv) ∧ Fresh w3 w' := by
                have := clone_any w3 B A1 cap1 (rest.take n) r3 hBw3 (by omega) (by omega) (by unfold maxLen; omega)
                rwa [htl] at this ⊢
              have HCC := Lib.hid HC
              have H3 := Lib.hid h3
              have HF3 := Lib.hid F3
              have HB3 := Lib.hid (HB2'.out.frm F3 hg2)
              clear h3 r3 F3 HC htl c0 c1
              go_wp2_with fail
              refine HCC.out.mono ?_
              rintro e w4 ⟨v, rfl, hs4, F4⟩
              obtain ⟨A4, cap4, rfl, _⟩ := hs4.shape
              have hb4 := HB3.out.frm F4 (fun f => f)
              have k2 : w4.cell? ⟨g2, 0, none⟩ = some (.slice none 0 0) := hb4.cell 0
              have kz := hb4.frozen 0
              have HS4 := Lib.hid hs4
              have HF4 := Lib.hid F4
              have HB4 := Lib.hid hb4
              clear hs4 F4 hb4
              go_wp2_with fail
              go_end0
              have FC : Frm (fun k => k = g ∨ k = g2) w (w4.setCell ⟨g2, 0, none⟩ (.slice A4 n cap4)) :=
                (((HF1.out.trans HF3.out).mono (fun _ _ h => .inl h)).trans' HF4.out (fun _ _ h => h.elim)).setCell (p := ⟨g2, 0, none⟩) (fun _ => .inr rfl) _
              have F4S : Frm (fun k => k = g2) w3 (w4.setCell ⟨g2, 0, none⟩ (.slice A4 n cap4)) := (Fresh.frm (S := fun k => k = g2) HF4.out).setCell (p := ⟨g2, 0, none⟩) (fun _ => rfl) _
              have hsz : W.heap.size ≤ w3.heap.size := Nat.le_trans HFW.out.size (Nat.le_trans HF1.out.size HF3.out.size)
              have htl : (rest.take n).length = n := by rw [List.length_take]; omega
              rw [HR.out]
              refine ⟨rfl, ⟨A3, _, H3.out.frm F4S (by show ¬ (g = g2); omega) (fun k hk e => by omega)⟩, ?_, FC⟩
              intro x hx
              cases hx
              refine ⟨.slice A4 n cap4, HB4.out.set 0 _, ?_⟩
              have hs5 := HS4.out.less hsz
              rw [htl] at hs5
              show Sl _ _ _ _ _ (rest.take n).length _
              rw [htl]
              exact hs5.frm ((Frm.refl (fun k => k = g2) w4).setCell (p := ⟨g2, 0, none⟩) (fun _ => rfl) _) (fun k hk e => hs5.apart HB4.out (by decide) (by rw [hk, e]))
            · have HR := Lib.hid (show textRes (mm : Int) bs = none from by rw [textRes, HD.out]; exact if_neg (fun h => q3 h.2.2))
              have d2 : decide (n ≤ mm) = true := by simpa using q2
              have d3 : decide (n ≤ rest.length) = false := by simpa using q3
              go_wp2_with fail
              refine (must_no _).mono ?_
              rintro e w2 ⟨rfl, rfl⟩
              go_wp2_with fail
              refine ⟨rfl, ?_⟩
              rw [HR.out]
              exact ⟨rfl, HF1.out⟩
          · have HR := Lib.hid (show textRes (mm : Int) bs = none from by rw [textRes, HD.out]; exact if_neg (fun h => q2 (by have := h.2.1; omega)))
            have d2 : decide (n ≤ mm) = false := by simpa using q2
            go_wp2_with fail
            refine (must_no _).mono ?_
            rintro e w2 ⟨rfl, rfl⟩
            go_wp2_with fail
            refine ⟨rfl, ?_⟩
            rw [HR.out]
            exact ⟨rfl, HF1.out⟩
        · have HR := Lib.hid (show textRes most bs = none from by rw [textRes, HD.out]; exact if_neg (fun h => q1 h.1))
          have d1 : decide (0 ≤ most) = false := by simpa using q1
          go_wp2_with fail
          refine (must_no _).mono ?_
          rintro e w2 ⟨rfl, rfl⟩
          go_wp2_with fail
          refine ⟨rfl, ?_⟩
          rw [HR.out]
          exact ⟨rfl, HF1.out⟩

/-- what Text answers -/
def TextPost (w : World) (B gr : Nat) (bs : List UInt8) (res : Option (List UInt8 × List UInt8)) (e : Ending) (w' : World) : Prop :=
  ∃ v t, e = .returned v ∧ t = (match res with | some x => x.1 | none => []) ∧ Sl w' w.heap.size 5 1 v t.length (t.map bv) ∧ RdrAt w' B gr (match res with | some x => x.2 | none => bs) res.isNone ∧ Frm (fun k => k = gr) w w'
set_option maxHeartbeats 1000000 in
theorem readText_any (w : World) (B gr : Nat) (bs : List UInt8) (bad : Bool) (most : Int) (hmx : most ≤ 9223372036854775807) (hbl : bs.length ≤ 140737488355328) (h : RdrAt w B gr bs bad) :
    Calls Try.prog 57 #[.pointer (some ⟨gr, 0, none⟩), .int .i64 most] w fun e w' => TextPost w B gr bs (ifGood bad (textRes most bs)) e w' := by
  have H := Lib.hid h
  have hlt : gr < w.heap.size := by obtain ⟨_, _, hb, _⟩ := h; exact hb.lt
  have hB : B ≤ gr := by obtain ⟨_, _, _, _, _, _, hB⟩ := h; exact hB
  clear h
  have hmf : ∀ (fn : Fn) (first cap : Array Value) (w : World), (Instr.makeFunc fn first cap).run Try.prog w = .ok (.func fn first cap) w := fun _ _ _ _ => rfl
  go_enter Try.func57, Try.ntmps57
  go_wp2_with fail
  have F0 : Fresh w ((w.alloc (.cells #[.int .i64 most] 3)).alloc (.cells #[.slice none 0 0] 26)) := ((Frm.refl _ w).alloc _).alloc _
  have b1 : Blk ((w.alloc (.cells #[.int .i64 most] 3)).alloc (.cells #[.slice none 0 0] 26)) w.heap.size 3 #[.int .i64 most] := (Blk.new w _ _).alloc _
  have b2 : Blk ((w.alloc (.cells #[.int .i64 most] 3)).alloc (.cells #[.slice none 0 0] 26)) (w.heap.size + 1) 26 #[.slice none 0 0] := by
    have := Blk.new (w.alloc (.cells #[.int .i64 most] 3)) 26 #[.slice none 0 0]
    simpa using this
  have hr := H.out.frm F0 (fun f => f) (fun _ _ f => f)
  cases bad with
  | true =>
    refine (read_bad 96 #[.pointer (some ⟨w.heap.size, 0, none⟩), .pointer (some ⟨w.heap.size + 1, 0, none⟩)] _ B gr (w.heap.size + 1) bs (fun _ => True) hr).mono ?_
    intro e w2 h2
    obtain ⟨rfl, h3, F3⟩ := readPost_none h2
    have c2 : w2.cell? ⟨w.heap.size + 1, 0, none⟩ = some (.slice none 0 0) := (b2.frm F3 (show ¬ (w.heap.size + 1 = gr) by omega)).cell 0
    have H3 := Lib.hid h3
    have HF3 := Lib.hid ((Fresh.frm (S := fun k => k = gr) F0).trans F3)
    clear h2 h3 F3 F0 b1 b2 hr
    go_wp2_with fail
    go_ret
    exact ⟨_, [], rfl, rfl, Sl.nil _ _ _ _, H3.out, HF3.out⟩
  | false =>
    have hone := one_text _ B w.heap.size (w.heap.size + 1) bs most hmx hbl b1 b2 (by omega) (by simp; omega)
    refine (read_good 96 #[.pointer (some ⟨w.heap.size, 0, none⟩), .pointer (some ⟨w.heap.size + 1, 0, none⟩)] _ B gr (w.heap.size + 1) bs _ _ hr b2.lt (by omega) (by omega) hone (fun w2 w3 hf hg x hx => by
      obtain ⟨v, hb, hs⟩ := hg x hx
      exact ⟨v, hb.frm hf (show ¬ (w.heap.size + 1 = gr) by omega), hs.frm hf (fun k hk e => by
        have := (hs.lt k hk).1
        simp at this
        omega)⟩)).mono ?_
    intro e w2 h2
    cases hres : textRes most bs with
    | none =>
      rw [hres] at h2
      obtain ⟨rfl, h3, F3⟩ := readPost_none h2
      have c2 : w2.cell? ⟨w.heap.size + 1, 0, none⟩ = some (.slice none 0 0) := (b2.frm F3 (show ¬ (w.heap.size + 1 = gr) by omega)).cell 0
      have H3 := Lib.hid h3
      have HF3 := Lib.hid ((Fresh.frm (S := fun k => k = gr) F0).trans F3)
      have HRES := Lib.hid hres
      clear h2 h3 F3 F0 b1 b2 hr hone hres
      go_wp2_with fail
      go_ret
      rw [HRES.out]
      exact ⟨_, [], rfl, rfl, Sl.nil _ _ _ _, H3.out, HF3.out⟩
    | some x =>
      rw [hres] at h2
      obtain ⟨rfl, h3, hg, F3⟩ := readPost_some h2
      obtain ⟨v, hbv, hsv⟩ := hg x rfl
      obtain ⟨A5, cap5, rfl, _⟩ := hsv.shape
      have c2 : w2.cell? ⟨w.heap.size + 1, 0, none⟩ = some (.slice A5 x.1.length cap5) := hbv.cell 0
      have H3 := Lib.hid h3
      have HS5 := Lib.hid (hsv.less (show w.heap.size ≤ ((w.alloc (.cells #[.int .i64 most] 3)).alloc (.cells #[.slice none 0 0] 26)).heap.size by simp; omega))
      have HF3 := Lib.hid ((Fresh.frm (S := fun k => k = gr) F0).trans' F3 (fun i hi h => by omega))
      have HRES := Lib.hid hres
      clear h2 h3 F3 F0 b1 b2 hr hone hres hg hbv hsv
      go_wp2_with fail
      go_ret
      rw [HRES.out]
      exact ⟨_, x.1, rfl, rfl, HS5.out, H3.out, HF3.out⟩
end Go.Proofs.Ytlceembcehokoaa

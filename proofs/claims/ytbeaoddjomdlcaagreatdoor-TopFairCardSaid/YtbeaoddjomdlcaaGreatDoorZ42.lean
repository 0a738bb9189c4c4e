/- Proved here, for the statement TopFairCardSaid: laws that its walk leans on. It holds with no condition. (Put together and shortened by a program out of many texts: To58.) -/
import Derived.Test.YtbeaoddjomdlcaaGreatDoorZ41
import Derived.Deep.CutRange
set_option linter.unusedVariables false
set_option linter.unusedSimpArgs false
set_option maxRecDepth 100000
set_option maxHeartbeats 64000000
namespace Go.Proofs.YtbeaoddjomdlcaaGreatDoor
section
open Go.RowKit
def BoolSame (w : World) (e : Ending) (w' : World) : Prop := ∃ β : Bool, e = .returned (.bool β) ∧ w' = w
theorem refHas_big (w : World) (A : Option Addr) (cap : Nat) (zs : List Int) (n : Int) (hA : Rd w w.heap.size A (ivs zs)) (hl : zs.length ≤ 1000000) :
    Calls Tryz.prog 123 #[.slice A zs.length cap, .int .i64 n] w fun e w' => BoolSame w e w' := by
  have HA := zh hA
  clear hA
  go_in
  go_wp2_with fail
  go_loop [5] (fun v5 => ∃ (i : Nat), i ≤ zs.length ∧ v5 = .int .i64 (i : Int)) (fun v5 => zs.length - (RowKit.intOf v5).toNat)
  case atStart => exact ⟨0, by omega, rfl⟩
  case round =>
    obtain ⟨i, hi, rfl⟩ := hrel
    have hi0 : (0 : Int) ≤ (i : Int) := by omega
    by_cases hlt : i < zs.length
    · have hlti : (i : Int) < (zs.length : Int) := by omega
      obtain ⟨b, o, rfl, _, hc⟩ := HA.out.at_ (k := i) (by simpa using hlt)
      rw [List.getElem_map] at hc
      generalize zs[i] = x at hc
      by_cases hx : x = n
      · subst hx
        go_wp2_with fail
        exact bodyPost_ret (v := .bool true) (by simp [results, Tryz.results123, go_sem]) rfl ⟨true, rfl, rfl⟩
      · go_wp2_with fail
        go_round
        case rel => exact ⟨i + 1, by omega, by go_num⟩
        case measure => simp [RowKit.intOf]; omega
    · have hlti : ¬ (i : Int) < (zs.length : Int) := by omega
      go_wp2_with fail
      exact bodyPost_ret (v := .bool false) (by simp [results, Tryz.results123, go_sem]) rfl ⟨false, rfl, rfl⟩
theorem may15_any (w : World) (B f : Nat) (hB : B ≤ w.heap.size) (m : FlM) (h : FlAt w B f m) (ok : DocFl m) :
    Calls Tryz.prog 80 #[.pointer (some ⟨f, 0, none⟩)] w fun e w' => BoolPost w e w' := by
  obtain ⟨i0, hi, hz0, hz1, hz2⟩ := info_parts info_int
  have HOK := zh ok
  have HFA := zh h
  have HSO : Hid (∀ w', Fresh w w' → (∀ x ∈ m.hs, x.cl < (m.lims.length : Int)) → Calls Tryz.prog 125 #[.pointer (some ⟨f, 0, none⟩)] w' fun e w'' => OwnL w' (soldF m.lims.length m.hs) e w'') := zh fun w' F hc =>
    sold15_any w' B f m (h.fresh F) (by have := ok.hs; omega) ok.lims (fun x hx => by have := (ok.h x hx).2.2.1; omega) (fun x hx => ⟨(ok.h x hx).2.1.1, hc x hx⟩)
  obtain ⟨num, rows, GA, gc, gs, LA, lc, lims, HA, hc, hs⟩ := m
  dsimp only at HSO
  have HY : Hid (∀ w', Fresh w w' → w'.cell? ⟨f, 0, none⟩ = some (.int .i64 num) ∧ w'.cell? ⟨f, 1, none⟩ = some (.int .i64 rows) ∧ w'.cell? ⟨f, 2, none⟩ = some (.slice GA gs.length gc) ∧ w'.cell? ⟨f, 3, none⟩ = some (.slice LA lims.length lc) ∧ w'.cell? ⟨f, 4, none⟩ = some (.slice HA hs.length hc)) := zh fun w' F => by
    have hb := (h.fresh F).blk
    exact ⟨hb.cell 0, hb.cell 1, hb.cell 2, hb.cell 3, hb.cell 4⟩
  have HRG : Hid (∀ w', Fresh w w' → Rd w' w'.heap.size GA (ivs gs)) := zh fun w' F => (h.fresh F).gsl.rd
  have HRL : Hid (∀ w', Fresh w w' → Rd w' w'.heap.size LA (ivs lims)) := zh fun w' F => (h.fresh F).lsl.rd
  have HRH : Hid (∀ w', Fresh w w' → Rd w' w'.heap.size HA (hs.flatMap hcel)) := zh fun w' F => (h.fresh F).hsl.rd
  have HRS : Hid (∀ w', Fresh w w' → ∀ x ∈ hs, Rd w' w'.heap.size x.A (ivs x.st)) := zh fun w' F x hx => ((h.fresh F).ssl x hx).rd
  have HCO : Hid (∀ w', Fresh w w' → Calls Tryz.prog 122 #[.agg #[.int .i64 rows, .slice GA gs.length gc]] w' fun e w'' => e = .returned (.int .i64 (countL rows gs)) ∧ Fresh w' w'') := zh fun w' F => countL_any w' rows GA gc gs (HRG.out w' F) ok.gs
  have HHB : Hid ((∀ x ∈ hs, (0 ≤ x.ow ∧ x.ow ≤ 28629151) ∧ (0 ≤ x.cl ∧ x.cl ≤ 8) ∧ (0 ≤ x.mn ∧ x.mn ≤ 600) ∧ x.st.length ≤ 600) ∧ hs.length ≤ 600 ∧ lims.length ≤ 8) := zh ⟨ok.h, ok.hs, ok.lims⟩
  have HR1 := zh (rightL_any w rows GA gc gs (HRG.out w (Frm.refl _ _)) ok.gs)
  obtain ⟨y0, y1, y2, y3, y4⟩ := HY.out w (Frm.refl _ _)
  clear h ok HFA
  go_in
  go_wp2_with fail
  refine HR1.out.mono ?_
  rintro e W1 ⟨rfl, f1⟩
  have HF1 := zh f1
  obtain ⟨b1, hb1⟩ : ∃ b1, rightL rows gs = b1 := ⟨_, rfl⟩
  rw [hb1]
  have HLM := zh (refLimits_any W1 LA lc lims (HRL.out W1 f1))
  clear y0 y1 y2 y3 y4 f1 HR1 hb1
  obtain ⟨y0, y1, y2, y3, y4⟩ := HY.out W1 HF1.out
  go_wp2_with fail
  refine HLM.out.mono ?_
  rintro e W2 ⟨b2, n2, rfl, hW2, hb2⟩
  have HF2 : Hid (Fresh w W2) := zh (by rw [hW2]; exact Frm.drewN HF1.out n2)
  have HB2 := zh hb2
  clear hW2 hb2 HLM y0 y1 y2 y3 y4
  obtain ⟨y0, y1, y2, y3, y4⟩ := HY.out W2 HF2.out
  go_upto_region 3 with fail
  go_cut [46] from 10 (fun v46 wx => ∃ β, v46 = .bool β ∧ Fresh w wx)
  case first =>
    by_cases c1 : num < 1
    · have d1 : decide (num < 1) = true := decide_eq_true c1
      go_quiet (fail)
      try go_wp2_with fail
      go_meet
      exact ⟨true, rfl, Frm.drewN HF2.out _⟩
    have d1 : decide (num < 1) = false := decide_eq_false c1
    cases b1 with
    | false =>
      go_quiet (fail)
      try go_wp2_with fail
      go_meet
      exact ⟨true, rfl, Frm.drewN HF2.out _⟩
    | true =>
      cases b2 with
      | false =>
        go_quiet (fail)
        try go_wp2_with fail
        go_meet
        exact ⟨true, rfl, Frm.drewN HF2.out _⟩
      | true =>
        have hl1 := (HB2.out.1 rfl).1
        obtain ⟨lb, lo, rfl, _, hx0⟩ := (HRL.out W2 HF2.out).at_ (k := 0) (by unfold ivs; rw [List.length_map]; omega)
        unfold ivs at hx0
        rw [List.getElem_map] at hx0
        obtain ⟨x0, hx0'⟩ : ∃ x0, lims[0] = x0 := ⟨_, rfl⟩
        rw [hx0'] at hx0
        have HS3 : Hid (∀ w', Fresh w w' → (w'.cell? ⟨f, 0, none⟩ = some (.int .i64 num) ∧ w'.cell? ⟨f, 1, none⟩ = some (.int .i64 rows) ∧ w'.cell? ⟨f, 2, none⟩ = some (.slice GA gs.length gc) ∧ w'.cell? ⟨f, 3, none⟩ = some (.slice (some ⟨lb, lo, none⟩) lims.length lc)) ∧ w'.cell? ⟨lb, lo, none⟩ = some (.int .i64 x0)) := zh fun w' F => by
          obtain ⟨k0, k1, k2, k3, _⟩ := HY.out w' F
          obtain ⟨lb2, lo2, e2, _, k5⟩ := (HRL.out w' F).at_ (k := 0) (by unfold ivs; rw [List.length_map]; omega)
          injection e2 with e2
          injection e2 with e3 e4 _
          subst e3 e4
          unfold ivs at k5
          rw [List.getElem_map, hx0'] at k5
          exact ⟨⟨k0, k1, k2, k3⟩, by rw [Nat.add_zero] at k5; exact k5⟩
        obtain ⟨cn, hcn⟩ : ∃ cn, countL rows gs = cn := ⟨_, rfl⟩
        rw [hcn] at HCO
        have hl1i : (0 : Int) < (lims.length : Int) := by omega
        have hl1n : 0 < lims.length := by omega
        clear hx0' hx0 hcn y0 y1 y2 y3 y4 hl1
        rcases Bool.eq_false_or_eq_true (x0 != cn) with hq | hq
        all_goals
          refine wp_region_held_drew (S := fun w' => (w'.cell? ⟨f, 0, none⟩ = some (.int .i64 num) ∧ w'.cell? ⟨f, 1, none⟩ = some (.int .i64 rows) ∧ w'.cell? ⟨f, 2, none⟩ = some (.slice GA gs.length gc) ∧ w'.cell? ⟨f, 3, none⟩ = some (.slice (some ⟨lb, lo, none⟩) lims.length lc)) ∧ w'.cell? ⟨lb, lo, none⟩ = some (.int .i64 x0)) (by kernel_rfl) (HS3.out _ HF2.out.drew) (fun hHeld => ?_)
          iterate 24 ((first | refine ztn (v := ?_) (zo rfl) ?_ | refine ztz (v := ?_) (zo rfl) ?_); try simp only [Act.put, zT, zZ, zS])
          refine zr1 24 (zo rfl) (fun K hK => ?_)
          go_simp
          refine (HCO.out W2.drew HF2.out.drew).mono ?_
          rintro e w4 ⟨rfl, f4⟩
          have HF4 : Hid (Fresh w w4) := zh (HF2.out.drew.trans f4)
          clear f4
          refine hK.out _ _ (HS3.out _ HF4.out) (fun hHeld => ?_)
          clear hK K
          try simp only [Act.put, zT, zZ, zS]
          iterate 2 (refine ztn (v := ?_) (zo rfl) ?_; try simp only [Act.put, zT, zZ, zS])
          refine wpAnyH_done (by kernel_rfl) ?_ _
          try go_wp2_with fail
          go_meet
          exact ⟨_, rfl, HF4.out⟩
  case rest =>
    obtain ⟨β, rfl, hf3⟩ := hcut
    have HF3 := zh hf3
    clear hf3 y0 y1 y2 y3 y4 HF2 HF1 HB2
    cases β with
    | true =>
      go_wp2_with fail
      go_ret
      exact ⟨false, rfl, HF3.out⟩
    | false =>
      go_wp2_with fail
      go_loopw [5, 6] (fun v5 v6 wr => ∃ (i : Nat) (told : List Int), i ≤ hs.length ∧ v6 = .int .i64 (i : Int) ∧ Sl wr w.heap.size 3 1 v5 told.length (ivs told) ∧ Fresh w wr ∧ told.length ≤ 600 * i ∧ ∀ x ∈ hs.take i, x.cl < (lims.length : Int)) (fun _ v6 _ => hs.length - (RowKit.intOf v6).toNat)
      case atStart => exact ⟨0, [], by omega, rfl, Sl.nil _ _ _ _, HF3.out, by simp, by simp⟩
      case round =>
        obtain ⟨i, told, hil, rfl, hsl, hf, htl, hcl⟩ := hrel
        have HF := zh hf
        have HSL := zh hsl
        have HTL : Hid (told.length ≤ 600 * i ∧ i ≤ hs.length) := zh ⟨htl, hil⟩
        have HCL := zh hcl
        have hhl := HHB.out.2.1
        have hi0 : (0 : Int) ≤ (i : Int) := by omega
        obtain ⟨AT, ct, rfl, _⟩ := hsl.shape
        obtain ⟨y0, y1, y2, y3, y4⟩ := HY.out wr hf
        clear hsl hf htl hcl
        by_cases hlt : i < hs.length
        · have hlti : (i : Int) < (hs.length : Int) := by omega
          obtain ⟨hb, ho, rfl, _, k0, k1, k2, k3⟩ := hold_at (HRH.out wr HF.out) hlt
          have HXB := zh (HHB.out.1 _ (List.getElem_mem hlt))
          have HXS := zh (fun w' F => HRS.out w' F _ (List.getElem_mem hlt))
          have HCN : Hid (hs[i].cl < (lims.length : Int) → ∀ x ∈ hs.take (i + 1), x.cl < (lims.length : Int)) := zh (fun hc x hx => by
            rw [List.take_succ_eq_append_getElem hlt] at hx
            rcases List.mem_append.1 hx with hx | hx
            · exact HCL.out x hx
            · rw [List.mem_singleton] at hx; rw [hx]; exact hc)
          generalize hs[i] = x at k0 k1 k2 k3 HXB HXS HCN
          obtain ⟨ow, cl, mn, SA, sc, st⟩ := x
          dsimp only at k0 k1 k2 k3 HXB HXS HCN
          obtain ⟨V, hV⟩ : ∃ V, wr.alloc (.cells #[.int .i64 ow, .int .i64 cl, .int .i64 mn, .slice SA st.length sc] 139) = V := ⟨_, rfl⟩
          have HFV : Hid (Fresh wr V) := zh (by rw [← hV]; exact (Frm.refl _ _).alloc _)
          have HBX : Hid (Blk V wr.heap.size 139 #[.int .i64 ow, .int .i64 cl, .int .i64 mn, .slice SA st.length sc]) := zh (by rw [← hV]; exact Blk.new _ _ _)
          obtain ⟨n7, hn7⟩ : ∃ n7, wr.heap.size = n7 := ⟨_, rfl⟩
          rw [hn7] at HBX
          go_upto_region 10 with fail
          first | rw [hV, hn7] | rw [hn7] | skip
          clear hV hn7 k0 k1 k2 k3 y0 y1 y2 y3 y4
          obtain ⟨y0, y1, y2, y3, y4⟩ := HY.out V (HF.out.trans HFV.out)
          have x0' : V.cell? ⟨n7, 0, none⟩ = some (.int .i64 ow) := HBX.out.cell 0
          have x1' : V.cell? ⟨n7, 1, none⟩ = some (.int .i64 cl) := HBX.out.cell 1
          have x2' : V.cell? ⟨n7, 2, none⟩ = some (.int .i64 mn) := HBX.out.cell 2
          have x3' : V.cell? ⟨n7, 3, none⟩ = some (.slice SA st.length sc) := HBX.out.cell 3
          go_cut [106] from 63 to 106 (fun v106 wx => ∃ β, v106 = .bool β ∧ (β = false → cl < (lims.length : Int)) ∧ Fresh V wx)
          case first =>
            by_cases c1 : ow < 1
            · have d1 : decide (ow < 1) = true := decide_eq_true c1
              go_quiet (fail)
              try go_wp2_with fail
              go_meet
              exact ⟨true, rfl, (fun h => by cases h), Frm.drewN (Frm.refl _ _) _⟩
            have d1 : decide (ow < 1) = false := decide_eq_false c1
            rcases Nat.eq_zero_or_pos i with rfl | hip
            · have d2 : decide ((0 : Int) < ((0 : Nat) : Int)) = false := rfl
              by_cases c4 : (lims.length : Int) ≤ cl
              · have d4 : decide ((lims.length : Int) ≤ cl) = true := decide_eq_true c4
                go_quiet (fail)
                try go_wp2_with fail
                go_meet
                exact ⟨true, rfl, (fun h => by cases h), Frm.drewN (Frm.refl _ _) _⟩
              have d4 : decide ((lims.length : Int) ≤ cl) = false := decide_eq_false c4
              by_cases c5 : mn < 1
              · have d5 : decide (mn < 1) = true := decide_eq_true c5
                go_quiet (fail)
                try go_wp2_with fail
                go_meet
                exact ⟨true, rfl, (fun h => by cases h), Frm.drewN (Frm.refl _ _) _⟩
              have d5 : decide (mn < 1) = false := decide_eq_false c5
              by_cases c6 : mn < (st.length : Int)
              · have d6 : decide (mn < (st.length : Int)) = true := decide_eq_true c6
                go_quiet (fail)
                try go_wp2_with fail
                go_meet
                exact ⟨true, rfl, (fun h => by cases h), Frm.drewN (Frm.refl _ _) _⟩
              have d6 : decide (mn < (st.length : Int)) = false := decide_eq_false c6
              go_quiet (fail)
              try go_wp2_with fail
              go_meet
              exact ⟨false, rfl, (fun _ => by omega), Frm.drewN (Frm.refl _ _) _⟩
            obtain ⟨j, rfl⟩ : ∃ j, i = j + 1 := ⟨i - 1, by omega⟩
            have hjl : j < hs.length := by omega
            have hjl2 : (j : Int) < (hs.length : Int) := by omega
            obtain ⟨b2, o2, e2, _, p0, _⟩ := hold_at (HRH.out V (HF.out.trans HFV.out)) hjl
            injection e2 with e2
            injection e2 with e3 e4 _
            subst e3 e4
            generalize hs[j].ow = pv at p0
            by_cases c3 : ow ≤ pv
            · have d3 : decide (ow ≤ pv) = true := decide_eq_true c3
              go_quiet (fail)
              try go_wp2_with fail
              go_meet
              exact ⟨true, rfl, (fun h => by cases h), Frm.drewN (Frm.refl _ _) _⟩
            have d3 : decide (ow ≤ pv) = false := decide_eq_false c3
            by_cases c4 : (lims.length : Int) ≤ cl
            · have d4 : decide ((lims.length : Int) ≤ cl) = true := decide_eq_true c4
              go_quiet (fail)
              try go_wp2_with fail
              go_meet
              exact ⟨true, rfl, (fun h => by cases h), Frm.drewN (Frm.refl _ _) _⟩
            have d4 : decide ((lims.length : Int) ≤ cl) = false := decide_eq_false c4
            by_cases c5 : mn < 1
            · have d5 : decide (mn < 1) = true := decide_eq_true c5
              go_quiet (fail)
              try go_wp2_with fail
              go_meet
              exact ⟨true, rfl, (fun h => by cases h), Frm.drewN (Frm.refl _ _) _⟩
            have d5 : decide (mn < 1) = false := decide_eq_false c5
            by_cases c6 : mn < (st.length : Int)
            · have d6 : decide (mn < (st.length : Int)) = true := decide_eq_true c6
              go_quiet (fail)
              try go_wp2_with fail
              go_meet
              exact ⟨true, rfl, (fun h => by cases h), Frm.drewN (Frm.refl _ _) _⟩
            have d6 : decide (mn < (st.length : Int)) = false := decide_eq_false c6
            go_quiet (fail)
            try go_wp2_with fail
            go_meet
            exact ⟨false, rfl, (fun _ => by omega), Frm.drewN (Frm.refl _ _) _⟩
          case rest =>
            obtain ⟨β, rfl, hβ, fc⟩ := hcut
            have HBE := zh hβ
            have HFC : Hid (Fresh w wc) := zh ((HF.out.trans HFV.out).trans fc)
            have HBXC := zh (HBX.out.frm fc (fun f => f))
            have HSLC := zh ((HSL.out.fresh HFV.out).fresh fc)
            clear hβ fc y0 y1 y2 y3 y4 x0' x1' x2' x3' HBX HFV HSL HF
            cases β with
            | true =>
              go_wp2_with fail
              go_ret
              exact ⟨false, rfl, HFC.out⟩
            | false =>
              have HCX := zh (HCN.out (HBE.out rfl))
              clear HBE HCN
              go_wp2_with fail
              go_loopw [5, 8] (fun v5 v8 wr => ∃ (k : Nat) (told2 : List Int), k ≤ st.length ∧ v8 = .int .i64 (k : Int) ∧ Sl wr w.heap.size 3 1 v5 told2.length (ivs told2) ∧ Fresh w wr ∧ Blk wr n7 139 #[.int .i64 ow, .int .i64 cl, .int .i64 mn, .slice SA st.length sc] ∧ told2.length ≤ 600 * i + k) (fun _ v8 _ => st.length - (RowKit.intOf v8).toNat)
              case atStart => exact ⟨0, told, by omega, rfl, HSLC.out, HFC.out, HBXC.out, HTL.out.1⟩
              case round =>
                obtain ⟨k, told2, hk, rfl, hsl2, hf2, hbx2, htl2⟩ := hrel
                have HF2 := zh hf2
                have HSL2 := zh hsl2
                have HBX2 := zh hbx2
                have HTL2 : Hid (told2.length ≤ 600 * i + k ∧ k ≤ st.length ∧ st.length ≤ 600 ∧ i ≤ 600) := zh ⟨htl2, hk, HXB.out.2.2.2, by have := HTL.out.2; omega⟩
                have hkl := HXB.out.2.2.2
                have hk0 : (0 : Int) ≤ (k : Int) := by omega
                obtain ⟨AT2, ct2, rfl, _⟩ := hsl2.shape
                have x3' : wr.cell? ⟨n7, 3, none⟩ = some (.slice SA st.length sc) := hbx2.cell 3
                clear hsl2 hf2 hbx2 htl2
                by_cases hlk : k < st.length
                · have hlki : (k : Int) < (st.length : Int) := by omega
                  obtain ⟨sb, so, rfl, _, z0⟩ := (HXS.out wr HF2.out).at_ (k := k) (by unfold ivs; rw [List.length_map]; exact hlk)
                  unfold ivs at z0
                  rw [List.getElem_map] at z0
                  obtain ⟨z, hz⟩ : ∃ z, st[k] = z := ⟨_, rfl⟩
                  rw [hz] at z0
                  have HZ : Hid (∀ w', Fresh wr w' → ∀ j, (hj : j < st.length) → w'.cell? ⟨sb, so + j, none⟩ = some (.int .i64 st[j])) := zh fun w' F j hj => by
                    obtain ⟨sb2, so2, e2, _, q⟩ := (HXS.out w' (HF2.out.trans F)).at_ (k := j) (by unfold ivs; rw [List.length_map]; exact hj)
                    injection e2 with e2
                    injection e2 with e3 e4 _
                    subst e3 e4
                    unfold ivs at q
                    rw [List.getElem_map] at q
                    exact q
                  have HHAS := zh (refHas_big wr AT2 ct2 told2 z HSL2.out.rd (by have := HTL2.out; omega))
                  go_wp2_with fail
                  refine HHAS.out.mono ?_
                  rintro e w5 ⟨β, rfl, hw5⟩
                  replace hw5 := hw5.symm
                  subst hw5
                  obtain ⟨y0, y1, y2, y3, y4⟩ := HY.out wr HF2.out
                  have HS16 : Hid (∀ w', Fresh wr w' → (w'.cell? ⟨f, 1, none⟩ = some (.int .i64 rows) ∧ w'.cell? ⟨f, 2, none⟩ = some (.slice GA gs.length gc)) ∧ w'.cell? ⟨n7, 3, none⟩ = some (.slice (some ⟨sb, so, none⟩) st.length sc) ∧ w'.cell? ⟨sb, so + k, none⟩ = some (.int .i64 z)) := zh fun w' F => by
                    obtain ⟨_, k1, k2, _, _⟩ := HY.out w' (HF2.out.trans F)
                    exact ⟨⟨k1, k2⟩, (HBX2.out.frm F (fun f => f)).cell 3, by rw [← hz]; exact HZ.out w' F k hlk⟩
                  clear hz HHAS
                  go_upto_region 16 with fail
                  go_cut [152] from 121 to 152 (fun v152 wx => ∃ β, v152 = .bool β ∧ Fresh wr wx)
                  case first =>
                    cases β with
                    | true =>
                      go_quiet (fail)
                      try go_wp2_with fail
                      go_meet
                      exact ⟨true, rfl, Frm.drewN (Frm.refl _ _) _⟩
                    | false =>
                      have HCO2 := zh (fun w' (F : Fresh wr w') => HCO.out w' (HF2.out.trans F))
                      generalize countL rows gs = cn at HCO2
                      clear y0 y1 y2 y3 y4 x3' z0
                      by_cases c1 : cn ≤ z
                      · have d1 : decide (cn ≤ z) = true := decide_eq_true c1
                        refine wp_region_held_drew (S := fun w' => (w'.cell? ⟨f, 1, none⟩ = some (.int .i64 rows) ∧ w'.cell? ⟨f, 2, none⟩ = some (.slice GA gs.length gc)) ∧ w'.cell? ⟨n7, 3, none⟩ = some (.slice (some ⟨sb, so, none⟩) st.length sc) ∧ w'.cell? ⟨sb, so + k, none⟩ = some (.int .i64 z)) (by kernel_rfl) (HS16.out _ (Frm.refl _ _).drew) (fun hHeld => ?_)
                        iterate 11 ((first | refine ztn (v := ?_) (zo rfl) ?_ | refine ztz (v := ?_) (zo rfl) ?_); try simp only [Act.put, zT, zZ, zS])
                        refine zr1 11 (zo rfl) (fun K hK => ?_)
                        go_simp
                        refine (HCO2.out wr.drew (Frm.refl _ _).drew).mono ?_
                        rintro e w4 ⟨rfl, f4⟩
                        have HF4 : Hid (Fresh wr w4) := zh ((Frm.refl (fun _ => False) wr).drew.trans f4)
                        clear f4
                        refine hK.out _ _ (HS16.out _ HF4.out) (fun hHeld => ?_)
                        clear hK K
                        try simp only [Act.put, zT, zZ, zS]
                        iterate 3 (refine ztn (v := ?_) (zo rfl) ?_; try simp only [Act.put, zT, zZ, zS])
                        refine wpAnyH_take (i := 15) (v := undef) (zo rfl) (by kernel_rfl) (by kernel_rfl) (by kernel_rfl) (fun _ _ _ h => by first | exact h | cases h.1) (Or.inr ⟨by rfl, rfl⟩) (by assumption) ?_
                        try simp only [Act.put, zT, zZ, zS]
                        refine wpAnyH_take (i := 16) (v := undef) (zo rfl) (by kernel_rfl) (by kernel_rfl) (by kernel_rfl) (fun _ _ _ h => by first | exact h | cases h.1) (Or.inr ⟨by rfl, rfl⟩) (by assumption) ?_
                        try simp only [Act.put, zT, zZ, zS]
                        refine wpAnyH_take (i := 17) (v := undef) (zo rfl) (by kernel_rfl) (by kernel_rfl) (by kernel_rfl) (fun _ _ _ h => by first | exact h | cases h.1) (Or.inr ⟨by rfl, rfl⟩) (by assumption) ?_
                        try simp only [Act.put, zT, zZ, zS]
                        refine wpAnyH_take (i := 18) (v := undef) (zo rfl) (by kernel_rfl) (by kernel_rfl) (by kernel_rfl) (fun _ _ _ h => by first | exact h | cases h.1) (Or.inr ⟨by rfl, rfl⟩) (by assumption) ?_
                        try simp only [Act.put, zT, zZ, zS]
                        refine wpAnyH_take (i := 19) (v := undef) (zo rfl) (by kernel_rfl) (by kernel_rfl) (by kernel_rfl) (fun _ _ _ h => by first | exact h | cases h.1) (Or.inr ⟨by rfl, rfl⟩) (by assumption) ?_
                        try simp only [Act.put, zT, zZ, zS]
                        refine wpAnyH_take (i := 20) (v := undef) (zo rfl) (by kernel_rfl) (by kernel_rfl) (by kernel_rfl) (fun _ _ _ h => by first | exact h | cases h.1) (Or.inr ⟨by rfl, rfl⟩) (by assumption) ?_
                        try simp only [Act.put, zT, zZ, zS]
                        refine wpAnyH_take (i := 21) (v := undef) (zo rfl) (by kernel_rfl) (by kernel_rfl) (by kernel_rfl) (fun _ _ _ h => by first | exact h | cases h.1) (Or.inr ⟨by rfl, rfl⟩) (by assumption) ?_
                        try simp only [Act.put, zT, zZ, zS]
                        refine wpAnyH_take (i := 22) (v := undef) (zo rfl) (by kernel_rfl) (by kernel_rfl) (by kernel_rfl) (fun _ _ _ h => by first | exact h | cases h.1) (Or.inr ⟨by rfl, rfl⟩) (by assumption) ?_
                        try simp only [Act.put, zT, zZ, zS]
                        refine wpAnyH_take (i := 23) (v := undef) (zo rfl) (by kernel_rfl) (by kernel_rfl) (by kernel_rfl) (fun _ _ _ h => by first | exact h | cases h.1) (Or.inr ⟨by rfl, rfl⟩) (by assumption) ?_
                        try simp only [Act.put, zT, zZ, zS]
                        refine wpAnyH_take (i := 24) (v := undef) (zo rfl) (by kernel_rfl) (by kernel_rfl) (by kernel_rfl) (fun _ _ _ h => by first | exact h | cases h.1) (Or.inr ⟨by rfl, rfl⟩) (by assumption) ?_
                        try simp only [Act.put, zT, zZ, zS]
                        refine wpAnyH_take (i := 25) (v := undef) (zo rfl) (by kernel_rfl) (by kernel_rfl) (by kernel_rfl) (fun _ _ _ h => by first | exact h | cases h.1) (Or.inr ⟨by rfl, rfl⟩) (by assumption) ?_
                        try simp only [Act.put, zT, zZ, zS]
                        refine wpAnyH_take (i := 26) (v := undef) (zo rfl) (by kernel_rfl) (by kernel_rfl) (by kernel_rfl) (fun _ _ _ h => by first | exact h | cases h.1) (Or.inr ⟨by rfl, rfl⟩) (by assumption) ?_
                        try simp only [Act.put, zT, zZ, zS]
                        refine wpAnyH_take (i := 27) (v := undef) (zo rfl) (by kernel_rfl) (by kernel_rfl) (by kernel_rfl) (fun _ _ _ h => by first | exact h | cases h.1) (Or.inr ⟨by rfl, rfl⟩) (by assumption) ?_
                        try simp only [Act.put, zT, zZ, zS]
                        refine wpAnyH_take (i := 28) (v := undef) (zo rfl) (by kernel_rfl) (by kernel_rfl) (by kernel_rfl) (fun _ _ _ h => by first | exact h | cases h.1) (Or.inr ⟨by rfl, rfl⟩) (by assumption) ?_
                        try simp only [Act.put, zT, zZ, zS]
                        refine wpAnyH_take (i := 29) (v := undef) (zo rfl) (by kernel_rfl) (by kernel_rfl) (by kernel_rfl) (fun _ _ _ h => by first | exact h | cases h.1) (Or.inr ⟨by rfl, rfl⟩) (by assumption) ?_
                        try simp only [Act.put, zT, zZ, zS]
                        refine wpAnyH_take (i := 30) (v := undef) (zo rfl) (by kernel_rfl) (by kernel_rfl) (by kernel_rfl) (fun _ _ _ h => by first | exact h | cases h.1) (Or.inr ⟨by rfl, rfl⟩) (by assumption) ?_
                        try simp only [Act.put, zT, zZ, zS]
                        (refine ztn (v := ?_) (zo rfl) ?_; try simp only [Act.put, zT, zZ, zS])
                        refine wpAnyH_done (by kernel_rfl) ?_ _
                        try go_wp2_with fail
                        go_meet
                        exact ⟨_, rfl, HF4.out⟩
                      have d1 : decide (cn ≤ z) = false := decide_eq_false c1
                      rcases Nat.eq_zero_or_pos k with rfl | hkp
                      · have d2 : decide ((0 : Int) < ((0 : Nat) : Int)) = false := rfl
                        refine wp_region_held_drew (S := fun w' => (w'.cell? ⟨f, 1, none⟩ = some (.int .i64 rows) ∧ w'.cell? ⟨f, 2, none⟩ = some (.slice GA gs.length gc)) ∧ w'.cell? ⟨n7, 3, none⟩ = some (.slice (some ⟨sb, so, none⟩) st.length sc) ∧ w'.cell? ⟨sb, so, none⟩ = some (.int .i64 z)) (by kernel_rfl) (HS16.out _ (Frm.refl _ _).drew) (fun hHeld => ?_)
                        iterate 11 ((first | refine ztn (v := ?_) (zo rfl) ?_ | refine ztz (v := ?_) (zo rfl) ?_); try simp only [Act.put, zT, zZ, zS])
                        refine zr1 11 (zo rfl) (fun K hK => ?_)
                        go_simp
                        refine (HCO2.out wr.drew (Frm.refl _ _).drew).mono ?_
                        rintro e w4 ⟨rfl, f4⟩
                        have HF4 : Hid (Fresh wr w4) := zh ((Frm.refl (fun _ => False) wr).drew.trans f4)
                        clear f4
                        refine hK.out _ _ (HS16.out _ HF4.out) (fun hHeld => ?_)
                        clear hK K
                        try simp only [Act.put, zT, zZ, zS]
                        iterate 6 (refine ztn (v := ?_) (zo rfl) ?_; try simp only [Act.put, zT, zZ, zS])
                        refine wpAnyH_take (i := 18) (v := undef) (zo rfl) (by kernel_rfl) (by kernel_rfl) (by kernel_rfl) (fun _ _ _ h => by first | exact h | cases h.1) (Or.inr ⟨by rfl, rfl⟩) (by assumption) ?_
                        try simp only [Act.put, zT, zZ, zS]
                        refine wpAnyH_take (i := 19) (v := undef) (zo rfl) (by kernel_rfl) (by kernel_rfl) (by kernel_rfl) (fun _ _ _ h => by first | exact h | cases h.1) (Or.inr ⟨by rfl, rfl⟩) (by assumption) ?_
                        try simp only [Act.put, zT, zZ, zS]
                        refine wpAnyH_take (i := 20) (v := undef) (zo rfl) (by kernel_rfl) (by kernel_rfl) (by kernel_rfl) (fun _ _ _ h => by first | exact h | cases h.1) (Or.inr ⟨by rfl, rfl⟩) (by assumption) ?_
                        try simp only [Act.put, zT, zZ, zS]
                        refine wpAnyH_take (i := 21) (v := undef) (zo rfl) (by kernel_rfl) (by kernel_rfl) (by kernel_rfl) (fun _ _ _ h => by first | exact h | cases h.1) (Or.inr ⟨by rfl, rfl⟩) (by assumption) ?_
                        try simp only [Act.put, zT, zZ, zS]
                        refine wpAnyH_take (i := 22) (v := undef) (zo rfl) (by kernel_rfl) (by kernel_rfl) (by kernel_rfl) (fun _ _ _ h => by first | exact h | cases h.1) (Or.inr ⟨by rfl, rfl⟩) (by assumption) ?_
                        try simp only [Act.put, zT, zZ, zS]
                        refine wpAnyH_take (i := 23) (v := undef) (zo rfl) (by kernel_rfl) (by kernel_rfl) (by kernel_rfl) (fun _ _ _ h => by first | exact h | cases h.1) (Or.inr ⟨by rfl, rfl⟩) (by assumption) ?_
                        try simp only [Act.put, zT, zZ, zS]
                        refine wpAnyH_take (i := 24) (v := undef) (zo rfl) (by kernel_rfl) (by kernel_rfl) (by kernel_rfl) (fun _ _ _ h => by first | exact h | cases h.1) (Or.inr ⟨by rfl, rfl⟩) (by assumption) ?_
                        try simp only [Act.put, zT, zZ, zS]
                        refine wpAnyH_take (i := 25) (v := undef) (zo rfl) (by kernel_rfl) (by kernel_rfl) (by kernel_rfl) (fun _ _ _ h => by first | exact h | cases h.1) (Or.inr ⟨by rfl, rfl⟩) (by assumption) ?_
                        try simp only [Act.put, zT, zZ, zS]
                        refine wpAnyH_take (i := 26) (v := undef) (zo rfl) (by kernel_rfl) (by kernel_rfl) (by kernel_rfl) (fun _ _ _ h => by first | exact h | cases h.1) (Or.inr ⟨by rfl, rfl⟩) (by assumption) ?_
                        try simp only [Act.put, zT, zZ, zS]
                        refine wpAnyH_take (i := 27) (v := undef) (zo rfl) (by kernel_rfl) (by kernel_rfl) (by kernel_rfl) (fun _ _ _ h => by first | exact h | cases h.1) (Or.inr ⟨by rfl, rfl⟩) (by assumption) ?_
                        try simp only [Act.put, zT, zZ, zS]
                        refine wpAnyH_take (i := 28) (v := undef) (zo rfl) (by kernel_rfl) (by kernel_rfl) (by kernel_rfl) (fun _ _ _ h => by first | exact h | cases h.1) (Or.inr ⟨by rfl, rfl⟩) (by assumption) ?_
                        try simp only [Act.put, zT, zZ, zS]
                        refine wpAnyH_take (i := 29) (v := undef) (zo rfl) (by kernel_rfl) (by kernel_rfl) (by kernel_rfl) (fun _ _ _ h => by first | exact h | cases h.1) (Or.inr ⟨by rfl, rfl⟩) (by assumption) ?_
                        try simp only [Act.put, zT, zZ, zS]
                        iterate 2 (refine ztn (v := ?_) (zo rfl) ?_; try simp only [Act.put, zT, zZ, zS])
                        refine wpAnyH_done (by kernel_rfl) ?_ _
                        try go_wp2_with fail
                        go_meet
                        exact ⟨_, rfl, HF4.out⟩
                      obtain ⟨j, hkj⟩ : ∃ j, k = j + 1 := ⟨k - 1, by omega⟩
                      have hk1 : (k : Int) - 1 = (j : Int) := by omega
                      have hk1w : IntKind.i64.wrap ((k : Int) - 1) = (j : Int) := by rw [hk1]; exact IntWalk.i64_in _ (by omega)
                      have d2 : decide ((0 : Int) < (k : Int)) = true := decide_eq_true (by omega)
                      have d2' : (0 : Int) < (k : Int) := by omega
                      have hjl : j < st.length := by omega
                      have hjl2 : (j : Int) < (st.length : Int) := by omega
                      have hj0 : (0 : Int) ≤ (j : Int) := by omega
                      have hjw : IntKind.i64.wrap (j : Int) = (j : Int) := IntWalk.i64_in _ (by omega)
                      have hjlt : (j : Int) < 9223372036854775808 := by omega
                      clear hkj
                      obtain ⟨zp, hzp⟩ : ∃ zp, st[j] = zp := ⟨_, rfl⟩
                      have HS16p : Hid (∀ w', Fresh wr w' → ((w'.cell? ⟨f, 1, none⟩ = some (.int .i64 rows) ∧ w'.cell? ⟨f, 2, none⟩ = some (.slice GA gs.length gc)) ∧ w'.cell? ⟨n7, 3, none⟩ = some (.slice (some ⟨sb, so, none⟩) st.length sc) ∧ w'.cell? ⟨sb, so + k, none⟩ = some (.int .i64 z)) ∧ w'.cell? ⟨sb, so + j, none⟩ = some (.int .i64 zp)) := zh fun w' F => ⟨HS16.out w' F, by rw [← hzp]; exact HZ.out w' F j hjl⟩
                      clear hzp
                      rcases Bool.eq_false_or_eq_true (decide (z ≤ zp)) with d3 | d3
                      all_goals
                        refine wp_region_held_drew (S := fun w' => ((w'.cell? ⟨f, 1, none⟩ = some (.int .i64 rows) ∧ w'.cell? ⟨f, 2, none⟩ = some (.slice GA gs.length gc)) ∧ w'.cell? ⟨n7, 3, none⟩ = some (.slice (some ⟨sb, so, none⟩) st.length sc) ∧ w'.cell? ⟨sb, so + k, none⟩ = some (.int .i64 z)) ∧ w'.cell? ⟨sb, so + j, none⟩ = some (.int .i64 zp)) (by kernel_rfl) (HS16p.out _ (Frm.refl _ _).drew) (fun hHeld => ?_)
                        iterate 11 ((first | refine ztn (v := ?_) (zo rfl) ?_ | refine ztz (v := ?_) (zo rfl) ?_); try simp only [Act.put, zT, zZ, zS])
                        refine zr1 11 (zo rfl) (fun K hK => ?_)
                        go_simp
                        refine (HCO2.out wr.drew (Frm.refl _ _).drew).mono ?_
                        rintro e w4 ⟨rfl, f4⟩
                        have HF4 : Hid (Fresh wr w4) := zh ((Frm.refl (fun _ => False) wr).drew.trans f4)
                        clear f4
                        refine hK.out _ _ (HS16p.out _ HF4.out) (fun hHeld => ?_)
                        clear hK K
                        try simp only [Act.put, zT, zZ, zS]
                        iterate 20 (refine ztn (v := ?_) (zo rfl) ?_; try simp only [Act.put, zT, zZ, zS])
                        refine wpAnyH_done (by kernel_rfl) ?_ _
                        try go_wp2_with fail
                        go_meet
                        exact ⟨_, rfl, HF4.out⟩
                  case rest =>
                    obtain ⟨β, rfl, fc⟩ := hcut
                    have HFC2 := zh (HF2.out.trans fc)
                    have HSLC2 := zh (HSL2.out.fresh fc)
                    have HBXC2 := zh (HBX2.out.frm fc (fun f => f))
                    have x3' : wc.cell? ⟨n7, 3, none⟩ = some (.slice (some ⟨sb, so, none⟩) st.length sc) := HBXC2.out.cell 3
                    have z0 := HZ.out wc fc k hlk
                    obtain ⟨z, hz⟩ : ∃ z, st[k] = z := ⟨_, rfl⟩
                    rw [hz] at z0
                    clear fc hz y0 y1 y2 y3 y4
                    cases β with
                    | true =>
                      go_wp2_with fail
                      go_ret
                      exact ⟨false, rfl, HFC2.out⟩
                    | false =>
                      have HSA : Hid (Sl (wc.alloc (.cells #[.int .i64 z] 3)) w.heap.size 3 1 (.slice AT2 told2.length ct2) told2.length (ivs told2)) := zh (HSLC2.out.alloc _)
                      have HFA : Hid (Fresh w (wc.alloc (.cells #[.int .i64 z] 3))) := zh (HFC2.out.alloc _)
                      have R := zh (rd_one wc (.int .i64 z) 3)
                      have ht2 : told2.length ≤ 1000000 := by have := HTL2.out; omega
                      have HN7 : Hid (∀ g, (Value.slice AT2 told2.length ct2).ownBlock = some g → g ≠ n7) := zh (fun g hg e => by
                        subst e
                        exact HSLC2.out.apart HBXC2.out (by decide) hg)
                      go_wp2_with (at_builtin; refine wpList_append_sl _ rfl (.tmp 153) (.tmp 159) _ rfl w.heap.size 3 i0 _ 1 8 Tryz.underlying26 hi hz0 hz1 hz2 rfl (by omega) _ told2.length _ rfl HSA.out _ _ 1 _ _ rfl (by rfl) R.out (fun u hu => by simp at hu; subst hu; rfl) (by unfold maxLen; omega) (by omega) HFA.out.size ?_; intro v5 w5 hs5 hf5 ha5)
                      have HS5 : Hid (Sl w5 w.heap.size 3 1 v5 (told2 ++ [z]).length (ivs (told2 ++ [z]))) := zh (by
                        rw [List.length_append, List.length_singleton]
                        unfold ivs
                        rw [List.map_append]
                        exact hs5)
                      have HF5 : Hid (Fresh w w5) := zh (HFA.out.trans' hf5 (fun k hk e => by have := (HSA.out.lt k e).1; omega))
                      have HB5 := zh ((HBXC2.out.alloc (.cells #[.int .i64 z] 3)).frm hf5 (fun e => HN7.out _ e rfl))
                      clear hs5 hf5 ha5
                      go_wp2_with fail
                      go_roundw
                      case rel => first | exact ⟨k + 1, told2 ++ [z], by omega, by go_num, HS5.out, HF5.out, HB5.out, by have := HTL2.out; rw [List.length_append, List.length_singleton]; omega⟩ | trace_state
                      case measure => simp [RowKit.intOf]; omega
                · have hlki : ¬ (k : Int) < (st.length : Int) := by omega
                  go_wp2_with fail
                  go_roundw
                  case rel => first | exact ⟨i + 1, told2, by omega, by go_num, HSL2.out, HF2.out, by have := HTL2.out; omega, HCX.out⟩ | trace_state
                  case measure => simp [RowKit.intOf]; omega
        · have hlti : ¬ (i : Int) < (hs.length : Int) := by omega
          have HALL : Hid (∀ x ∈ hs, x.cl < (lims.length : Int)) := zh (by
            have := HCL.out
            rw [List.take_of_length_le (by omega)] at this
            exact this)
          go_upto_region 19 with fail
          refine wp_region_held_drew (S := fun w' => w'.cell? ⟨f, 3, none⟩ = some (.slice LA lims.length lc)) (by kernel_rfl) ((HY.out _ HF.out.drew).2.2.2.1) (fun hHeld => ?_)
          iterate 5 ((first | refine ztn (v := ?_) (zo rfl) ?_ | refine ztz (v := ?_) (zo rfl) ?_); try simp only [Act.put, zT, zZ, zS])
          refine zr1 5 (zo rfl) (fun K hK => ?_)
          go_simp
          refine (HSO.out wr.drew HF.out.drew HALL.out).mono ?_
          rintro e w8 ⟨v8, rfl, s8, f8⟩
          obtain ⟨A8, c8, rfl, _⟩ := s8.shape
          have HF8 : Hid (Fresh w w8) := zh (HF.out.drew.trans f8)
          have HS8 := zh s8
          clear s8 f8
          refine hK.out _ _ ((HY.out _ HF8.out).2.2.2.1) (fun hHeld => ?_)
          clear hK K
          try simp only [Act.put, zT, zZ, zS]
          refine zr1 6 (zo rfl) (fun K hK => ?_)
          go_simp
          refine ((nest_refRight_any w8 LA lc lims A8 c8 (soldF lims.length hs) (HRL.out w8 HF8.out) HS8.out.rd)).mono ?_
          rintro e w9 ⟨b9, n9, rfl, hw9, _⟩
          have HF9 : Hid (Fresh w w9) := zh (by rw [hw9]; exact Frm.drewN HF8.out n9)
          clear hw9
          refine hK.out _ _ ((HY.out _ HF9.out).2.2.2.1) (fun hHeld => ?_)
          clear hK K
          try simp only [Act.put, zT, zZ, zS]
          (refine ztn (v := ?_) (zo rfl) ?_; try simp only [Act.put, zT, zZ, zS])
          refine wpAnyH_done (by kernel_rfl) ?_ _
          go_wp2_with fail
          go_ret
          exact ⟨b9, rfl, HF9.out⟩
end
end Go.Proofs.YtbeaoddjomdlcaaGreatDoor

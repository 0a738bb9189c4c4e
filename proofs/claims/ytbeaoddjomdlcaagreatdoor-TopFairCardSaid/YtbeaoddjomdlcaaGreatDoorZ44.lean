/- Proved here, for the statement TopFairCardSaid: laws that its walk leans on. It holds with no condition. (Put together and shortened by a program out of many texts: To62, To63.) -/
import Derived.Test.YtbeaoddjomdlcaaGreatDoorZ43
set_option linter.unusedVariables false
set_option linter.unusedSimpArgs false
set_option maxRecDepth 100000
set_option maxHeartbeats 64000000
namespace Go.Proofs.YtbeaoddjomdlcaaGreatDoor
section
open Go.RowKit
open QueueM (Wt)
attribute [local go_sem] run_store_float in
theorem has18_any (w : World) (B : Nat) (p : PlD) (hf : FlAt w B p.f p.m) (hq : IsR w B p.q p.v p.ws) (hl : p.ws.length ≤ 1000) (hhl : p.m.hs.length ≤ 1000) (x : BkR) :
    Calls Tryz.prog 85 #[.agg #[.pointer (some ⟨p.f, 0, none⟩), .pointer (some ⟨p.q, 0, none⟩)], .agg #[.int .i64 x.id, .int .i64 x.fl, .int .i64 x.cl, .int .i64 x.mn, .int .i64 x.st, .int .i64 x.un]] w fun e w' => BoolPost w e w' := by
  obtain ⟨W, hW⟩ : ∃ W, (w.alloc (.cells #[.pointer (some ⟨p.f, 0, none⟩), .pointer (some ⟨p.q, 0, none⟩)] 67)).alloc (.cells #[.int .i64 x.id, .int .i64 x.fl, .int .i64 x.cl, .int .i64 x.mn, .int .i64 x.st, .int .i64 x.un] 113) = W := ⟨_, rfl⟩
  have HFW : Hid (Fresh w W) := zh (by rw [← hW]; exact ((Frm.refl _ w).alloc _).alloc _)
  have HB2 : Hid (Blk W w.heap.size 67 #[.pointer (some ⟨p.f, 0, none⟩), .pointer (some ⟨p.q, 0, none⟩)]) := zh (by rw [← hW]; exact (Blk.new _ _ _).alloc _)
  have HB3 : Hid (Blk W (w.heap.size + 1) 113 #[.int .i64 x.id, .int .i64 x.fl, .int .i64 x.cl, .int .i64 x.mn, .int .i64 x.st, .int .i64 x.un]) := zh (by
    rw [← hW]
    have := Blk.new (w.alloc (.cells #[.pointer (some ⟨p.f, 0, none⟩), .pointer (some ⟨p.q, 0, none⟩)] 67)) 113 #[.int .i64 x.id, .int .i64 x.fl, .int .i64 x.cl, .int .i64 x.mn, .int .i64 x.st, .int .i64 x.un]
    rw [show (w.alloc (.cells #[.pointer (some ⟨p.f, 0, none⟩), .pointer (some ⟨p.q, 0, none⟩)] 67)).heap.size = w.heap.size + 1 from Array.size_push _] at this
    exact this)
  obtain ⟨pf, m, pq, pv, ws⟩ := p
  obtain ⟨num, rows, GA, gc, gs, LA, lc, lims, HA, hc, hs⟩ := m
  obtain ⟨xi, xf, xc, xm, xst, xu⟩ := x
  dsimp only at hf hq hl hhl hW HB2 HB3 ⊢
  obtain ⟨QA, qc, rfl, _⟩ := hq.sl.shape
  have HY : Hid (∀ w', Fresh W w' → (w'.cell? ⟨w.heap.size, 0, none⟩ = some (.pointer (some ⟨pf, 0, none⟩)) ∧ w'.cell? ⟨w.heap.size, 1, none⟩ = some (.pointer (some ⟨pq, 0, none⟩))) ∧ (w'.cell? ⟨w.heap.size + 1, 0, none⟩ = some (.int .i64 xi) ∧ w'.cell? ⟨w.heap.size + 1, 2, none⟩ = some (.int .i64 xc) ∧ w'.cell? ⟨w.heap.size + 1, 3, none⟩ = some (.int .i64 xm) ∧ w'.cell? ⟨w.heap.size + 1, 4, none⟩ = some (.int .i64 xst)) ∧ (w'.cell? ⟨pf, 3, none⟩ = some (.slice LA lims.length lc) ∧ w'.cell? ⟨pf, 4, none⟩ = some (.slice HA hs.length hc)) ∧ w'.cell? ⟨pq, 0, none⟩ = some (.slice QA ws.length qc)) := zh fun w' F => by
    have h2 := HB2.out.frm F (fun f => f)
    have h3 := HB3.out.frm F (fun f => f)
    have h4 := (hf.fresh (HFW.out.trans F)).blk
    have h5 := hq.blk.frm (HFW.out.trans F) (fun f => f)
    exact ⟨⟨h2.cell 0, h2.cell 1⟩, ⟨h3.cell 0, h3.cell 2, h3.cell 3, h3.cell 4⟩, ⟨h4.cell 3, h4.cell 4⟩, h5.cell 0⟩
  have HRQ : Hid (∀ w', Fresh W w' → Rd w' w'.heap.size QA (ws.flatMap wcells)) := zh fun w' F => (hq.sl.fresh (HFW.out.trans F)).rd
  have HRH : Hid (∀ w', Fresh W w' → Rd w' w'.heap.size HA (hs.flatMap hcel)) := zh fun w' F => (hf.fresh (HFW.out.trans F)).hsl.rd
  obtain ⟨⟨y0, y1⟩, ⟨y2, y3, y4, y5⟩, ⟨y6, y7⟩, y8⟩ := HY.out W (Frm.refl _ _)
  clear hf hq HB2 HB3
  go_in
  go_upto_region 1 with fail
  try rw [hW]
  clear hW
  by_cases hst : xst = 3
  · have d0 : (xst == 3) = true := by rw [hst]; rfl
    rw [hst] at y5
    go_wp2_with fail
    go_loopw [5] (fun v5 wr => ∃ i : Nat, i ≤ ws.length ∧ v5 = .int .i64 (i : Int) ∧ Fresh W wr) (fun v5 _ => ws.length - (RowKit.intOf v5).toNat)
    case atStart => exact ⟨0, by omega, rfl, Frm.refl _ _⟩
    case round =>
      obtain ⟨i, hi, rfl, hfr⟩ := hrel
      have HFR := zh hfr
      have hi0 : (0 : Int) ≤ (i : Int) := by omega
      clear y0 y1 y2 y3 y4 y5 y6 y7 y8 hfr
      obtain ⟨⟨y0, y1⟩, ⟨y2, y3, y4, y5⟩, ⟨y6, y7⟩, y8⟩ := HY.out wr HFR.out
      by_cases hlt : i < ws.length
      · have hlti : (i : Int) < (ws.length : Int) := by omega
        obtain ⟨g, o, rfl, _, k0, k1, k2, k3, k4⟩ := five_at (HRQ.out wr HFR.out) hlt
        generalize ws[i] = u at k0 k1 k2 k3 k4
        obtain ⟨ui, uc, um, ut, us⟩ := u
        dsimp only at k0 k1 k2 k3 k4
        obtain ⟨V, hV⟩ : ∃ V, wr.alloc (.cells #[.int .i64 ui, .int .i64 uc, .int .i64 um, .int .i64 ut, .float .f64 us] 69) = V := ⟨_, rfl⟩
        have HFV : Hid (Fresh W V) := zh (by rw [← hV]; exact HFR.out.alloc _)
        have hbx : Blk V wr.heap.size 69 #[.int .i64 ui, .int .i64 uc, .int .i64 um, .int .i64 ut, .float .f64 us] := by rw [← hV]; exact Blk.new _ _ _
        have b0 : V.cell? ⟨wr.heap.size, 0, none⟩ = some (.int .i64 ui) := hbx.cell 0
        have b1 : V.cell? ⟨wr.heap.size, 1, none⟩ = some (.int .i64 uc) := hbx.cell 1
        have b2 : V.cell? ⟨wr.heap.size, 2, none⟩ = some (.int .i64 um) := hbx.cell 2
        go_upto_region 6 with fail
        try rw [hV]
        clear hV hbx k0 k1 k2 k3 k4 y0 y1 y2 y3 y4 y5 y6 y7 y8
        obtain ⟨⟨y0, y1⟩, ⟨y2, y3, y4, y5⟩, ⟨y6, y7⟩, y8⟩ := HY.out V HFV.out
        by_cases e1 : ui = xi
        rotate_left 1
        · have d1 : (ui == xi) = false := by simpa using e1
          have d1' : decide (ui = xi) = false := decide_eq_false e1
          go_wp2_with fail
          go_roundw
          case rel => first | exact ⟨i + 1, by omega, by go_num, HFV.out⟩ | trace_state
          case measure => simp [RowKit.intOf]; omega
        have d1 : (ui == xi) = true := by simpa using e1
        have d1' : decide (ui = xi) = true := decide_eq_true e1
        subst e1
        rcases Bool.eq_false_or_eq_true (uc == xc) with d2 | d2
        rotate_left 1
        · go_wp2_with fail
          go_quiet (fail)
          go_wp2_with fail
          exact bodyPost_ret (v := .bool false) (by simp [results, Tryz.results85, go_sem]) rfl ⟨false, rfl, (HFW.out.trans HFV.out).drewN _⟩
        rcases Bool.eq_false_or_eq_true (um == xm) with d3 | d3
        rotate_left 1
        · go_wp2_with fail
          go_quiet (fail)
          go_wp2_with fail
          exact bodyPost_ret (v := .bool false) (by simp [results, Tryz.results85, go_sem]) rfl ⟨false, rfl, (HFW.out.trans HFV.out).drewN _⟩
        rcases Bool.eq_false_or_eq_true (decide (xc < (lims.length : Int))) with d4 | d4
        · go_wp2_with fail
          go_quiet (fail)
          go_wp2_with fail
          exact bodyPost_ret (v := .bool true) (by simp [results, Tryz.results85, go_sem]) rfl ⟨true, rfl, (HFW.out.trans HFV.out).drewN _⟩
        · go_wp2_with fail
          go_quiet (fail)
          go_wp2_with fail
          exact bodyPost_ret (v := .bool false) (by simp [results, Tryz.results85, go_sem]) rfl ⟨false, rfl, (HFW.out.trans HFV.out).drewN _⟩
      · have hlti : ¬ (i : Int) < (ws.length : Int) := by omega
        go_wp2_with fail
        exact bodyPost_ret (v := .bool false) (by simp [results, Tryz.results85, go_sem]) rfl ⟨false, rfl, HFW.out.trans HFR.out⟩
  · have d0 : (xst == 3) = false := by simpa using hst
    have d0' : decide (xst = 3) = false := decide_eq_false hst
    go_wp2_with fail
    go_loopw [7] (fun v7 wr => ∃ i : Nat, i ≤ hs.length ∧ v7 = .int .i64 (i : Int) ∧ Fresh W wr) (fun v7 _ => hs.length - (RowKit.intOf v7).toNat)
    case atStart => exact ⟨0, by omega, rfl, Frm.refl _ _⟩
    case round =>
      obtain ⟨i, hi, rfl, hfr⟩ := hrel
      have HFR := zh hfr
      have hi0 : (0 : Int) ≤ (i : Int) := by omega
      clear y0 y1 y2 y3 y4 y5 y6 y7 y8 hfr
      obtain ⟨⟨y0, y1⟩, ⟨y2, y3, y4, y5⟩, ⟨y6, y7⟩, y8⟩ := HY.out wr HFR.out
      by_cases hlt : i < hs.length
      · have hlti : (i : Int) < (hs.length : Int) := by omega
        obtain ⟨g, o, rfl, _, k0, k1, k2, k3⟩ := hold_at (HRH.out wr HFR.out) hlt
        generalize hs[i] = u at k0 k1 k2 k3
        obtain ⟨ui, uc, um, SA, sc, st⟩ := u
        dsimp only at k0 k1 k2 k3
        obtain ⟨V, hV⟩ : ∃ V, wr.alloc (.cells #[.int .i64 ui, .int .i64 uc, .int .i64 um, .slice SA st.length sc] 139) = V := ⟨_, rfl⟩
        have HFV : Hid (Fresh W V) := zh (by rw [← hV]; exact HFR.out.alloc _)
        have hbx : Blk V wr.heap.size 139 #[.int .i64 ui, .int .i64 uc, .int .i64 um, .slice SA st.length sc] := by rw [← hV]; exact Blk.new _ _ _
        have b0 : V.cell? ⟨wr.heap.size, 0, none⟩ = some (.int .i64 ui) := hbx.cell 0
        have b1 : V.cell? ⟨wr.heap.size, 1, none⟩ = some (.int .i64 uc) := hbx.cell 1
        have b2 : V.cell? ⟨wr.heap.size, 2, none⟩ = some (.int .i64 um) := hbx.cell 2
        go_upto_region 13 with fail
        try rw [hV]
        clear hV hbx k0 k1 k2 k3 y0 y1 y2 y3 y4 y5 y6 y7 y8
        obtain ⟨⟨y0, y1⟩, ⟨y2, y3, y4, y5⟩, ⟨y6, y7⟩, y8⟩ := HY.out V HFV.out
        by_cases e1 : ui = xi
        rotate_left 1
        · have d1 : (ui == xi) = false := by simpa using e1
          have d1' : decide (ui = xi) = false := decide_eq_false e1
          go_wp2_with fail
          go_roundw
          case rel => first | exact ⟨i + 1, by omega, by go_num, HFV.out⟩ | trace_state
          case measure => simp [RowKit.intOf]; omega
        have d1 : (ui == xi) = true := by simpa using e1
        have d1' : decide (ui = xi) = true := decide_eq_true e1
        subst e1
        rcases Bool.eq_false_or_eq_true (uc == xc) with d2 | d2
        rotate_left 1
        · go_wp2_with fail
          exact bodyPost_ret (v := .bool false) (by simp [results, Tryz.results85, go_sem]) rfl ⟨false, rfl, HFW.out.trans HFV.out⟩
        rcases Bool.eq_false_or_eq_true (um == xm) with d3 | d3
        · go_wp2_with fail
          exact bodyPost_ret (v := .bool true) (by simp [results, Tryz.results85, go_sem]) rfl ⟨true, rfl, HFW.out.trans HFV.out⟩
        · go_wp2_with fail
          exact bodyPost_ret (v := .bool false) (by simp [results, Tryz.results85, go_sem]) rfl ⟨false, rfl, HFW.out.trans HFV.out⟩
      · have hlti : ¬ (i : Int) < (hs.length : Int) := by omega
        go_wp2_with fail
        exact bodyPost_ret (v := .bool false) (by simp [results, Tryz.results85, go_sem]) rfl ⟨false, rfl, HFW.out.trans HFR.out⟩
theorem range_of' {w : World} {q : Nat} {t : TypeId} {cs : List Value} (h : Blk w q t cs.toArray) : w.rangeAt q 0 cs := fun j u hu => by
  rw [h.cell, Nat.zero_add]
  simpa using hu
theorem may18_any (w : World) (B b : Nat) (M : BkD) (h : BookAt w B b M) (h8 : M.fs.length ≤ 8) (h3 : M.l.length ≤ 300) (hsz : ∀ p ∈ M.fs, p.m.hs.length ≤ 600 ∧ p.ws.length ≤ 200) :
    Calls Tryz.prog 44 #[.pointer (some ⟨b, 0, none⟩)] w fun e w' => BoolPost w e w' := by
  have HA := zh h
  have HFL : Hid (∀ w' n, Fresh w w' → Calls Tryz.prog 84 #[.pointer (some ⟨b, 0, none⟩), .int .i64 n] w' fun e w'' => e = .returned (.int .i64 (flightA n M.abs)) ∧ w'' = w') := zh fun w' n F => flight18_any w' B b M n (h.fresh F) h8
  have HFC : Hid (∀ n, flightA n M.abs = -1 ∨ ∃ k : Nat, k < M.fs.length ∧ flightA n M.abs = (k : Int)) := zh fun n => by
    rw [flightA_eq]
    rcases posOf_cases (fun p : PlD => p.m.num) n M.fs 0 with ⟨e, _⟩ | ⟨k, hk, e, _⟩
    · exact .inl e
    · exact .inr ⟨k, hk, by rw [e, Nat.zero_add]⟩
  have HSZ := zh hsz
  have HHS : Hid (∀ w', Fresh w w' → ∀ k (hk : k < M.fs.length) (x : BkR), Calls Tryz.prog 85 #[.agg #[.pointer (some ⟨M.fs[k].f, 0, none⟩), .pointer (some ⟨M.fs[k].q, 0, none⟩)], .agg #[.int .i64 x.id, .int .i64 x.fl, .int .i64 x.cl, .int .i64 x.mn, .int .i64 x.st, .int .i64 x.un]] w' fun e w'' => BoolPost w' e w'') := zh fun w' F k hk x => by
    have hm := List.getElem_mem hk
    have hq := (h.fresh F)
    exact has18_any w' B M.fs[k] (hq.fl _ hm).1 (hq.qu _ hm) (by have := (hsz _ hm).2; omega) (by have := (hsz _ hm).1; omega) x
  obtain ⟨now, next, FA, fc, fs, LA, lc, l⟩ := M
  dsimp only at h8 h3 HFC HSZ HHS
  have HY : Hid (∀ w', Fresh w w' → w'.cell? ⟨b, 0, none⟩ = some (.int .i64 now) ∧ w'.cell? ⟨b, 1, none⟩ = some (.int .i64 next) ∧ w'.cell? ⟨b, 2, none⟩ = some (.slice FA fs.length fc) ∧ w'.cell? ⟨b, 3, none⟩ = some (.slice LA l.length lc)) := zh fun w' F => (h.fresh F).cells
  have HP : Hid (∀ w', Fresh w w' → ∀ k (hk : k < fs.length), ∃ g o, FA = some ⟨g, o, none⟩ ∧ w'.cell? ⟨g, o + k * 2, none⟩ = some (.pointer (some ⟨fs[k].f, 0, none⟩)) ∧ w'.cell? ⟨g, o + k * 2 + 1, none⟩ = some (.pointer (some ⟨fs[k].q, 0, none⟩)) ∧ w'.cell? ⟨fs[k].f, 0, none⟩ = some (.int .i64 fs[k].m.num) ∧ (∃ A c, w'.cell? ⟨fs[k].f, 4, none⟩ = some (.slice A fs[k].m.hs.length c)) ∧ ∃ A c, w'.cell? ⟨fs[k].q, 0, none⟩ = some (.slice A fs[k].ws.length c)) := zh fun w' F k hk => by
    have hq := h.fresh F
    obtain ⟨g, o, e, _, c0, c1⟩ := hq.place hk
    have hf := (hq.fl _ (List.getElem_mem hk)).1.blk
    have hq2 := hq.qu _ (List.getElem_mem hk)
    obtain ⟨A, c, ev, _⟩ := hq2.sl.shape
    exact ⟨g, o, e, c0, c1, hf.cell 0, ⟨_, _, hf.cell 4⟩, A, c, by have := hq2.blk.cell 0; rw [ev] at this; exact this⟩
  have HL : Hid (∀ w', Fresh w w' → ∀ k (hk : k < l.length), ∃ g o, LA = some ⟨g, o, none⟩ ∧ SixB w' g (o + k * 6) l[k]) := zh fun w' F k hk => by
    obtain ⟨g, o, e, _, c⟩ := (h.fresh F).bk hk
    exact ⟨g, o, e, c⟩
  obtain ⟨y0, y1, y2, y3⟩ := HY.out w (Frm.refl _ _)
  clear h hsz HA
  go_in
  by_cases hn1 : next < 1
  · have d1 : decide (next < 1) = true := decide_eq_true hn1
    go_wp2_with fail
    exact bodyPost_ret (v := .bool false) (by simp [results, Tryz.results44, go_sem]) rfl ⟨false, rfl, Frm.refl _ _⟩
  have d1 : decide (next < 1) = false := decide_eq_false hn1
  go_wp2_with fail
  clear d1 hn1
  go_loopw [3, 4] (fun v3 v4 wr => ∃ (k : Nat) (th : Int), k ≤ fs.length ∧ v4 = .int .i64 (k : Int) ∧ v3 = .int .i64 th ∧ (0 ≤ th ∧ th ≤ 1000 * (k : Int)) ∧ Fresh w wr) (fun _ v4 _ => fs.length - (RowKit.intOf v4).toNat)
  case atStart => exact ⟨0, 0, by omega, rfl, rfl, ⟨by omega, by omega⟩, Frm.refl _ _⟩
  case round =>
    obtain ⟨k, th, hk, rfl, rfl, hth, hfr⟩ := hrel
    have HFR := zh hfr
    have hk0 : (0 : Int) ≤ (k : Int) := by omega
    clear y0 y1 y2 y3 hfr
    obtain ⟨y0, y1, y2, y3⟩ := HY.out wr HFR.out
    by_cases hlt : k < fs.length
    · have hlti : (k : Int) < (fs.length : Int) := by omega
      obtain ⟨g, o, rfl, c0, c1, c2, ⟨A4, m4, c3⟩, A5, m5, c4⟩ := HP.out wr HFR.out k hlt
      have hz := HSZ.out _ (List.getElem_mem hlt)
      generalize fs[k] = p at c0 c1 c2 c3 c4 hz
      obtain ⟨pf, pm, pq, pv, pws⟩ := p
      dsimp only at c0 c1 c2 c3 c4 hz
      generalize pm.num = pn at c2
      generalize pm.hs.length = ph at c3 hz
      generalize pws.length = pw at c4 hz
      have hw1 : IntKind.i64.wrap (th + (ph : Int)) = th + (ph : Int) := IntWalk.i64_in _ (by omega)
      have hw2 : IntKind.i64.wrap (th + (ph : Int) + (pw : Int)) = th + (ph : Int) + (pw : Int) := IntWalk.i64_in _ (by omega)
      have HTN : Hid (0 ≤ th + (ph : Int) + (pw : Int) ∧ th + (ph : Int) + (pw : Int) ≤ 1000 * ((k + 1 : Nat) : Int)) := zh (by omega)
      clear hth
      go_upto_region 7 with fail
      go_cut [50] from 23 to 50 (fun v50 wx => ∃ β, v50 = .bool β ∧ ∃ n, wx = wr.drewN n)
      case first =>
        rcases Nat.eq_zero_or_pos k with rfl | hkp
        · have d3 : decide ((0 : Int) < ((0 : Nat) : Int)) = false := rfl
          go_quiet (fail)
          try go_wp2_with fail
          go_meet
          exact ⟨false, rfl, _, rfl⟩
        obtain ⟨j, hkj⟩ : ∃ j, k = j + 1 := ⟨k - 1, by omega⟩
        have hk1 : (k : Int) - 1 = (j : Int) := by omega
        have hk1w : IntKind.i64.wrap ((k : Int) - 1) = (j : Int) := by rw [hk1]; exact IntWalk.i64_in _ (by omega)
        have d3 : decide ((0 : Int) < (k : Int)) = true := decide_eq_true (by omega)
        have d3' : (0 : Int) < (k : Int) := by omega
        have hjl : j < fs.length := by omega
        have hjl2 : (j : Int) < (fs.length : Int) := by omega
        have hj0 : (0 : Int) ≤ (j : Int) := by omega
        clear hkj
        obtain ⟨g2, o2, e2, q0, q1, q2, _⟩ := HP.out wr HFR.out j hjl
        injection e2 with e2
        injection e2 with e3 e4 _
        subst e3 e4
        generalize fs[j] = pj at q0 q1 q2
        rcases Bool.eq_false_or_eq_true (decide (pn ≤ pj.m.num)) with d5 | d5
        · go_quiet (fail)
          try go_wp2_with fail
          go_meet
          exact ⟨true, rfl, _, rfl⟩
        · go_quiet (fail)
          try go_wp2_with fail
          go_meet
          exact ⟨false, rfl, _, rfl⟩
      case rest =>
        obtain ⟨β, rfl, n, hwn⟩ := hcut
        subst hwn
        cases β with
        | true =>
          go_wp2_with fail
          exact bodyPost_ret (v := .bool false) (by simp [results, Tryz.results44, go_sem]) rfl ⟨false, rfl, HFR.out.drewN n⟩
        | false =>
          go_wp2_with fail
          go_quiet (fail)
          go_wp2_with fail
          go_roundw
          case rel => first | exact ⟨k + 1, th + (ph : Int) + (pw : Int), by omega, by go_num, rfl, HTN.out, (HFR.out.drewN n).drewN _⟩ | exact ⟨k + 1, th + (ph : Int) + (pw : Int), by omega, by go_num, rfl, HTN.out, HFR.out.drewN _⟩ | trace_state
          case measure => simp [RowKit.intOf]; omega
    · have hlti : ¬ (k : Int) < (fs.length : Int) := by omega
      go_wp2_with fail
      go_loopw [5] (fun v5 wr => ∃ i : Nat, i ≤ l.length ∧ v5 = .int .i64 (i : Int) ∧ Fresh w wr) (fun v5 _ => l.length - (RowKit.intOf v5).toNat)
      case atStart => exact ⟨0, by omega, rfl, HFR.out⟩
      case round =>
        clear y0 y1 y2 y3 HFR hth
        obtain ⟨i, hi, rfl, hfr⟩ := hrel
        have HFR := zh hfr
        have hi0 : (0 : Int) ≤ (i : Int) := by omega
        clear hfr
        obtain ⟨y0, y1, y2, y3⟩ := HY.out wr HFR.out
        by_cases hil : i < l.length
        · have hili : (i : Int) < (l.length : Int) := by omega
          obtain ⟨lg, lo, rfl, x0, x1, x2, x3, x4, x5⟩ := HL.out wr HFR.out i hil
          generalize l[i] = x at x0 x1 x2 x3 x4 x5
          obtain ⟨id, fl, cl, mn, st, un⟩ := x
          dsimp only at x0 x1 x2 x3 x4 x5
          obtain ⟨V, hV⟩ : ∃ V, wr.alloc (.cells #[.int .i64 id, .int .i64 fl, .int .i64 cl, .int .i64 mn, .int .i64 st, .int .i64 un] 113) = V := ⟨_, rfl⟩
          have HFV : Hid (Fresh w V) := zh (by rw [← hV]; exact HFR.out.alloc _)
          have HBX : Hid (Blk V wr.heap.size 113 #[.int .i64 id, .int .i64 fl, .int .i64 cl, .int .i64 mn, .int .i64 st, .int .i64 un]) := zh (by rw [← hV]; exact Blk.new _ _ _)
          have b1 : V.cell? ⟨wr.heap.size, 1, none⟩ = some (.int .i64 fl) := HBX.out.cell 1
          have HFX := zh (HFL.out V fl HFV.out)
          have HFK := zh (HFC.out fl)
          go_upto_region 14 with fail
          try rw [hV]
          clear hV x0 x1 x2 x3 x4 x5 y0 y1 y2 y3
          obtain ⟨n6, hn6⟩ : ∃ n6, wr.heap.size = n6 := ⟨_, rfl⟩
          rw [hn6] at HBX b1 ⊢
          clear hn6
          go_wp2_with fail
          refine HFX.out.mono ?_
          rintro e w5 ⟨rfl, hw5⟩
          replace hw5 := hw5.symm
          subst hw5
          obtain ⟨kf, hkf⟩ : ∃ kf, flightA fl (BkD.abs ⟨now, next, FA, fc, fs, some ⟨lg, lo, none⟩, lc, l⟩) = kf := ⟨_, rfl⟩
          have hkk := HFK.out
          rw [hkf] at hkk
          rw [hkf]
          have HKK := zh hkk
          clear hkf hkk HFX HFK b1
          obtain ⟨y0, y1, y2, y3⟩ := HY.out V HFV.out
          have b0 : V.cell? ⟨n6, 0, none⟩ = some (.int .i64 id) := HBX.out.cell 0
          have b4 : V.cell? ⟨n6, 4, none⟩ = some (.int .i64 st) := HBX.out.cell 4
          have b5 : V.cell? ⟨n6, 5, none⟩ = some (.int .i64 un) := HBX.out.cell 5
          go_upto_region 15 with fail
          go_cut [136] from 98 to 136 (fun v136 wx => ∃ β, v136 = .bool β ∧ (β = false → 0 ≤ kf) ∧ Fresh V wx)
          case first =>
            by_cases c1 : id < 1
            · have d1 : decide (id < 1) = true := decide_eq_true c1
              go_quiet (fail)
              try go_wp2_with fail
              go_meet
              exact ⟨true, rfl, (fun h => by cases h), Frm.drewN (Frm.refl _ _) _⟩
            have d1 : decide (id < 1) = false := decide_eq_false c1
            by_cases c2 : next ≤ id
            · have d2 : decide (next ≤ id) = true := decide_eq_true c2
              go_quiet (fail)
              try go_wp2_with fail
              go_meet
              exact ⟨true, rfl, (fun h => by cases h), Frm.drewN (Frm.refl _ _) _⟩
            have d2 : decide (next ≤ id) = false := decide_eq_false c2
            rcases Nat.eq_zero_or_pos i with rfl | hip
            · have d3 : decide ((0 : Int) < ((0 : Nat) : Int)) = false := rfl
              by_cases c4 : kf < 0
              · have d4 : decide (kf < 0) = true := decide_eq_true c4
                go_quiet (fail)
                try go_wp2_with fail
                go_meet
                exact ⟨true, rfl, (fun h => by cases h), Frm.drewN (Frm.refl _ _) _⟩
              have d4 : decide (kf < 0) = false := decide_eq_false c4
              by_cases c5 : st < 1
              · have d5 : decide (st < 1) = true := decide_eq_true c5
                go_quiet (fail)
                try go_wp2_with fail
                go_meet
                exact ⟨true, rfl, (fun h => by cases h), Frm.drewN (Frm.refl _ _) _⟩
              have d5 : decide (st < 1) = false := decide_eq_false c5
              go_quiet (fail)
              try go_wp2_with fail
              go_meet
              exact ⟨false, rfl, (fun _ => by omega), Frm.drewN (Frm.refl _ _) _⟩
            obtain ⟨j, hkj⟩ : ∃ j, i = j + 1 := ⟨i - 1, by omega⟩
            have hk1 : (i : Int) - 1 = (j : Int) := by omega
            have hk1w : IntKind.i64.wrap ((i : Int) - 1) = (j : Int) := by rw [hk1]; exact IntWalk.i64_in _ (by omega)
            have d3 : decide ((0 : Int) < (i : Int)) = true := decide_eq_true (by omega)
            have d3' : (0 : Int) < (i : Int) := by omega
            have hjl : j < l.length := by omega
            have hjl2 : (j : Int) < (l.length : Int) := by omega
            have hj0 : (0 : Int) ≤ (j : Int) := by omega
            clear hkj
            obtain ⟨g2, o2, e2, p0⟩ := HL.out V HFV.out j hjl
            injection e2 with e2
            injection e2 with e3 e4 _
            subst e3 e4
            have p0 := p0.1
            generalize l[j].id = pv at p0
            by_cases c3 : id ≤ pv
            · have d6 : decide (id ≤ pv) = true := decide_eq_true c3
              go_quiet (fail)
              try go_wp2_with fail
              go_meet
              exact ⟨true, rfl, (fun h => by cases h), Frm.drewN (Frm.refl _ _) _⟩
            have d6 : decide (id ≤ pv) = false := decide_eq_false c3
            by_cases c4 : kf < 0
            · have d4 : decide (kf < 0) = true := decide_eq_true c4
              go_quiet (fail)
              try go_wp2_with fail
              go_meet
              exact ⟨true, rfl, (fun h => by cases h), Frm.drewN (Frm.refl _ _) _⟩
            have d4 : decide (kf < 0) = false := decide_eq_false c4
            by_cases c5 : st < 1
            · have d5 : decide (st < 1) = true := decide_eq_true c5
              go_quiet (fail)
              try go_wp2_with fail
              go_meet
              exact ⟨true, rfl, (fun h => by cases h), Frm.drewN (Frm.refl _ _) _⟩
            have d5 : decide (st < 1) = false := decide_eq_false c5
            go_quiet (fail)
            try go_wp2_with fail
            go_meet
            exact ⟨false, rfl, (fun _ => by omega), Frm.drewN (Frm.refl _ _) _⟩
          case rest =>
            obtain ⟨β, rfl, hβ, fc2⟩ := hcut
            have HBE := zh hβ
            have HF6 : Hid (Fresh w wc) := zh (HFV.out.trans fc2)
            have HBX6 := zh (HBX.out.frm fc2 (fun f => f))
            clear hβ fc2 b0 b4 b5 y0 y1 y2 y3 HBX
            cases β with
            | true =>
              go_wp2_with fail
              exact bodyPost_ret (v := .bool false) (by simp [results, Tryz.results44, go_sem]) rfl ⟨false, rfl, HF6.out⟩
            | false =>
            have hk0 : 0 ≤ kf := HBE.out rfl
            obtain ⟨k, hkl, rfl⟩ : ∃ k : Nat, k < fs.length ∧ kf = (k : Int) := by
              rcases HKK.out with e | ⟨k, h1, h2⟩
              · omega
              · exact ⟨k, h1, h2⟩
            obtain ⟨V6, hV6⟩ : ∃ V6, wc = V6 := ⟨_, rfl⟩
            obtain ⟨y0, y1, y2, y3⟩ := HY.out wc HF6.out
            have b0 : wc.cell? ⟨n6, 0, none⟩ = some (.int .i64 id) := HBX6.out.cell 0
            have b4 : wc.cell? ⟨n6, 4, none⟩ = some (.int .i64 st) := HBX6.out.cell 4
            have b5 : wc.cell? ⟨n6, 5, none⟩ = some (.int .i64 un) := HBX6.out.cell 5
            rw [hV6] at HF6 HBX6 y0 y1 y2 y3 b0 b4 b5 ⊢
            clear hV6 HBE HKK
            go_upto_region 17 with fail
            go_cut [158] from 137 to 158 (fun v158 wx => ∃ β, v158 = .bool β ∧ Fresh V6 wx)
            case first =>
              by_cases s1 : st = 1
              · have d1 : (st == 1) = true := by rw [s1]; rfl
                have d1' : (st != 1) = false := by rw [s1]; rfl
                rw [s1] at b4
                clear s1
                by_cases u1 : un ≤ now
                · have d2 : decide (un ≤ now) = true := decide_eq_true u1
                  go_quiet (fail)
                  try go_wp2_with fail
                  go_meet
                  exact ⟨true, rfl, Frm.drewN (Frm.refl _ _) _⟩
                · have d2 : decide (un ≤ now) = false := decide_eq_false u1
                  go_quiet (fail)
                  try go_wp2_with fail
                  go_meet
                  exact ⟨false, rfl, Frm.drewN (Frm.refl _ _) _⟩
              have d1 : (st == 1) = false := by simpa using s1
              have d1' : (st != 1) = true := by simpa using s1
              have d1a : decide (st = 1) = false := decide_eq_false s1
              by_cases u1 : un = 0
              · have d2 : (un != 0) = false := by rw [u1]; rfl
                rw [u1] at b5
                clear u1
                go_quiet (fail)
                try go_wp2_with fail
                go_meet
                exact ⟨false, rfl, Frm.drewN (Frm.refl _ _) _⟩
              have d2 : (un != 0) = true := by simpa using u1
              have d2a : decide (un = 0) = false := decide_eq_false u1
              go_quiet (fail)
              try go_wp2_with fail
              go_meet
              exact ⟨true, rfl, Frm.drewN (Frm.refl _ _) _⟩
            case rest =>
              obtain ⟨β, rfl, fc3⟩ := hcut
              have HF8 : Hid (Fresh w wc) := zh (HF6.out.trans fc3)
              have HBX8 := zh (HBX6.out.frm fc3 (fun f => f))
              clear fc3 b0 b4 b5 y0 y1 y2 y3 HBX6
              cases β with
              | true =>
                go_wp2_with fail
                exact bodyPost_ret (v := .bool false) (by simp [results, Tryz.results44, go_sem]) rfl ⟨false, rfl, HF8.out⟩
              | false =>
                obtain ⟨V8, hV8⟩ : ∃ V8, wc = V8 := ⟨_, rfl⟩
                rw [hV8] at HF8 HBX8 ⊢
                clear hV8
                have HHA := zh (fun w' (F : Fresh V8 w') => HHS.out w' (HF8.out.trans F) k hkl ⟨id, fl, cl, mn, st, un⟩)
                obtain ⟨fg, fo, rfl, _⟩ := HP.out V8 HF8.out k hkl
                have HS19 : Hid (∀ w', Fresh V8 w' → (w'.cell? ⟨b, 2, none⟩ = some (.slice (some ⟨fg, fo, none⟩) fs.length fc) ∧ w'.cell? ⟨fg, fo + k * 2, none⟩ = some (.pointer (some ⟨fs[k].f, 0, none⟩)) ∧ w'.cell? ⟨fg, fo + k * 2 + 1, none⟩ = some (.pointer (some ⟨fs[k].q, 0, none⟩))) ∧ w'.rangeAt n6 0 [.int .i64 id, .int .i64 fl, .int .i64 cl, .int .i64 mn, .int .i64 st, .int .i64 un]) := zh fun w' F => by
                  obtain ⟨_, _, k2, _⟩ := HY.out w' (HF8.out.trans F)
                  obtain ⟨g2, o2, e2, q0, q1, _⟩ := HP.out w' (HF8.out.trans F) k hkl
                  injection e2 with e2
                  injection e2 with e3 e4 _
                  subst e3 e4
                  exact ⟨⟨k2, q0, q1⟩, range_of' (HBX8.out.frm F (fun f => f))⟩
                dsimp only at HHA
                generalize fs[k] = p at HS19 HHA
                obtain ⟨pf, pm, pq, pv, pws⟩ := p
                dsimp only at HS19 HHA
                have hkl0 : (0 : Int) ≤ (k : Int) := by omega
                have hkl1 : (k : Int) < (fs.length : Int) := by omega
                go_upto_region 19 with fail
                refine wp_region_held_drew (S := fun w' => (w'.cell? ⟨b, 2, none⟩ = some (.slice (some ⟨fg, fo, none⟩) fs.length fc) ∧ w'.cell? ⟨fg, fo + k * 2, none⟩ = some (.pointer (some ⟨pf, 0, none⟩)) ∧ w'.cell? ⟨fg, fo + k * 2 + 1, none⟩ = some (.pointer (some ⟨pq, 0, none⟩))) ∧ w'.rangeAt n6 0 [.int .i64 id, .int .i64 fl, .int .i64 cl, .int .i64 mn, .int .i64 st, .int .i64 un]) (by kernel_rfl) (HS19.out _ (Frm.refl _ _).drew) (fun hHeld => ?_)
                iterate 7 ((first | refine ztn (v := ?_) (zo rfl) ?_ | refine ztz (v := ?_) (zo rfl) ?_); try simp only [Act.put, zT, zZ, zS])
                refine wpAnyH_take (i := 7) (v := .agg #[.int .i64 id, .int .i64 fl, .int .i64 cl, .int .i64 mn, .int .i64 st, .int .i64 un]) (zo rfl) (by kernel_rfl) (by kernel_rfl) (by kernel_rfl) (fun _ _ _ h => by first | exact h | cases h.1) (yieldsIf_load_mid (by rfl) 113 (.tmp 6) rfl n6 0 rfl [.int .i64 id, .int .i64 fl, .int .i64 cl, .int .i64 mn, .int .i64 st, .int .i64 un] _ (fun w' hS => hS.2) Tryz.underlying113 rfl (by kernel_rfl)) (by assumption) ?_
                try simp only [Act.put, zT, zZ, zS]
                refine zr1 8 (zo rfl) (fun K hK => ?_)
                go_simp
                refine (HHA.out V8.drew (Frm.refl _ _).drew).mono ?_
                rintro e w9 ⟨β9, rfl, f9⟩
                have HF9 : Hid (Fresh w w9) := zh ((HF8.out.drew).trans f9)
                have HF89 : Hid (Fresh V8 w9) := zh (((Frm.refl (fun _ => False) V8).drew).trans f9)
                clear f9
                refine hK.out _ _ (HS19.out _ HF89.out) (fun hHeld => ?_)
                clear hK K
                try simp only [Act.put, zT, zZ, zS]
                (refine ztn (v := ?_) (zo rfl) ?_; try simp only [Act.put, zT, zZ, zS])
                refine wpAnyH_done (by kernel_rfl) ?_ _
                cases β9 with
                | true =>
                  go_wp2_with fail
                  go_roundw
                  case rel => first | exact ⟨i + 1, by omega, by go_num, HF9.out⟩ | trace_state
                  case measure => simp [RowKit.intOf]; omega
                | false =>
                  go_wp2_with fail
                  exact bodyPost_ret (v := .bool false) (by simp [results, Tryz.results44, go_sem]) rfl ⟨false, rfl, HF9.out⟩
        · have hili : ¬ (i : Int) < (l.length : Int) := by omega
          rcases Bool.eq_false_or_eq_true (decide (th = (l.length : Int))) with d9 | d9
          all_goals
            go_wp2_with fail
            exact bodyPost_ret (v := .bool (th == (l.length : Int))) (by simp [results, Tryz.results44, go_sem]) rfl ⟨_, rfl, HFR.out⟩
end
end Go.Proofs.YtbeaoddjomdlcaaGreatDoor

/- Proved here, for the statement TopFairCardSaid: laws that its walk leans on. It holds with no condition. (Put together and shortened by a program out of many texts: To41, To39, To42, To52, To44.) -/
import Derived.Test.YtbeaoddjomdlcaaGreatDoorZ28
set_option linter.unusedVariables false
set_option linter.unusedSimpArgs false
set_option maxRecDepth 100000
set_option maxHeartbeats 64000000
namespace Go.Proofs.YtbeaoddjomdlcaaGreatDoor
section
open Go.RowKit
open QueueM (Wt)
theorem BookP.addP {w w' : World} {B : Nat} {b : BoM} (h : BookP w B b) {k : Int} (hn : b.P k = none) (x : PlM) (hp : PlP w' B k x) (hx : ∀ j, x.own j → ¬ b.own j) (hm : MapV w' b.fm (upd b.fv k (some x.val))) (F : Frm (fun j => j = b.fm) w w')
    (hf : ∃ ks : List Int, ks.length ≤ 8 ∧ ∀ j, (updP b.P k (some x) j).isSome = true → j ∈ ks) : BookP w' B { b with P := updP b.P k (some x) } := by
  have hfv : ({ b with P := updP b.P k (some x) } : BoM).fv = upd b.fv k (some x.val) := by
    unfold BoM.fv
    dsimp only
    rw [map_updP]
    rfl
  refine ⟨h.blk.frm F (fun s => h.fmv.not_cells h.blk s.symm), h.bb, h.bf, h.bk, h.ne, h.tw, h.nw, by rw [hfv]; exact hm, h.bmv.frm F (fun s => h.ne s.symm), ?_, ?_, ?_, h.bp, hf⟩
  · intro j z hz
    dsimp only at hz
    by_cases e : j = k
    · subst e
      rw [updP_same] at hz
      injection hz with hz
      subst hz
      exact ⟨hp, fun s => hx _ s (.inr (.inl rfl)), fun s => hx _ s (.inr (.inr (.inl rfl)))⟩
    · rw [updP_other _ _ e] at hz
      exact ⟨(h.pl j z hz).1.frm F (fun i hi s => (h.pl j z hz).2.1 (by subst s; exact hi)), (h.pl j z hz).2⟩
  · intro j z j' z' hz hz' hne i hi hi'
    dsimp only at hz hz'
    by_cases e : j = k
    · subst e
      rw [updP_same] at hz
      injection hz with hz
      subst hz
      rw [updP_other _ _ (fun e => hne e.symm)] at hz'
      exact hx i hi (.inr (.inr (.inr (.inl ⟨j', z', hz', hi'⟩))))
    · rw [updP_other _ _ e] at hz
      by_cases e' : j' = k
      · subst e'
        rw [updP_same] at hz'
        injection hz' with hz'
        subst hz'
        exact hx i hi' (.inr (.inr (.inr (.inl ⟨j, z, hz, hi⟩))))
      · rw [updP_other _ _ e'] at hz'
        exact h.ap j z j' z' hz hz' hne i hi hi'
  · intro i y hy
    obtain ⟨a1, a2, a3⟩ := h.bo i y hy
    refine ⟨a1.frm F (fun s => h.fmv.not_cells a1.blk s.symm), a2, ?_⟩
    dsimp only
    by_cases e : y.fl = k
    · rw [e, updP_same]; exact ⟨x, rfl⟩
    · rw [updP_other _ _ e]; exact a3
def FairB (b b' : BoM) : Prop := ∀ k, match b.P k, b'.P k with
  | some x, some x' => QueueM.Fair x.ws x'.ws
  | none, none => True
  | _, _ => False
theorem FairB.same {b b' : BoM} (h : ∀ k, (b.P k).map PlM.ws = (b'.P k).map PlM.ws) : FairB b b' := by
  intro k
  have hk := h k
  cases h1 : b.P k <;> cases h2 : b'.P k <;> rw [h1, h2] at hk
  · trivial
  · cases hk
  · cases hk
  · injection hk with hk
    dsimp only
    rw [hk]
    exact QueueM.Fair.refl _
def ActPost (w : World) (B : Nat) (b : BoM) (fair : Prop) (e : Ending) (w' : World) : Prop :=
  (∃ b', BStep w B b w' b' ∧ b'.wt ∧ (fair → FairB b b')) ∧ ((∃ zs, RepZ zs ∧ e = .returned (.agg zs.toArray)) ∨ ∃ k, e = .panicked (errT k))
theorem BookP.kbP {w : World} {B : Nat} {b : BoM} (h : BookP w B b) : KB b.fv := fun k hk => by
  unfold BoM.fv at hk
  cases hx : b.P k with
  | none => rw [hx] at hk; cases hk
  | some x => have := (h.pl k x hx).1.kb; omega
theorem BookP.kbK {w : World} {B : Nat} {b : BoM} (h : BookP w B b) : KB b.kv := fun k hk => by
  unfold BoM.kv at hk
  cases hx : b.K k with
  | none => rw [hx] at hk; cases hk
  | some y => have := (h.bo k y hx).1.kb; have := (h.bo k y hx).2.1; have := h.nw; omega
end
section
open Go.RowKit
structure CmA where
  kind : Int
  pnr : ByteArray
  fl : Int
  cl : Int
  mn : Int
  tm : Int
  sc : Nat
  lb : ByteArray
  rows : Int
  gs : List Int
  ps : List Nat
def cmcel (c : CmA) (GA : Option Addr) (gc : Nat) (PA : Option Addr) (pc : Nat) : List Value :=
  [.int .i64 c.kind, .string c.pnr, .int .i64 c.fl, .int .i64 c.cl, .int .i64 c.mn, .int .i64 c.tm, .float .f64 c.sc, .string c.lb, .int .i64 c.rows, .slice GA c.gs.length gc, .slice PA c.ps.length pc]
structure CmAL (w : World) (c : CmA) (GA : Option Addr) (gc : Nat) (PA : Option Addr) (pc : Nat) : Prop where
  g : Rd w w.heap.size GA (ivs c.gs)
  p : Rd w w.heap.size PA (c.ps.map fv)
  gl : c.gs.length ≤ gc
  gm : gc ≤ maxLen
  pl : c.ps.length ≤ pc
  pm : pc ≤ maxLen
  wf : wf64 c.kind ∧ wf64 c.fl ∧ wf64 c.cl ∧ wf64 c.mn ∧ wf64 c.tm ∧ wf64 c.rows
  sc : c.sc < 18446744073709551616
  ps : ∀ i, c.ps.getD i 0 < 18446744073709551616
  few : c.pnr.size ≤ 100 ∧ c.lb.size ≤ 100 ∧ c.gs.length ≤ 100 ∧ c.ps.length ≤ 100
theorem CmAL.fresh {w w' : World} {c : CmA} {GA : Option Addr} {gc : Nat} {PA : Option Addr} {pc : Nat} (h : CmAL w c GA gc PA pc) (F : Fresh w w') : CmAL w' c GA gc PA pc :=
  ⟨(h.g.fresh (Nat.le_refl _) F).more F.size, (h.p.fresh (Nat.le_refl _) F).more F.size, h.gl, h.gm, h.pl, h.pm, h.wf, h.sc, h.ps, h.few⟩
structure CmOk (c : CmA) : Prop where
  kind : 1 ≤ c.kind ∧ c.kind ≤ 9
  fl : 0 ≤ c.fl ∧ c.fl ≤ 9999
  cl : 0 ≤ c.cl ∧ c.cl ≤ 9999
  mn : 0 ≤ c.mn ∧ c.mn ≤ 9999
  rows : 0 ≤ c.rows ∧ c.rows ≤ 9999
  tm : 0 ≤ c.tm ∧ c.tm ≤ 1099511627776
  pnr : c.pnr.size ≤ 16
  lb : c.lb.size ≤ 16
  gs : small c.gs
  ps : c.ps.length ≤ 16
theorem oddA_any (x : Int) (w : World) : Calls Tryz.prog 20 #[.int .i64 x] w fun e w' => e = .returned (.bool (decide (x < 0) || decide (9999 < x))) ∧ w' = w := by
  by_cases h1 : x < 0
  · have d1 : decide (x < 0) = true := decide_eq_true h1
    have HV : Hid ((decide (x < 0) || decide (9999 < x)) = true) := zh (by rw [d1]; rfl)
    go_in
    go_wp2_with fail
    go_ret
    exact ⟨by first | rfl | (rw [HV.out]; rfl), rfl⟩
  · have d1 : decide (x < 0) = false := decide_eq_false h1
    by_cases h2 : 9999 < x
    · have d2 : decide (9999 < x) = true := decide_eq_true h2
      have HV : Hid ((decide (x < 0) || decide (9999 < x)) = true) := zh (by rw [d1, d2]; rfl)
      go_in
      go_wp2_with fail
      go_ret
      exact ⟨by first | rfl | (rw [HV.out]; rfl), rfl⟩
    · have d2 : decide (9999 < x) = false := decide_eq_false h2
      have HV : Hid ((decide (x < 0) || decide (9999 < x)) = false) := zh (by rw [d1, d2]; rfl)
      go_in
      go_wp2_with fail
      go_ret
      exact ⟨by first | rfl | (rw [HV.out]; rfl), rfl⟩
def RightAPost (w : World) (OK : Prop) (e : Ending) (w' : World) : Prop := ∃ β : Bool, e = .returned (.bool β) ∧ (β = true → OK) ∧ Fresh w w'
theorem pRight_all (w : World) (c : CmA) (GA : Option Addr) (gc : Nat) (PA : Option Addr) (pc : Nat) (hL : CmAL w c GA gc PA pc) :
    Calls Tryz.prog 10 #[.agg (cmcel c GA gc PA pc).toArray] w fun e w' => RightAPost w (CmOk c) e w' := by
  obtain ⟨i0, hi, hz0, hz1, hz2⟩ := info_parts info_int
  obtain ⟨cz, hcz⟩ : ∃ x, x = cmcel c GA gc PA pc := ⟨_, rfl⟩
  rw [← hcz]
  obtain ⟨W, hW⟩ : ∃ W, w.alloc (.cells cz.toArray 36) = W := ⟨_, rfl⟩
  have HFW : Hid (Fresh w W) := zh (by rw [← hW]; exact fresh_alloc _ _)
  have hb : Blk W w.heap.size 36 cz.toArray := by rw [← hW]; exact Blk.new _ _ _
  have HOK : Hid ((∀ x ∈ [c.fl, c.cl, c.mn, c.rows] ++ c.gs, 0 ≤ x ∧ x ≤ 9999) → c.pnr.size ≤ 16 ∧ c.lb.size ≤ 16 → c.gs.length ≤ 16 ∧ c.ps.length ≤ 16 → 1 ≤ c.kind → c.kind ≤ 9 → 0 ≤ c.tm → c.tm ≤ 1099511627776 → CmOk c) := zh fun h1 h2 h3 h4 h5 h6 h7 =>
    ⟨⟨h4, h5⟩, h1 _ (by simp), h1 _ (by simp), h1 _ (by simp), h1 _ (by simp), ⟨h6, h7⟩, h2.1, h2.2, ⟨h3.1, fun g hg => h1 g (List.mem_append_right _ hg)⟩, h3.2⟩
  generalize CmOk c = OK at HOK ⊢
  obtain ⟨kind, pnr, fl, cl, mn, tm, sc, lb, rows, gs, ps⟩ := c
  unfold cmcel at hcz
  dsimp only at hcz HOK
  have HFI : Hid (∀ w', Fresh W w' → w'.cell? ⟨w.heap.size, 0, none⟩ = some (.int .i64 kind) ∧ w'.cell? ⟨w.heap.size, 1, none⟩ = some (.string pnr) ∧ w'.cell? ⟨w.heap.size, 2, none⟩ = some (.int .i64 fl) ∧ w'.cell? ⟨w.heap.size, 3, none⟩ = some (.int .i64 cl) ∧ w'.cell? ⟨w.heap.size, 4, none⟩ = some (.int .i64 mn) ∧ w'.cell? ⟨w.heap.size, 5, none⟩ = some (.int .i64 tm) ∧ w'.cell? ⟨w.heap.size, 7, none⟩ = some (.string lb) ∧ w'.cell? ⟨w.heap.size, 8, none⟩ = some (.int .i64 rows) ∧ w'.cell? ⟨w.heap.size, 9, none⟩ = some (.slice GA gs.length gc) ∧ w'.cell? ⟨w.heap.size, 10, none⟩ = some (.slice PA ps.length pc)) := zh fun w' F => by
    have h := hb.frm F (fun f => f)
    rw [hcz] at h
    exact ⟨h.cell 0, h.cell 1, h.cell 2, h.cell 3, h.cell 4, h.cell 5, h.cell 7, h.cell 8, h.cell 9, h.cell 10⟩
  obtain ⟨y0, y1, y2, y3, y4, y5, y7, y8, y9, y10⟩ := HFI.out (W.alloc (.cells #[.int .i64 fl, .int .i64 cl, .int .i64 mn, .int .i64 rows] 3)) (fresh_alloc _ _)
  obtain ⟨z0, z1, z2, z3, z4, z5, z7, z8, z9, z10⟩ := HFI.out W (Frm.refl _ _)
  have HG : Hid (∀ w', Fresh w w' → Rd w' w'.heap.size GA (ivs gs)) := zh fun w' F => (hL.fresh F).g
  have hgl : gs.length ≤ 100 := hL.few.2.2.1
  have HFV : Hid (Fresh W (W.alloc (.cells #[.int .i64 fl, .int .i64 cl, .int .i64 mn, .int .i64 rows] 3))) := zh (fresh_alloc _ _)
  have HS4 : Hid (Sl (W.alloc (.cells #[.int .i64 fl, .int .i64 cl, .int .i64 mn, .int .i64 rows] 3)) W.heap.size 3 1 (.slice (some ⟨W.heap.size, 0, none⟩) 4 4) 4 [.int .i64 fl, .int .i64 cl, .int .i64 mn, .int .i64 rows]) := zh (by
    have := sl_new W W.heap.size [.int .i64 fl, .int .i64 cl, .int .i64 mn, .int .i64 rows] 3 (Nat.le_refl _) (by unfold maxLen; simp)
    exact this)
  have HRG : Hid (Rd (W.alloc (.cells #[.int .i64 fl, .int .i64 cl, .int .i64 mn, .int .i64 rows] 3)) (W.alloc (.cells #[.int .i64 fl, .int .i64 cl, .int .i64 mn, .int .i64 rows] 3)).heap.size GA (ivs gs)) := zh (HG.out _ (HFW.out.trans HFV.out))
  clear hcz hb hL
  go_in
  go_upto_region 2 with fail
  try rw [hW]
  clear hW
  go_wp2_with (at_builtin; refine wpList_append_sl _ rfl (.tmp 17) (.tmp 20) _ rfl W.heap.size 3 i0 _ 1 8 Tryz.underlying26 hi hz0 hz1 hz2 rfl (by omega) _ 4 _ rfl HS4.out _ GA gs.length gc (ivs gs) rfl (by simp [ivs]) HRG.out (iv_one _) (by unfold maxLen; omega) (by omega) HFV.out.size ?_; intro v1 V hs1 hf1 _; have HS1 := zh hs1; have HFA : Hid (Fresh W V) := zh (HFV.out.trans' hf1 (fun k hk e => by have := (HS4.out.lt _ e).1; omega)); obtain ⟨A1, c1, rfl, _⟩ := hs1.shape; clear hs1 hf1 y0 y1 y2 y3 y4 y5 y7 y8 y9 y10 z0 z1 z2 z3 z4 z5 z7 z8 z9 z10)
  obtain ⟨n, hn⟩ : ∃ n, 4 + gs.length = n := ⟨_, rfl⟩
  have HN := zh hn
  have hn20 : n ≤ 104 := by omega
  rw [hn] at HS1
  simp only [hn]
  clear hn
  go_loopw [23] (fun v23 wr => ∃ k : Nat, k ≤ n ∧ v23 = .int .i64 (k : Int) ∧ wr = V ∧ ∀ x ∈ ([fl, cl, mn, rows] ++ gs).take k, 0 ≤ x ∧ x ≤ 9999) (fun v23 _ => n - (RowKit.intOf v23).toNat)
  case atStart => exact ⟨0, by omega, rfl, rfl, by simp⟩
  case round =>
    obtain ⟨k, hk, rfl, hwr, hall⟩ := hrel
    replace hwr := hwr.symm
    subst hwr
    have hk0 : (0 : Int) ≤ (k : Int) := by omega
    have HALL := zh hall
    clear hall
    by_cases hlt : k < n
    · have hlti : (k : Int) < (n : Int) := by omega
      have d1 : decide ((k : Int) < (n : Int)) = true := decide_eq_true hlti
      have hlt2 : (k : Int) < 4 + (gs.length : Int) := by have := HN.out; omega
      have d2 : decide ((k : Int) < 4 + (gs.length : Int)) = true := decide_eq_true hlt2
      have hkl : k < ([fl, cl, mn, rows] ++ gs).length := by simp; have := HN.out; omega
      have hS : Rd V V.heap.size A1 (ivs ([fl, cl, mn, rows] ++ gs)) := by have := HS1.out.rd; unfold ivs at this ⊢; rw [List.map_append]; exact this
      obtain ⟨b, o, rfl, _, hx⟩ := hS.at_ (k := k) (by unfold ivs; simpa using hkl)
      unfold ivs at hx
      rw [List.getElem_map] at hx
      have HNX : Hid ((0 ≤ ([fl, cl, mn, rows] ++ gs)[k] ∧ ([fl, cl, mn, rows] ++ gs)[k] ≤ 9999) → ∀ x ∈ ([fl, cl, mn, rows] ++ gs).take (k + 1), 0 ≤ x ∧ x ≤ 9999) := zh fun hz x hx => by
        rw [List.take_succ_eq_append_getElem hkl] at hx
        rcases List.mem_append.1 hx with hx | hx
        · exact HALL.out x hx
        · rw [List.mem_singleton] at hx
          rw [hx]
          exact hz
      generalize ([fl, cl, mn, rows] ++ gs)[k] = x at hx HNX
      have HO := zh (fun w => oddA_any x w)
      clear hS hkl
      go_wp2_with fail
      refine (HO.out _).mono ?_
      rintro e w3 ⟨rfl, hw3⟩
      replace hw3 := hw3.symm
      subst hw3
      by_cases hodd : 0 ≤ x ∧ x ≤ 9999
      · have d5 : (decide (x < 0) || decide (9999 < x)) = false := by rw [decide_eq_false (show ¬ x < 0 by omega), decide_eq_false (show ¬ 9999 < x by omega)]; rfl
        have HN2 := zh (HNX.out hodd)
        rw [d5]
        clear hodd
        go_wp2_with fail
        go_roundw
        case rel => exact ⟨k + 1, by omega, by go_num, by first | rfl | trivial, HN2.out⟩
        case measure => simp [RowKit.intOf]; omega
      · have d5 : (decide (x < 0) || decide (9999 < x)) = true := by
          by_cases h0 : x < 0
          · rw [decide_eq_true h0]; rfl
          · rw [decide_eq_true (show 9999 < x by omega), Bool.or_true]
        rw [d5]
        clear hodd
        go_wp2_with fail
        go_ret
        exact ⟨false, rfl, (fun h => by cases h), HFW.out.trans HFA.out⟩
    · have hlti : ¬ (k : Int) < (n : Int) := by omega
      have d1 : decide ((k : Int) < (n : Int)) = false := decide_eq_false hlti
      have hlt2 : ¬ (k : Int) < 4 + (gs.length : Int) := by have := HN.out; omega
      have d2 : decide ((k : Int) < 4 + (gs.length : Int)) = false := decide_eq_false hlt2
      have HALL2 : Hid (∀ x ∈ [fl, cl, mn, rows] ++ gs, 0 ≤ x ∧ x ≤ 9999) := zh (by
        have := HALL.out
        rw [List.take_of_length_le (by simp; have := HN.out; omega)] at this
        exact this)
      obtain ⟨y0, y1, y2, y3, y4, y5, y7, y8, y9, y10⟩ := HFI.out V HFA.out
      clear HALL
      go_upto_region 8 with fail
      go_cut [6] from 6 (fun v6 wx => ∃ β, v6 = .bool β ∧ wx = V ∧ (β = true → pnr.size ≤ 16 ∧ lb.size ≤ 16))
      case first =>
        by_cases p1 : pnr.size ≤ 16
        · have e4 : decide (((pnr.size : Nat) : Int) ≤ 16) = true := decide_eq_true (by omega)
          have e4' : decide (pnr.size ≤ 16) = true := decide_eq_true p1
          by_cases p2 : lb.size ≤ 16
          · have e5 : decide (((lb.size : Nat) : Int) ≤ 16) = true := decide_eq_true (by omega)
            have e5' : decide (lb.size ≤ 16) = true := decide_eq_true p2
            go_wp2_with fail
            go_meet
            exact ⟨true, rfl, rfl, fun _ => ⟨p1, p2⟩⟩
          · have e5 : decide (((lb.size : Nat) : Int) ≤ 16) = false := decide_eq_false (by omega)
            have e5' : decide (lb.size ≤ 16) = false := decide_eq_false p2
            go_wp2_with fail
            go_meet
            exact ⟨false, rfl, rfl, fun h => by cases h⟩
        · have e4 : decide (((pnr.size : Nat) : Int) ≤ 16) = false := decide_eq_false (by omega)
          have e4' : decide (pnr.size ≤ 16) = false := decide_eq_false p1
          go_wp2_with fail
          go_meet
          exact ⟨false, rfl, rfl, fun h => by cases h⟩
      case rest =>
        obtain ⟨β, rfl, hwv, hβ⟩ := hcut
        replace hwv := hwv.symm
        subst hwv
        have HB := zh hβ
        clear hβ
        go_upto_region 9 with fail
        go_cut [6, 7] from 6 (fun v6 v7 wx => v6 = .bool β ∧ ∃ γ, v7 = .bool γ ∧ wx = V ∧ (γ = true → gs.length ≤ 16 ∧ ps.length ≤ 16))
        case first =>
          by_cases p1 : gs.length ≤ 16
          · have e4 : decide ((gs.length : Int) ≤ 16) = true := decide_eq_true (by omega)
            have e4' : decide (gs.length ≤ 16) = true := decide_eq_true p1
            by_cases p2 : ps.length ≤ 16
            · have e5 : decide ((ps.length : Int) ≤ 16) = true := decide_eq_true (by omega)
              have e5' : decide (ps.length ≤ 16) = true := decide_eq_true p2
              go_wp2_with fail
              go_meet
              exact ⟨rfl, true, rfl, rfl, fun _ => ⟨p1, p2⟩⟩
            · have e5 : decide ((ps.length : Int) ≤ 16) = false := decide_eq_false (by omega)
              have e5' : decide (ps.length ≤ 16) = false := decide_eq_false p2
              go_wp2_with fail
              go_meet
              exact ⟨rfl, false, rfl, rfl, fun h => by cases h⟩
          · have e4 : decide ((gs.length : Int) ≤ 16) = false := decide_eq_false (by omega)
            have e4' : decide (gs.length ≤ 16) = false := decide_eq_false p1
            go_wp2_with fail
            go_meet
            exact ⟨rfl, false, rfl, rfl, fun h => by cases h⟩
        case rest =>
          obtain ⟨rfl, γ, rfl, hwv, hγ⟩ := hcut
          replace hwv := hwv.symm
          subst hwv
          have HC := zh hγ
          clear hγ
          have HFF : Hid (Fresh w V) := zh (HFW.out.trans HFA.out)
          cases β with
          | false =>
            go_wp2_with fail
            go_ret
            exact ⟨false, rfl, (fun h => by cases h), HFF.out⟩
          | true =>
            cases γ with
            | false =>
              go_wp2_with fail
              go_ret
              exact ⟨false, rfl, (fun h => by cases h), HFF.out⟩
            | true =>
              by_cases q1 : 1 ≤ kind
              · have d1 : decide (1 ≤ kind) = true := decide_eq_true q1
                by_cases q2 : kind ≤ 9
                · have d2 : decide (kind ≤ 9) = true := decide_eq_true q2
                  by_cases q3 : 0 ≤ tm
                  · have d3 : decide (0 ≤ tm) = true := decide_eq_true q3
                    by_cases q4 : tm ≤ 1099511627776
                    · have d4 : decide (tm ≤ 1099511627776) = true := decide_eq_true q4
                      have HQ : Hid OK := zh (HOK.out HALL2.out (HB.out rfl) (HC.out rfl) q1 q2 q3 q4)
                      go_wp2_with fail
                      go_ret
                      exact ⟨true, rfl, fun _ => HQ.out, HFF.out⟩
                    · have d4 : decide (tm ≤ 1099511627776) = false := decide_eq_false q4
                      go_wp2_with fail
                      go_ret
                      exact ⟨false, rfl, (fun h => by cases h), HFF.out⟩
                  · have d3 : decide (0 ≤ tm) = false := decide_eq_false q3
                    go_wp2_with fail
                    go_ret
                    exact ⟨false, rfl, (fun h => by cases h), HFF.out⟩
                · have d2 : decide (kind ≤ 9) = false := decide_eq_false q2
                  go_wp2_with fail
                  go_ret
                  exact ⟨false, rfl, (fun h => by cases h), HFF.out⟩
              · have d1 : decide (1 ≤ kind) = false := decide_eq_false q1
                go_wp2_with fail
                go_ret
                exact ⟨false, rfl, (fun h => by cases h), HFF.out⟩
end
section
open Go.RowKit
open QueueM (Wt)
section
variable {w : World} {o : Oper} {a : Act} {K : Act → World → Prop} {Q : Exit → Act → World → Prop}
theorem wp_putV (mo x v : Operand) (t : TypeId) (hop : o.op = Op.mapUpdate t mo x v) {e : TypeId} (ht : Tryz.prog.underlying t = some (.map 3 e)) (b : Nat) (m : Int → Option Value)
    (hm : a.eval mo = .map (some b)) (h : MapV w b m) (hb : KB m) (k : Int) (val : Value) (hx : a.eval x = .int .i64 k) (hv : a.eval v = val) (hk : wf64 k)
    (hK : ∀ w', MapV w' b (upd m k (some val)) → Frm (fun j => j = b) w w' → K (a.put o.dst undef) w') : o.wp Tryz.prog a w K Q := by
  obtain ⟨w', hrun, r1, r2⟩ := h.put hb ht hk val
  unfold Oper.wp
  simp [execOp, hop, hm, hx, hv, hrun, Result.andThen]
  exact hK w' r1 r2
theorem wp_delV (mo x : Operand) (t : TypeId) (hop : o.op = Op.call { callee := Callee.builtin Builtin.delete, args := #[mo, x], argTypes := #[t, 3] }) {e : TypeId} (ht : Tryz.prog.underlying t = some (.map 3 e)) (b : Nat) (m : Int → Option Value)
    (hm : a.eval mo = .map (some b)) (h : MapV w b m) (k : Int) (hx : a.eval x = .int .i64 k) (hk : wf64 k)
    (hK : ∀ w', MapV w' b (upd m k none) → Frm (fun j => j = b) w w' → K (a.put o.dst (.tuple #[])) w') : o.wp Tryz.prog a w K Q := by
  obtain ⟨w', hrun, r1, r2⟩ := h.del ht hk o.type
  unfold Oper.wp
  simp [execOp, hop, resolve, invoke, builtin, hm, hx, hrun, Result.andThen]
  exact hK w' r1 r2
end
section
variable {w w' w2 : World} {B : Nat} {b b' : BoM}
theorem BookP.own_lt (h : BookP w B b) {j : Nat} (hj : b.own j) : j < w.heap.size := by
  rcases hj with rfl | rfl | rfl | ⟨k, x, hx, hj⟩ | ⟨k, y, hy, rfl⟩
  · exact h.blk.lt
  · exact h.fmv.lt
  · exact h.bmv.lt
  · exact ((h.pl k x hx).1.own_lt hj).2
  · exact (h.bo k y hy).1.blk.lt
theorem BStep.box (h : BStep w B b w' b') {g : Nat} {t : TypeId} {cs : Array Value} (hg : Blk w' g t cs) (hge : w.heap.size ≤ g)
    (ht : t ≠ 133 ∧ t ≠ 3 ∧ t ≠ 139 ∧ t ≠ 129 ∧ t ≠ 141) (h2 : t ≠ 45 ∧ t ≠ 84) (F : Frm (fun k => g = k) w' w2) : BStep w B b w2 b' := by
  have hn := h.bk.not_own hg ht h2
  refine ⟨h.bk.frm F (fun j hj e => hn (e ▸ hj)), h.e1, h.e2, h.e3, h.fr.trans' F (fun i hi e => ?_), h.ow⟩
  omega
theorem BStep.addP (h : BookP w B b) {k : Int} (hn : b.P k = none) (x : PlM) (hp : PlP w' B k x) (F0 : Fresh w w') (hx : ∀ j, x.own j → w.heap.size ≤ j) (hm : MapV w2 b.fm (upd b.fv k (some x.val))) (F : Frm (fun j => j = b.fm) w' w2)
    (hf : ∃ ks : List Int, ks.length ≤ 8 ∧ ∀ j, (updP b.P k (some x) j).isSome = true → j ∈ ks) : BStep w B b w2 { b with P := updP b.P k (some x) } := by
  refine ⟨(h.fresh F0).addP hn x (hp.frm F (fun j hj e => ?_)) (fun j hj ho => ?_) hm F hf, rfl, rfl, rfl, (Fresh.frm F0).trans' F (fun i _ e => .inr (.inl e)), fun j hj => ?_⟩
  · have := hx j hj
    have := h.fmv.lt
    omega
  · have := hx j hj
    have := h.own_lt ho
    omega
  · rcases own_updP hj with h1 | h1
    · exact .inl h1
    · exact .inr (hx j h1)
theorem few_add (h : BookP w B b) {k : Int} (x : PlM) {ks : List Int} (hk : ∀ j, j ∈ ks ↔ (b.fv j).isSome = true) (hl : ks.length < 8) : ∃ ks : List Int, ks.length ≤ 8 ∧ ∀ j, (updP b.P k (some x) j).isSome = true → j ∈ ks := by
  refine ⟨k :: ks, by simp; omega, fun j hj => ?_⟩
  by_cases e : j = k
  · exact e ▸ List.mem_cons_self ..
  · rw [updP_other _ _ e] at hj
    refine List.mem_cons_of_mem _ ((hk j).2 ?_)
    unfold BoM.fv
    rw [Option.isSome_map]
    exact hj
end
def CmC (w : World) (g : Nat) (c : CmA) (GA : Option Addr) (gc : Nat) (PA : Option Addr) (pc : Nat) : Prop :=
  w.cell? ⟨g, 0, none⟩ = some (.int .i64 c.kind) ∧ w.cell? ⟨g, 1, none⟩ = some (.string c.pnr) ∧ w.cell? ⟨g, 2, none⟩ = some (.int .i64 c.fl) ∧ w.cell? ⟨g, 3, none⟩ = some (.int .i64 c.cl) ∧ w.cell? ⟨g, 4, none⟩ = some (.int .i64 c.mn) ∧ w.cell? ⟨g, 5, none⟩ = some (.int .i64 c.tm) ∧ w.cell? ⟨g, 6, none⟩ = some (.float .f64 c.sc) ∧ w.cell? ⟨g, 7, none⟩ = some (.string c.lb) ∧ w.cell? ⟨g, 8, none⟩ = some (.int .i64 c.rows) ∧ w.cell? ⟨g, 9, none⟩ = some (.slice GA c.gs.length gc) ∧ w.cell? ⟨g, 10, none⟩ = some (.slice PA c.ps.length pc)
theorem cmC {w : World} {g : Nat} {c : CmA} {GA : Option Addr} {gc : Nat} {PA : Option Addr} {pc : Nat} (h : Blk w g 36 (cmcel c GA gc PA pc).toArray) : CmC w g c GA gc PA pc :=
  ⟨h.cell 0, h.cell 1, h.cell 2, h.cell 3, h.cell 4, h.cell 5, h.cell 6, h.cell 7, h.cell 8, h.cell 9, h.cell 10⟩
theorem ActPost.no {w w' : World} {B : Nat} {b : BoM} {fair : Prop} (h : BookP w B b) (hw : b.wt) (F : Fresh w w') (k : Int) : ActPost w B b fair (.panicked (errT k)) w' :=
  ⟨⟨b, BStep.refl h F, hw, fun _ => FairB.same (fun _ => rfl)⟩, .inr ⟨k, rfl⟩⟩
theorem ActPost.yes {w w' : World} {B : Nat} {b b' : BoM} {fair : Prop} (h : BStep w B b w' b') (hw : b'.wt) (hf : fair → FairB b b') {zs : List Value} (hz : RepZ zs) : ActPost w B b fair (.returned (.agg zs.toArray)) w' :=
  ⟨⟨b', h, hw, hf⟩, .inl ⟨zs, hz, rfl⟩⟩
theorem ActPost.pan {w w' : World} {B : Nat} {b b' : BoM} {fair : Prop} (h : BStep w B b w' b') (hw : b'.wt) (hf : fair → FairB b b') (k : Int) : ActPost w B b fair (.panicked (errT k)) w' :=
  ⟨⟨b', h, hw, hf⟩, .inr ⟨k, rfl⟩⟩
end
section
open Go.RowKit
open QueueM (Wt)
def b0M (n : Nat) : BoM := ⟨n + 2, n, n + 1, 0, 1, fun _ => none, fun _ => none⟩
def NewBPost (w : World) (e : Ending) (w' : World) : Prop := ∃ b : BoM, e = .returned (.pointer (some ⟨b.b, 0, none⟩)) ∧ BookP w' w.heap.size b ∧ b.wt ∧ Fresh w w' ∧ ∀ k, b.P k = none
theorem newB_any (w : World) : Calls Tryz.prog 4 #[] w fun e w' => NewBPost w e w' := by
  obtain ⟨W, hW⟩ : ∃ W, ((w.alloc (.map #[] 0)).alloc (.map #[] 0)).alloc (.cells #[.int .i64 0, .int .i64 1, .map (some w.heap.size), .map (some (w.heap.size + 1))] 45) = W := ⟨_, rfl⟩
  have HF : Hid (Fresh w W) := zh (by rw [← hW]; exact (((Frm.refl _ w).alloc _).alloc _).alloc _)
  have s1 : (w.alloc (.map #[] 0)).heap.size = w.heap.size + 1 := Array.size_push _
  have s2 : ((w.alloc (.map #[] 0)).alloc (.map #[] 0)).heap.size = w.heap.size + 2 := (Array.size_push _).trans (congrArg (· + 1) (Array.size_push _))
  have HB : Hid (BookP W w.heap.size (b0M w.heap.size)) := zh (by
    refine ⟨?_, by show w.heap.size ≤ w.heap.size + 2; omega, Nat.le_refl _, by show w.heap.size ≤ w.heap.size + 1; omega, by show w.heap.size ≠ w.heap.size + 1; omega, ⟨by show (0 : Int) ≤ 0; decide, by show (0 : Int) ≤ 1099511627776; decide⟩, ⟨by show (1 : Int) ≤ 1; decide, by show (1 : Int) ≤ 28629151; decide⟩, ?_, ?_, ?_, ?_, ?_, ?_, ⟨[], by simp, fun k hk => by cases hk⟩⟩
    · rw [← hW]
      have := Blk.new ((w.alloc (.map #[] 0)).alloc (.map #[] 0)) 45 #[.int .i64 0, .int .i64 1, .map (some w.heap.size), .map (some (w.heap.size + 1))]
      rw [s2] at this
      exact this
    · rw [← hW]
      exact (MapV.made w).fresh (((Frm.refl (fun _ => False) _).alloc _).alloc _)
    · rw [← hW]
      have := (MapV.made (w.alloc (.map #[] 0))).fresh ((Frm.refl (fun _ => False) _).alloc (.cells #[.int .i64 0, .int .i64 1, .map (some w.heap.size), .map (some (w.heap.size + 1))] 45))
      rw [s1] at this
      exact this
    · intro k x hx; cases hx
    · intro k x k' x' hx; cases hx
    · intro k y hy; cases hy
    · intro k y k' y' hy; cases hy)
  have hmm := @run_makeMap Tryz.prog
  go_in
  go_wp2_with fail
  try rw [hW]
  go_ret
  exact ⟨b0M w.heap.size, rfl, HB.out, (fun k x hx => by cases hx), HF.out, fun _ => rfl⟩
theorem leaves_congr {P : Program} {fn : Func} {t t' : Array Value} {R : Ending → World → Prop} (h : results fn t = results fn t') : ∀ (ds : List Deferred) (u : FrameMode) (w : World), Leaves P fn t R ds u w → Leaves P fn t' R ds u w
  | [], .returning, w, hl => by
    obtain ⟨v, h1, h2⟩ := hl
    exact ⟨v, by rw [← h]; exact h1, h2⟩
  | [], .panicking c, w, hl => hl
  | [], .run, w, hl => hl
  | d :: ds, u, w, hl => by
    obtain ⟨hu, fv, cap, f, args, h1, h2, h3⟩ := hl
    refine ⟨hu, fv, cap, f, args, h1, h2, h3.mono ?_⟩
    intro e u' w' he
    cases e with
    | returned v => exact leaves_congr h ds _ _ he
    | panicked c => exact leaves_congr h ds _ _ he
    | outgrown => exact he
theorem panic_put {fn : Func} (h : fn.results = #[.cell 4 29]) {R : Ending → World → Prop} {c : List PanicEntry} {a : Act} {d : Tmp} {v : Value} {w : World} (hd : d ≠ 4) (hq : bodyPostD Tryz.prog fn R (.panic c) (a.put (some d) v) w) : bodyPostD Tryz.prog fn R (.panic c) a w := by
  refine leaves_congr ?_ _ _ _ hq
  unfold results
  rw [h]
  have e : (a.put (some d) v).tmps[4]? = a.tmps[4]? := by
    show (a.tmps.setIfInBounds d v)[4]? = _
    exact Array.getElem?_setIfInBounds_ne hd
  simp [e]
theorem replyC_z (k : Int) : RepZ (replyC k).toList := ⟨rfl, by kernel_rfl⟩
theorem leave_no {fn : Func} {p : Tmp} (h : fn.results = #[.cell p 29]) {tmps : Array Value} {W : World} {g : Nat} {cs : Array Value} (hp : tmps.getD p undef = .pointer (some ⟨g, 0, none⟩)) (hb : Blk W g 29 cs) (hs : cs.size = 9) (k : Int) {R : Ending → World → Prop} (hR : ∀ w', Frm (fun j => j = g) W w' → R (.returned (.agg (replyC k))) w') :
    bodyPostD Tryz.prog fn R (.panic (errT k)) ⟨tmps, [{ target := .fn (.func 8) #[], args := #[.pointer (some ⟨g, 0, none⟩)] }]⟩ W := by
  refine leaves_cons (f := 8) (args := #[.pointer (some ⟨g, 0, none⟩)]) (by simp [errT]) (by simp [go_sem]) ?_
  refine (caught_panic g W k cs hs hb).mono ?_
  rintro e u' w' ⟨rfl, rfl, F, hb'⟩
  have hr := rep_ret h hp (zs := (replyC k).toList) hb' (replyC_z k)
  simp [Leaves, settle, errC]
  exact ⟨_, hr, hR w' F⟩
theorem leave_yes {fn : Func} {p : Tmp} (h : fn.results = #[.cell p 29]) {tmps : Array Value} {W : World} {g : Nat} {zs : List Value} (hp : tmps.getD p undef = .pointer (some ⟨g, 0, none⟩)) (hb : Blk W g 29 zs.toArray) (hz : RepZ zs) {R : Ending → World → Prop} (hR : R (.returned (.agg zs.toArray)) W) :
    bodyPostD Tryz.prog fn R .ret ⟨tmps, [{ target := .fn (.func 8) #[], args := #[.pointer (some ⟨g, 0, none⟩)] }]⟩ W := by
  refine leaves_cons (f := 8) (args := #[.pointer (some ⟨g, 0, none⟩)]) (by simp) (by simp [go_sem]) ?_
  refine (caught_idle g W).mono ?_
  rintro e u' w' ⟨rfl, rfl, rfl⟩
  have hr := rep_ret h hp hb hz
  simp [Leaves, settle]
  exact ⟨_, hr, hR⟩
end
section
open Go.RowKit
open QueueM (Wt)
section
variable {w w' w2 : World} {B : Nat} {b b' : BoM}
theorem BookP.nK (h : BookP w B b) : b.K b.nx = none := by
  cases hy : b.K b.nx with
  | none => rfl
  | some y => have := (h.bo _ y hy).2.1; omega
theorem BookP.addKN (h : BookP w B b) (y : BkM) (hy : BkP w' B b.nx y) (hp : ∀ i z, b.K i = some z → z.p ≠ y.p) (hfl : ∃ x, b.P y.fl = some x) (hn : b.nx < 28629151) (hm : MapV w' b.bm (upd b.kv b.nx (some y.ptr))) (F : Frm (fun j => j = b.bm) w w') :
    BookP (w'.setCell ⟨b.b, 1, none⟩ (.int .i64 (b.nx + 1))) B { b with K := updP b.K b.nx (some y), nx := b.nx + 1 } ∧ Frm (fun j => j = b.bm ∨ j = b.b) w (w'.setCell ⟨b.b, 1, none⟩ (.int .i64 (b.nx + 1))) := by
  have hk := h.nK
  have hkv : ({ b with K := updP b.K b.nx (some y), nx := b.nx + 1 } : BoM).kv = upd b.kv b.nx (some y.ptr) := by
    unfold BoM.kv
    dsimp only
    rw [map_updP]
    rfl
  have G : Frm (fun j => j = b.b) w' (w'.setCell ⟨b.b, 1, none⟩ (.int .i64 (b.nx + 1))) := (Frm.refl (fun j => j = b.b) w').setCell (p := ⟨b.b, 1, none⟩) (fun _ => rfl) _
  have F2 : Frm (fun j => j = b.bm ∨ j = b.b) w (w'.setCell ⟨b.b, 1, none⟩ (.int .i64 (b.nx + 1))) := (F.mono (fun i _ e => .inl e)).trans' G (fun i _ e => .inr e)
  have hbm : b.bm ≠ b.b := h.bmv.not_cells h.blk
  have hn0 := h.nw
  refine ⟨⟨(h.blk.frm F (fun s => hbm s.symm)).set 1 _, h.bb, h.bf, h.bk, h.ne, h.tw, ⟨by dsimp only; omega, by dsimp only; omega⟩, h.fmv.frm F2 (fun e => ?_), by rw [hkv]; exact hm.frm G hbm, ?_, h.ap, ?_, ?_, h.few⟩, F2⟩
  · rcases e with e | e
    · exact h.ne e
    · exact h.fmv.not_cells h.blk e
  · intro k1 x1 h1
    exact ⟨(h.pl k1 x1 h1).1.frm F2 (fun j hj e => by
      rcases e with e | e
      · exact (h.pl k1 x1 h1).2.2 (e ▸ hj)
      · exact h.notB h1 (e ▸ hj)), (h.pl k1 x1 h1).2⟩
  · intro i z hz
    dsimp only at hz
    by_cases e : i = b.nx
    · subst e
      rw [updP_same] at hz
      injection hz with hz
      subst hz
      exact ⟨hy.frm G (hy.blk.apart (h.blk.frm F (fun s => hbm s.symm)) (by decide)), by dsimp only; omega, hfl⟩
    · rw [updP_other _ _ e] at hz
      obtain ⟨a1, a2, a3⟩ := h.bo i z hz
      refine ⟨a1.frm F2 (fun e => ?_), by dsimp only; omega, a3⟩
      rcases e with e | e
      · exact h.bmv.not_cells a1.blk e.symm
      · exact a1.blk.apart h.blk (by decide) e
  · intro i z i' z' hz hz' hne
    dsimp only at hz hz'
    by_cases e : i = b.nx
    · subst e
      rw [updP_same] at hz
      injection hz with hz
      subst hz
      rw [updP_other _ _ (fun e => hne e.symm)] at hz'
      exact fun s => hp i' z' hz' s.symm
    · rw [updP_other _ _ e] at hz
      by_cases e' : i' = b.nx
      · subst e'
        rw [updP_same] at hz'
        injection hz' with hz'
        subst hz'
        exact hp i z hz
      · rw [updP_other _ _ e'] at hz'
        exact h.bp i z i' z' hz hz' hne
theorem BStep.addKN (h : BStep w B b w' b') (y : BkM) {w2 : World} (hy : BkP w2 B b'.nx y) (hge : w.heap.size ≤ y.p) (hp : ∀ i z, b'.K i = some z → z.p ≠ y.p) (hfl : ∃ x, b'.P y.fl = some x) (hn : b'.nx < 28629151) (hm : MapV w2 b'.bm (upd b'.kv b'.nx (some y.ptr))) (F : Frm (fun j => j = b'.bm) w' w2) :
    BStep w B b (w2.setCell ⟨b'.b, 1, none⟩ (.int .i64 (b'.nx + 1))) { b' with K := updP b'.K b'.nx (some y), nx := b'.nx + 1 } := by
  obtain ⟨h1, h2⟩ := h.bk.addKN y hy hp hfl hn hm F
  refine ⟨h1, h.e1, h.e2, h.e3, h.fr.trans' h2 (fun i hi e => ?_), fun j hj => ?_⟩
  · have ho : b'.own i := by
      rcases e with e | e
      · exact .inr (.inr (.inl e))
      · exact .inl e
    rcases h.ow i ho with h3 | h3
    · exact h3
    · omega
  · rcases hj with e | e | e | e | ⟨i, z, hz, e⟩
    · exact h.ow j (.inl e)
    · exact h.ow j (.inr (.inl e))
    · exact h.ow j (.inr (.inr (.inl e)))
    · exact h.ow j (.inr (.inr (.inr (.inl e))))
    · dsimp only at hz
      by_cases ei : i = b'.nx
      · subst ei
        rw [updP_same] at hz
        injection hz with hz
        subst hz
        exact .inr (by omega)
      · rw [updP_other _ _ ei] at hz
        exact h.ow j (.inr (.inr (.inr (.inr ⟨i, z, hz, e⟩))))
theorem BoM.wt_P (hw : b.wt) {k : Int} {x x' : PlM} (hx : b.P k = some x) (hs : x'.ws = x.ws) : ({ b with P := updP b.P k (some x') } : BoM).wt := by
  intro j z hz u hu
  dsimp only at hz
  by_cases e : j = k
  · subst e
    rw [updP_same] at hz
    injection hz with hz
    subst hz
    rw [hs] at hu
    exact hw j x hx u hu
  · rw [updP_other _ _ e] at hz
    exact hw j z hz u hu
theorem BoM.wt_K (hw : b.wt) {n m : Int} (hn : b.K n = none) (y : BkM) : ({ b with K := updP b.K n (some y), nx := m } : BoM).wt := by
  intro j z hz u hu
  obtain ⟨y', h1, h2, h3⟩ := hw j z hz u hu
  refine ⟨y', ?_, h2, h3⟩
  dsimp only
  rw [updP_other _ _ (fun e => by rw [e, hn] at h1; cases h1)]
  exact h1
theorem BoM.wt_wait (hw : b.wt) {k : Int} {x x' : PlM} (hx : b.P k = some x) {n m : Int} (hn : b.K n = none) (hs : ∀ v ∈ x'.ws, v ∈ x.ws ∨ v.id = n) (y : BkM) (hf : y.fl = k) (hy : y.st = 3) :
    ({ b with P := updP b.P k (some x'), K := updP b.K n (some y), nx := m } : BoM).wt := by
  intro j z hz u hu
  dsimp only at hz ⊢
  have old : ∀ x0, b.P j = some x0 → u ∈ x0.ws → ∃ y', updP b.K n (some y) u.id = some y' ∧ y'.fl = j ∧ y'.st = 3 := fun x0 h0 hu0 => by
    obtain ⟨y', h1, h2, h3⟩ := hw j x0 h0 u hu0
    exact ⟨y', by rw [updP_other _ _ (fun e => by rw [e, hn] at h1; cases h1)]; exact h1, h2, h3⟩
  by_cases e : j = k
  · subst e
    rw [updP_same] at hz
    injection hz with hz
    subst hz
    rcases hs u hu with h1 | h1
    · exact old x hx h1
    · exact ⟨y, by rw [h1, updP_same], hf, hy⟩
  · rw [updP_other _ _ e] at hz
    exact old z hz hu
theorem FairB.of_P {k : Int} {x x' : PlM} (hx : b.P k = some x) (hs : x'.ws = x.ws) {b' : BoM} (hb : b'.P = updP b.P k (some x')) : FairB b b' := FairB.same fun j => by
  rw [hb]
  by_cases e : j = k
  · subst e
    rw [updP_same, hx, Option.map_some, Option.map_some, hs]
  · rw [updP_other _ _ e]
end
theorem mem_add {u : Wt} {l : List Wt} {v : Wt} (h : v ∈ (QueueM.add u l).2) : v ∈ l ∨ v = u := by
  unfold QueueM.add at h
  split at h
  · split at h
    · exact .inl h
    · split at h
      · exact .inl h
      · unfold QueueM.ins at h
        rcases List.mem_append.1 h with h | h
        · exact .inl (List.mem_of_mem_take h)
        · rcases List.mem_cons.1 h with h | h
          · exact .inr h
          · exact .inl (List.mem_of_mem_drop h)
  · exact .inl h
theorem add_words {u : Wt} {l : List Wt} (h : Words l) (hu : u.score < 18446744073709551616) : Words (QueueM.add u l).2 := fun v hv => by
  rcases mem_add hv with h1 | h1
  · exact h v h1
  · rw [h1]; exact hu
theorem add_same {u : Wt} {l : List Wt} (h : (QueueM.add u l).1 ≠ 0) : (QueueM.add u l).2 = l := by
  unfold QueueM.add at h ⊢
  split
  · split
    · rfl
    · split
      · rfl
      · rename_i h1 h2 h3
        rw [if_pos h1, if_neg h2, if_neg h3] at h
        exact absurd rfl h
  · rfl
structure AskB (w : World) (n : Nat) (c : CmA) (GA : Option Addr) (gc : Nat) (PA : Option Addr) (pc : Nat) (gp f q p : Nat) (ys : Array Value) : Prop where
  c : Blk w n 36 (cmcel c GA gc PA pc).toArray
  r : Blk w (n + 1) 29 (replyC 0)
  pl : Blk w gp 75 #[.pointer (some ⟨f, 0, none⟩), .pointer (some ⟨q, 0, none⟩)]
  y : Blk w p 84 ys
  h1 : n ≤ gp
  h2 : n ≤ p
theorem AskB.frm {w w' : World} {n : Nat} {c : CmA} {GA : Option Addr} {gc : Nat} {PA : Option Addr} {pc : Nat} {gp f q p : Nat} {ys : Array Value} (h : AskB w n c GA gc PA pc gp f q p ys) {S : Nat → Prop} (F : Frm S w w') (hS : ∀ j, n ≤ j → ¬ S j) : AskB w' n c GA gc PA pc gp f q p ys :=
  ⟨h.c.frm F (hS _ (Nat.le_refl _)), h.r.frm F (hS _ (Nat.le_succ _)), h.pl.frm F (hS _ h.h1), h.y.frm F (hS _ h.h2), h.h1, h.h2⟩
theorem AskB.fresh {w w' : World} {n : Nat} {c : CmA} {GA : Option Addr} {gc : Nat} {PA : Option Addr} {pc : Nat} {gp f q p : Nat} {ys : Array Value} (h : AskB w n c GA gc PA pc gp f q p ys) (F : Fresh w w') : AskB w' n c GA gc PA pc gp f q p ys :=
  h.frm F (fun _ _ f => f)
theorem AskB.wait {w : World} {n : Nat} {c : CmA} {GA : Option Addr} {gc : Nat} {PA : Option Addr} {pc : Nat} {gp f q p : Nat} {a0 a1 a2 a3 a4 a5 : Value} (h : AskB w n c GA gc PA pc gp f q p #[a0, a1, a2, a3, a4, a5]) (v4 v5 : Value) :
    AskB ((w.setCell ⟨p, 4, none⟩ v4).setCell ⟨p, 5, none⟩ v5) n c GA gc PA pc gp f q p #[a0, a1, a2, a3, v4, v5] ∧ Frm (fun j => j = p) w ((w.setCell ⟨p, 4, none⟩ v4).setCell ⟨p, 5, none⟩ v5) := by
  have F : Frm (fun j => j = p) w ((w.setCell ⟨p, 4, none⟩ v4).setCell ⟨p, 5, none⟩ v5) := ((Frm.refl (fun j => j = p) w).setCell (p := ⟨p, 4, none⟩) (fun _ => rfl) _).setCell (p := ⟨p, 5, none⟩) (fun _ => rfl) _
  exact ⟨⟨h.c.frm F (h.c.apart h.y (by decide)), h.r.frm F (h.r.apart h.y (by decide)), h.pl.frm F (h.pl.apart h.y (by decide)), (h.y.set 4 v4).set 5 v5, h.h1, h.h2⟩, F⟩
end
end Go.Proofs.YtbeaoddjomdlcaaGreatDoor

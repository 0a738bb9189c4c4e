/- Co6, Co7. (Put together by mg.py.) -/
import Derived.Test.YtlceembcehokoaaCb
import Derived.Test.YtlceembcehokoaaCa
namespace Go.Proofs.Ytlceembcehokoaa
open Go.RowKit
set_option linter.unusedVariables false
set_option maxRecDepth 100000

structure En where
  i : Int
  t : Int
  k : Int
  A : Option Addr
  c : Nat
  d : List UInt8
def ecells (e : En) : List Value := [.int .i64 e.i, .int .i64 e.t, .int .i64 e.k, .slice e.A e.d.length e.c]
theorem ecells_len (l : List En) : (l.flatMap ecells).length = l.length * 4 := flatMap_len l (fun _ _ => rfl)
theorem ecells_get : ∀ (l : List En) (i : Nat) (h : i < l.length) (j : Nat), j < 4 → (l.flatMap ecells)[i * 4 + j]? = (ecells l[i])[j]?
  | x :: l, 0, _, j, hj => by
    rw [List.flatMap_cons, Nat.zero_mul, Nat.zero_add, List.getElem?_append_left (by exact hj)]
    rfl
  | x :: l, i + 1, h, j, hj => by
    rw [List.flatMap_cons, List.getElem?_append_right (by show 4 ≤ _; omega), show (ecells x).length = 4 from rfl, show (i + 1) * 4 + j - 4 = i * 4 + j by omega]
    exact ecells_get l i (by simpa using h) j hj
def Four (w : World) (b o : Nat) (e : En) : Prop :=
  w.cell? ⟨b, o, none⟩ = some (.int .i64 e.i) ∧ w.cell? ⟨b, o + 1, none⟩ = some (.int .i64 e.t) ∧ w.cell? ⟨b, o + 2, none⟩ = some (.int .i64 e.k) ∧ w.cell? ⟨b, o + 3, none⟩ = some (.slice e.A e.d.length e.c)
theorem four_at {w : World} {B : Nat} {A : Option Addr} {l : List En} (h : Rd w B A (l.flatMap ecells)) {i : Nat} (hi : i < l.length) :
    ∃ b o, A = some ⟨b, o, none⟩ ∧ b < B ∧ Four w b (o + i * 4) l[i] := by
  have hne : l.flatMap ecells ≠ [] := fun e => by
    have := ecells_len l
    rw [e] at this
    simp at this
    omega
  obtain ⟨b, o, hA, hb, hc⟩ := h hne
  have g := fun j (hj : j < 4) => ecells_get l i hi j hj
  refine ⟨b, o, hA, hb, ?_, ?_, ?_, ?_⟩
  · exact hc _ _ (g 0 (by omega))
  · rw [Nat.add_assoc]; exact hc _ _ (g 1 (by omega))
  · rw [Nat.add_assoc]; exact hc _ _ (g 2 (by omega))
  · rw [Nat.add_assoc]; exact hc _ _ (g 3 (by omega))
structure MsgM where
  kd : Int
  fr : Int
  to : Int
  tm : Int
  ix : Int
  lt : Int
  ys : Bool
  cm : Int
  hn : Int
  rd : Int
  AE : Option Addr
  ce : Nat
  es : List En
  si : Int
  st : Int
  AV : Option Addr
  cv : Nat
  vs : List Int
  AL : Option Addr
  cl : Nat
  ls : List Int
  AD : Option Addr
  cd : Nat
  ds : List UInt8
def mcells (m : MsgM) : Array Value := #[.int .i64 m.kd, .int .i64 m.fr, .int .i64 m.to, .int .i64 m.tm, .int .i64 m.ix, .int .i64 m.lt, .bool m.ys, .int .i64 m.cm, .int .i64 m.hn, .int .i64 m.rd, .slice m.AE m.es.length m.ce, .int .i64 m.si, .int .i64 m.st, .slice m.AV m.vs.length m.cv, .slice m.AL m.ls.length m.cl, .slice m.AD m.ds.length m.cd]
structure RdM (w : World) (m : MsgM) : Prop where
  re : Rd w w.heap.size m.AE (m.es.flatMap ecells)
  rd : ∀ e ∈ m.es, Rd w w.heap.size e.A (e.d.map bv)
  sn : RdS w m.AV m.AL m.AD m.vs m.ls m.ds
  el : m.es.length ≤ 1000
  dl : ∀ e ∈ m.es, e.d.length ≤ 100000
theorem RdM.fresh {w w' : World} {m : MsgM} (h : RdM w m) (K : Fresh w w') : RdM w' m :=
  ⟨(h.re.fresh (Nat.le_refl _) K).more K.size, fun e he => ((h.rd e he).fresh (Nat.le_refl _) K).more K.size, h.sn.fresh K, h.el, h.dl⟩
def allE (es : List En) : Bool := decide (∀ e ∈ es, rightE e.i e.t e.k e.d.length = true)
theorem allE_take_no {es : List En} {i : Nat} (h : i < es.length) (hn : ∀ e ∈ es.take i, rightE e.i e.t e.k e.d.length = true) (hx : rightE es[i].i es[i].t es[i].k es[i].d.length = true) : ∀ e ∈ es.take (i + 1), rightE e.i e.t e.k e.d.length = true := by
  rw [List.take_succ_eq_append_getElem h]
  intro v hm
  rcases List.mem_append.1 hm with hm | hm
  · exact hn v hm
  · rw [List.mem_singleton] at hm
    rw [hm]
    exact hx
theorem allE_no {es : List En} {x : En} (h : x ∈ es) (hx : rightE x.i x.t x.k x.d.length = false) : allE es = false := by
  unfold allE
  refine decide_eq_false (fun e => ?_)
  rw [e x h] at hx
  cases hx
set_option maxHeartbeats 2000000 in
theorem indexFuncE_any (w : World) (A : Option Addr) (cap : Nat) (es : List En) (hA : Rd w w.heap.size A (es.flatMap ecells)) (hl : es.length ≤ 100000) :
    Calls Try.prog 102 #[.slice A es.length cap, .func (.func 74) #[] #[]] w fun e w' => (∃ k : Int, e = .returned (.int .i64 k) ∧ IdxP k (!allE es)) ∧ Fresh w w' := by
  have HA := Lib.hid hA
  clear hA
  go_enter Try.func102, Try.ntmps102
  go_wp2_with fail
  go_loopw [8] (fun v8 wr => ∃ (i : Nat), i ≤ es.length ∧ v8 = .int .i64 (i : Int) ∧ (∀ e ∈ es.take i, rightE e.i e.t e.k e.d.length = true) ∧ Fresh w wr) (fun v8 _ => es.length - (intOf v8).toNat)
  case atStart => exact ⟨0, by omega, rfl, fun v hv => by simp at hv, Frm.refl _ _⟩
  case round =>
    obtain ⟨i, hi, rfl, hno, hf⟩ := hrel
    have hi0 : (0 : Int) ≤ (i : Int) := by omega
    have HNO := Lib.hid hno
    have HF := Lib.hid hf
    clear hno hf
    by_cases hlt : i < es.length
    · have hlti : (i : Int) < (es.length : Int) := by omega
      obtain ⟨b, o, rfl, _, c0, c1, c2, c3⟩ := four_at (HA.out.fresh (Nat.le_refl _) HF.out) hlt
      have HM := Lib.hid (List.getElem_mem hlt)
      have HST := Lib.hid (allE_take_no hlt HNO.out)
      generalize es[i] = x at c0 c1 c2 c3 HM HST
      have HASK := Lib.hid (oddE_any wr x.i x.t x.k x.A x.d.length x.c)
      cases hx : rightE x.i x.t x.k x.d.length with
      | false =>
        have HX := Lib.hid (allE_no HM.out hx)
        rw [hx] at HASK
        clear hx
        go_wp2_with fail
        refine HASK.out.mono ?_
        rintro e w' ⟨rfl, f⟩
        have HF2 := Lib.hid (HF.out.trans f)
        clear f
        go_wp2_with fail
        go_ret
        exact ⟨⟨_, rfl, by unfold IdxP; rw [HX.out, decide_eq_true hi0]; rfl⟩, HF2.out⟩
      | true =>
        have HX := Lib.hid hx
        rw [hx] at HASK
        clear hx
        go_wp2_with fail
        refine HASK.out.mono ?_
        rintro e w' ⟨rfl, f⟩
        have HF2 := Lib.hid (HF.out.trans f)
        clear f
        go_wp2_with fail
        go_roundw
        case rel => exact ⟨i + 1, by omega, by go_num, HST.out HX.out, HF2.out⟩
        case measure => simp [intOf]; omega
    · have hlti : ¬ (i : Int) < (es.length : Int) := by omega
      go_wp2_with fail
      go_ret
      exact ⟨⟨_, rfl, by
        have hall : allE es = true := by
          unfold allE
          refine decide_eq_true ?_
          have := HNO.out
          rwa [List.take_of_length_le (by omega)] at this
        unfold IdxP
        rw [hall]
        decide⟩, HF.out⟩
theorem containsFuncE_any (w : World) (A : Option Addr) (cap : Nat) (es : List En) (hA : Rd w w.heap.size A (es.flatMap ecells)) (hl : es.length ≤ 100000) :
    Calls Try.prog 75 #[.slice A es.length cap, .func (.func 74) #[] #[]] w fun e w' => e = .returned (.bool (!allE es)) ∧ Fresh w w' := by
  have HI := Lib.hid (indexFuncE_any w A cap es hA hl)
  clear hA
  go_enter Try.func75, Try.ntmps75
  go_wp2_with fail
  refine HI.out.mono ?_
  rintro e w' ⟨⟨k, rfl, hk⟩, f⟩
  have HK := Lib.hid (show decide (0 ≤ k) = _ from hk)
  have HF := Lib.hid f
  clear hk f
  go_wp2_with fail
  go_ret
  exact ⟨ret_b HK.out, HF.out⟩
/-! ### Which may be -/
def okN (x : Int) : Prop := 0 ≤ x ∧ x ≤ 1099511627776
instance (x : Int) : Decidable (okN x) := by unfold okN; infer_instance
def num4 (m : MsgM) : Bool := decide (okN m.tm ∧ okN m.lt ∧ okN m.cm ∧ okN m.rd)
def sgnB (m : MsgM) : Bool := decide ((-1099511627776 ≤ m.ix ∧ m.ix ≤ 1099511627776) ∧ (-1099511627776 ≤ m.hn ∧ m.hn ≤ 1099511627776))
def entB (m : MsgM) : Bool := decide (m.es.length = 0 ∨ (m.kd = 5 ∧ m.es.length ≤ 8 ∧ allE m.es = true))
theorem ent_off {m : MsgM} (h0 : ¬ (m.es.length : Int) = 0) (h : ¬ m.kd = 5 ∨ ¬ m.es.length ≤ 8 ∨ allE m.es = false) : entB m = false := by
  refine decide_eq_false ?_
  rintro (k | ⟨k1, k2, k3⟩)
  · omega
  · rcases h with h | h | h
    · exact h k1
    · exact h k2
    · rw [k3] at h
      cases h
def nodB (m : MsgM) : Bool := decide ((1 ≤ m.kd ∧ m.kd ≤ 10) ∧ (1 ≤ m.fr ∧ m.fr ≤ 15) ∧ (1 ≤ m.to ∧ m.to ≤ 15) ∧ m.fr ≠ m.to)
def empB (m : MsgM) : Bool := emptyS m.si m.st m.vs m.ls m.ds
def rightP (m : MsgM) : Bool := num4 m && (sgnB m && (entB m && (nodB m && (empB m || decide (m.kd = 9)))))
theorem rightP_num {m : MsgM} (h : num4 m = false) : rightP m = false := by unfold rightP; rw [h]; rfl
def n4 (m : MsgM) (j : Nat) : Int := if j = 0 then m.tm else if j = 1 then m.lt else if j = 2 then m.cm else m.rd
theorem num4_no {m : MsgM} {j : Nat} (hj : j < 4) (h : ¬ okN (n4 m j)) : num4 m = false := by
  refine decide_eq_false (fun e => h ?_)
  have : j = 0 ∨ j = 1 ∨ j = 2 ∨ j = 3 := by omega
  rcases this with rfl | rfl | rfl | rfl
  · exact e.1
  · exact e.2.1
  · exact e.2.2.1
  · exact e.2.2.2
theorem num4_yes {m : MsgM} (h : ∀ j, j < 4 → okN (n4 m j)) : num4 m = true :=
  decide_eq_true ⟨h 0 (by omega), h 1 (by omega), h 2 (by omega), h 3 (by omega)⟩

theorem rightP_sgn {m : MsgM} (h : sgnB m = false) : rightP m = false := by unfold rightP; rw [h, Bool.false_and, Bool.and_false]
theorem rightP_ent {m : MsgM} (h : entB m = false) : rightP m = false := by unfold rightP; rw [h, Bool.false_and, Bool.and_false, Bool.and_false]
theorem rightP_nod {m : MsgM} (h : nodB m = false) : rightP m = false := by unfold rightP; rw [h, Bool.false_and, Bool.and_false, Bool.and_false, Bool.and_false]
theorem node_yes2 (n : Int) (h : 1 ≤ n ∧ n ≤ 15) (w : World) : Calls Try.prog 67 #[.int .i64 n] w fun e w' => e = .returned (.bool true) ∧ w' = w := by
  have := node_any n w
  rwa [decide_eq_true h.1, decide_eq_true h.2] at this
theorem node_no2 (n : Int) (h : ¬ (1 ≤ n ∧ n ≤ 15)) (w : World) : Calls Try.prog 67 #[.int .i64 n] w fun e w' => e = .returned (.bool false) ∧ w' = w := by
  have := node_any n w
  rwa [show (decide (1 ≤ n) && decide (n ≤ 15)) = false by
    rw [← Bool.not_eq_true, Bool.and_eq_true, decide_eq_true_eq, decide_eq_true_eq]
    exact h] at this
set_option maxHeartbeats 16000000 in
theorem right_any (w : World) (m : MsgM) (h : RdM w m) : Calls Try.prog 33 #[.agg (mcells m)] w fun e w' => e = .returned (.bool (rightP m)) ∧ Fresh w w' := by
  obtain ⟨W0, hW0⟩ : ∃ W0, (w.alloc (.cells (mcells m) 30)).alloc (.cells #[.int .i64 m.tm, .int .i64 m.lt, .int .i64 m.cm, .int .i64 m.rd] 3) = W0 := ⟨_, rfl⟩
  have HF0 : Hid (Fresh w W0) := Lib.hid (by rw [← hW0]; exact ((Frm.refl _ w).alloc _).alloc _)
  have BX : Hid (Blk W0 w.heap.size 30 (mcells m)) := Lib.hid (by rw [← hW0]; exact (Blk.new w _ _).alloc _)
  have BS : Hid (Blk W0 (w.heap.size + 1) 3 #[.int .i64 m.tm, .int .i64 m.lt, .int .i64 m.cm, .int .i64 m.rd]) := Lib.hid (by
    rw [← hW0]
    have := Blk.new (w.alloc (.cells (mcells m) 30)) 3 #[.int .i64 m.tm, .int .i64 m.lt, .int .i64 m.cm, .int .i64 m.rd]
    rwa [World.size_alloc] at this)
  have HH := Lib.hid h
  unfold mcells at hW0 BX ⊢
  clear h
  go_enter Try.func33, Try.ntmps33
  go_wp2_with fail
  try rw [hW0]
  clear hW0
  go_loopw [18] (fun v18 wr => ∃ i : Nat, i ≤ 4 ∧ v18 = .int .i64 (i : Int) ∧ (∀ j, j < i → okN (n4 m j)) ∧ wr = W0) (fun v18 _ => 4 - (intOf v18).toNat)
  case atStart => exact ⟨0, by omega, rfl, fun j hj => by omega, rfl⟩
  case round =>
    obtain ⟨i, hi4, rfl, hall, hwr⟩ := hrel
    rw [hwr]
    clear hwr
    have hi0 : (0 : Int) ≤ (i : Int) := by omega
    have HALL := Lib.hid hall
    clear hall
    by_cases hlt : i < 4
    · have hlti : (i : Int) < 4 := by omega
      have hc : W0.cell? ⟨w.heap.size + 1, i, none⟩ = some (.int .i64 (n4 m i)) := by
        have hc := BS.out.cell i
        have : i = 0 ∨ i = 1 ∨ i = 2 ∨ i = 3 := by omega
        rcases this with rfl | rfl | rfl | rfl <;> exact hc
      have HST : Hid (okN (n4 m i) → ∀ j, j < i + 1 → okN (n4 m j)) := Lib.hid (fun hx j hj => by
        rcases Nat.lt_or_ge j i with h | h
        · exact HALL.out j h
        · obtain rfl : j = i := by omega
          exact hx)
      have HNO : Hid (¬ okN (n4 m i) → num4 m = false) := Lib.hid (fun hx => num4_no hlt hx)
      generalize n4 m i = x at hc HST HNO
      by_cases hx : 0 ≤ x ∧ x ≤ 1099511627776
      · go_wp2_with fail
        refine (within_yes x 0 1099511627776 hx _).mono ?_
        rintro e w' ⟨rfl, hw'⟩
        rw [hw']
        clear hw' w'
        go_wp2_with fail
        go_roundw
        case rel => exact ⟨i + 1, by omega, by go_num, HST.out hx, by first | rfl | simp⟩
        case measure => simp [intOf]; omega
      · have HRV : Hid (rightP m = false) := Lib.hid (rightP_num (HNO.out hx))
        go_wp2_with fail
        refine (within_no x 0 1099511627776 hx _).mono ?_
        rintro e w' ⟨rfl, hw'⟩
        rw [hw']
        clear hw' w'
        go_wp2_with fail
        go_ret
        exact ⟨by first | (rw [HRV.out]; done) | (rw [HRV.out]; rfl) | (rw [HRV.out]; simp <;> omega), HF0.out⟩
    · obtain rfl : i = 4 := by omega
      have HN4 := Lib.hid (num4_yes HALL.out)
      have k4 : W0.cell? ⟨w.heap.size, 4, none⟩ = some (.int .i64 m.ix) := BX.out.cell 4
      have k8 : W0.cell? ⟨w.heap.size, 8, none⟩ = some (.int .i64 m.hn) := BX.out.cell 8
      go_upto_region 8 with fail
      go_cut [6] from 26 (fun s6 wx => s6 = .bool (sgnB m) ∧ wx = W0)
      case first =>
        by_cases c0 : -1099511627776 ≤ m.ix ∧ m.ix ≤ 1099511627776
        · by_cases c1 : -1099511627776 ≤ m.hn ∧ m.hn ≤ 1099511627776
          · go_wp2_with fail
            refine (within_yes m.ix (-1099511627776) 1099511627776 c0 _).mono ?_
            rintro e w' ⟨rfl, hw'⟩
            rw [hw']
            clear hw' w'
            go_wp2_with fail
            refine (within_yes m.hn (-1099511627776) 1099511627776 c1 _).mono ?_
            rintro e w' ⟨rfl, hw'⟩
            rw [hw']
            clear hw' w'
            go_wp2_with fail
            go_meet
            exact ⟨by first | (rw [show sgnB m = true from decide_eq_true ⟨c0, c1⟩]; done) | (rw [show sgnB m = true from decide_eq_true ⟨c0, c1⟩]; rfl) | (rw [show sgnB m = true from decide_eq_true ⟨c0, c1⟩]; simp), rfl⟩
          · go_wp2_with fail
            refine (within_yes m.ix (-1099511627776) 1099511627776 c0 _).mono ?_
            rintro e w' ⟨rfl, hw'⟩
            rw [hw']
            clear hw' w'
            go_wp2_with fail
            refine (within_no m.hn (-1099511627776) 1099511627776 c1 _).mono ?_
            rintro e w' ⟨rfl, hw'⟩
            rw [hw']
            clear hw' w'
            go_wp2_with fail
            go_meet
            exact ⟨by first | (rw [show sgnB m = false from decide_eq_false (fun e => c1 e.2)]; done) | (rw [show sgnB m = false from decide_eq_false (fun e => c1 e.2)]; rfl) | (rw [show sgnB m = false from decide_eq_false (fun e => c1 e.2)]; simp), rfl⟩
        · go_wp2_with fail
          refine (within_no m.ix (-1099511627776) 1099511627776 c0 _).mono ?_
          rintro e w' ⟨rfl, hw'⟩
          rw [hw']
          clear hw' w'
          go_wp2_with fail
          go_meet
          exact ⟨by first | (rw [show sgnB m = false from decide_eq_false (fun e => c0 e.1)]; done) | (rw [show sgnB m = false from decide_eq_false (fun e => c0 e.1)]; rfl) | (rw [show sgnB m = false from decide_eq_false (fun e => c0 e.1)]; simp), rfl⟩
      case rest =>
        obtain ⟨hs6, hwc⟩ := hcut
        rw [hwc]
        clear hwc k4 k8
        subst hs6
        have k0 : W0.cell? ⟨w.heap.size, 0, none⟩ = some (.int .i64 m.kd) := BX.out.cell 0
        have k10 : W0.cell? ⟨w.heap.size, 10, none⟩ = some (.slice m.AE m.es.length m.ce) := BX.out.cell 10
        have HCF := Lib.hid (containsFuncE_any W0 m.AE m.ce m.es (HH.out.fresh HF0.out).re (by have := HH.out.el; omega))
        go_upto_region 9 with fail
        go_cut [7] from 34 (fun s7 wx => s7 = .bool (entB m) ∧ Fresh W0 wx)
        case first =>
          by_cases e0 : m.es.length = 0
          · have e1 : ((m.es.length : Int) == 0) = true := by rw [beq_iff_eq]; omega
            have HV : Hid (entB m = true) := Lib.hid (decide_eq_true (.inl e0))
            clear e0
            go_wp2_with fail
            go_meet
            exact ⟨by first | (rw [HV.out]; done) | (rw [HV.out]; rfl) | (rw [HV.out]; simp <;> omega), Frm.refl _ _⟩
          · have e1 : ((m.es.length : Int) == 0) = false := by rw [beq_eq_false_iff_ne]; omega
            have e2 : ¬ (m.es.length : Int) = 0 := by omega
            by_cases h5 : m.kd = 5
            · have e3 : (m.kd == 5) = true := by rw [beq_iff_eq]; exact h5
              by_cases h8 : (m.es.length : Int) ≤ 8
              · cases hall : allE m.es with
                | true =>
                  rw [hall] at HCF
                  have HV : Hid (entB m = true) := Lib.hid (decide_eq_true (.inr ⟨h5, by omega, hall⟩))
                  clear hall h5
                  go_wp2_with fail
                  refine HCF.out.mono ?_
                  rintro e w' ⟨rfl, f⟩
                  have HFC := Lib.hid f
                  clear f
                  go_wp2_with fail
                  go_meet
                  exact ⟨by first | (rw [HV.out]; done) | (rw [HV.out]; rfl) | (rw [HV.out]; simp <;> omega), HFC.out⟩
                | false =>
                  rw [hall] at HCF
                  have HV : Hid (entB m = false) := Lib.hid (ent_off e2 (.inr (.inr hall)))
                  clear hall h5
                  go_wp2_with fail
                  refine HCF.out.mono ?_
                  rintro e w' ⟨rfl, f⟩
                  have HFC := Lib.hid f
                  clear f
                  go_wp2_with fail
                  go_meet
                  exact ⟨by first | (rw [HV.out]; done) | (rw [HV.out]; rfl) | (rw [HV.out]; simp <;> omega), HFC.out⟩
              · have HV : Hid (entB m = false) := Lib.hid (ent_off e2 (.inr (.inl (by omega))))
                clear h5
                go_wp2_with fail
                go_meet
                exact ⟨by first | (rw [HV.out]; done) | (rw [HV.out]; rfl) | (rw [HV.out]; simp <;> omega), Frm.refl _ _⟩
            · have e3 : (m.kd == 5) = false := by rw [beq_eq_false_iff_ne]; exact h5
              have HV : Hid (entB m = false) := Lib.hid (ent_off e2 (.inl h5))
              go_wp2_with fail
              go_meet
              exact ⟨by first | (rw [HV.out]; done) | (rw [HV.out]; rfl) | (rw [HV.out]; simp <;> omega), Frm.refl _ _⟩
        case rest =>
          obtain ⟨hs7, hfc⟩ := hcut
          subst hs7
          clear k0 k10 HCF
          have HB9 := Lib.hid (BX.out.frm hfc (fun f => f))
          have HF9 := Lib.hid (HF0.out.trans hfc)
          have k0 : wc.cell? ⟨w.heap.size, 0, none⟩ = some (.int .i64 m.kd) := HB9.out.cell 0
          have k1 : wc.cell? ⟨w.heap.size, 1, none⟩ = some (.int .i64 m.fr) := HB9.out.cell 1
          have k2 : wc.cell? ⟨w.heap.size, 2, none⟩ = some (.int .i64 m.to) := HB9.out.cell 2
          have k11 : wc.cell? ⟨w.heap.size, 11, none⟩ = some (.int .i64 m.si) := HB9.out.cell 11
          have k12 : wc.cell? ⟨w.heap.size, 12, none⟩ = some (.int .i64 m.st) := HB9.out.cell 12
          have k13 : wc.cell? ⟨w.heap.size, 13, none⟩ = some (.slice m.AV m.vs.length m.cv) := HB9.out.cell 13
          have k14 : wc.cell? ⟨w.heap.size, 14, none⟩ = some (.slice m.AL m.ls.length m.cl) := HB9.out.cell 14
          have k15 : wc.cell? ⟨w.heap.size, 15, none⟩ = some (.slice m.AD m.ds.length m.cd) := HB9.out.cell 15
          have HEM : Hid (Calls Try.prog 34 #[.agg #[.int .i64 m.si, .int .i64 m.st, .slice m.AV m.vs.length m.cv, .slice m.AL m.ls.length m.cl, .slice m.AD m.ds.length m.cd]] wc fun e w' => e = .returned (.bool (empB m)) ∧ Fresh wc w') := Lib.hid (empty_any wc m.si m.st m.AV m.AL m.AD m.cv m.cl m.cd m.vs m.ls m.ds (HH.out.fresh HF9.out).sn)
          clear hfc
          cases hsg : sgnB m with
          | false =>
            have HRV : Hid (rightP m = false) := Lib.hid (rightP_sgn hsg)
            clear hsg
            go_wp2_with fail
            go_ret
            exact ⟨by first | (rw [HRV.out]; done) | (rw [HRV.out]; rfl) | (rw [HRV.out]; simp <;> omega), HF9.out⟩
          | true =>
            have HSG := Lib.hid hsg
            clear hsg
            cases hen : entB m with
            | false =>
              have HRV : Hid (rightP m = false) := Lib.hid (rightP_ent hen)
              clear hen
              go_wp2_with fail
              go_ret
              exact ⟨by first | (rw [HRV.out]; done) | (rw [HRV.out]; rfl) | (rw [HRV.out]; simp <;> omega), HF9.out⟩
            | true =>
              have HEN := Lib.hid hen
              clear hen
              by_cases c0 : 1 ≤ m.kd ∧ m.kd ≤ 10
              · by_cases c1 : 1 ≤ m.fr ∧ m.fr ≤ 15
                · by_cases c2 : 1 ≤ m.to ∧ m.to ≤ 15
                  · by_cases c3 : m.fr = m.to
                    · have d3 : (m.fr == m.to) = true := by rw [beq_iff_eq]; exact c3
                      have HRV : Hid (rightP m = false) := Lib.hid (rightP_nod (decide_eq_false (fun e => e.2.2.2 c3)))
                      have C3 := Lib.hid c3
                      clear c3
                      go_wp2_with fail
                      refine (within_yes m.kd 1 10 c0 _).mono ?_
                      rintro e w' ⟨rfl, hw'⟩
                      rw [hw']
                      clear hw' w'
                      go_wp2_with fail
                      refine (node_yes2 m.fr c1 _).mono ?_
                      rintro e w' ⟨rfl, hw'⟩
                      rw [hw']
                      clear hw' w'
                      go_wp2_with fail
                      refine (node_yes2 m.to c2 _).mono ?_
                      rintro e w' ⟨rfl, hw'⟩
                      rw [hw']
                      clear hw' w'
                      go_wp2_with fail
                      go_ret
                      exact ⟨by first | (rw [HRV.out]; done) | (rw [HRV.out]; rfl) | (rw [HRV.out]; simp <;> omega), HF9.out⟩
                    · have d3 : (m.fr == m.to) = false := by rw [beq_eq_false_iff_ne]; exact c3
                      have hnod : nodB m = true := decide_eq_true ⟨c0, c1, c2, c3⟩
                      cases hem : empB m with
                      | true =>
                        rw [hem] at HEM
                        have HRV : Hid (rightP m = true) := Lib.hid (by unfold rightP; rw [HN4.out, HSG.out, HEN.out, hnod, hem]; rfl)
                        go_wp2_with fail
                        refine (within_yes m.kd 1 10 c0 _).mono ?_
                        rintro e w' ⟨rfl, hw'⟩
                        rw [hw']
                        clear hw' w'
                        go_wp2_with fail
                        refine (node_yes2 m.fr c1 _).mono ?_
                        rintro e w' ⟨rfl, hw'⟩
                        rw [hw']
                        clear hw' w'
                        go_wp2_with fail
                        refine (node_yes2 m.to c2 _).mono ?_
                        rintro e w' ⟨rfl, hw'⟩
                        rw [hw']
                        clear hw' w'
                        go_wp2_with fail
                        refine HEM.out.mono ?_
                        rintro e w' ⟨rfl, f⟩
                        have HFC := Lib.hid (HF9.out.trans f)
                        have kz : w'.cell? ⟨w.heap.size, 0, none⟩ = some (.int .i64 m.kd) := (HB9.out.frm f (fun f => f)).cell 0
                        clear f
                        go_wp2_with fail
                        go_ret
                        exact ⟨by first | (rw [HRV.out]; done) | (rw [HRV.out]; rfl) | (rw [HRV.out]; simp <;> omega), HFC.out⟩
                      | false =>
                        rw [hem] at HEM
                        by_cases h9 : m.kd = 9
                        · have d9 : (m.kd == 9) = true := by rw [beq_iff_eq]; exact h9
                          have HRV : Hid (rightP m = true) := Lib.hid (by unfold rightP; rw [HN4.out, HSG.out, HEN.out, hnod, hem, decide_eq_true h9]; rfl)
                          clear h9
                          go_wp2_with fail
                          refine (within_yes m.kd 1 10 c0 _).mono ?_
                          rintro e w' ⟨rfl, hw'⟩
                          rw [hw']
                          clear hw' w'
                          go_wp2_with fail
                          refine (node_yes2 m.fr c1 _).mono ?_
                          rintro e w' ⟨rfl, hw'⟩
                          rw [hw']
                          clear hw' w'
                          go_wp2_with fail
                          refine (node_yes2 m.to c2 _).mono ?_
                          rintro e w' ⟨rfl, hw'⟩
                          rw [hw']
                          clear hw' w'
                          go_wp2_with fail
                          refine HEM.out.mono ?_
                          rintro e w' ⟨rfl, f⟩
                          have HFC := Lib.hid (HF9.out.trans f)
                          have kz : w'.cell? ⟨w.heap.size, 0, none⟩ = some (.int .i64 m.kd) := (HB9.out.frm f (fun f => f)).cell 0
                          clear f
                          go_wp2_with fail
                          go_ret
                          exact ⟨by first | (rw [HRV.out]; done) | (rw [HRV.out]; rfl) | (rw [HRV.out]; simp <;> omega), HFC.out⟩
                        · have d9 : (m.kd == 9) = false := by rw [beq_eq_false_iff_ne]; exact h9
                          have HRV : Hid (rightP m = false) := Lib.hid (by unfold rightP; rw [HN4.out, HSG.out, HEN.out, hnod, hem, decide_eq_false h9]; rfl)
                          go_wp2_with fail
                          refine (within_yes m.kd 1 10 c0 _).mono ?_
                          rintro e w' ⟨rfl, hw'⟩
                          rw [hw']
                          clear hw' w'
                          go_wp2_with fail
                          refine (node_yes2 m.fr c1 _).mono ?_
                          rintro e w' ⟨rfl, hw'⟩
                          rw [hw']
                          clear hw' w'
                          go_wp2_with fail
                          refine (node_yes2 m.to c2 _).mono ?_
                          rintro e w' ⟨rfl, hw'⟩
                          rw [hw']
                          clear hw' w'
                          go_wp2_with fail
                          refine HEM.out.mono ?_
                          rintro e w' ⟨rfl, f⟩
                          have HFC := Lib.hid (HF9.out.trans f)
                          have kz : w'.cell? ⟨w.heap.size, 0, none⟩ = some (.int .i64 m.kd) := (HB9.out.frm f (fun f => f)).cell 0
                          clear f
                          go_wp2_with fail
                          go_ret
                          exact ⟨by first | (rw [HRV.out]; done) | (rw [HRV.out]; rfl) | (rw [HRV.out]; simp <;> omega), HFC.out⟩
                  · have HRV : Hid (rightP m = false) := Lib.hid (rightP_nod (decide_eq_false (fun e => c2 e.2.2.1)))
                    go_wp2_with fail
                    refine (within_yes m.kd 1 10 c0 _).mono ?_
                    rintro e w' ⟨rfl, hw'⟩
                    rw [hw']
                    clear hw' w'
                    go_wp2_with fail
                    refine (node_yes2 m.fr c1 _).mono ?_
                    rintro e w' ⟨rfl, hw'⟩
                    rw [hw']
                    clear hw' w'
                    go_wp2_with fail
                    refine (node_no2 m.to c2 _).mono ?_
                    rintro e w' ⟨rfl, hw'⟩
                    rw [hw']
                    clear hw' w'
                    go_wp2_with fail
                    go_ret
                    exact ⟨by first | (rw [HRV.out]; done) | (rw [HRV.out]; rfl) | (rw [HRV.out]; simp <;> omega), HF9.out⟩
                · have HRV : Hid (rightP m = false) := Lib.hid (rightP_nod (decide_eq_false (fun e => c1 e.2.1)))
                  go_wp2_with fail
                  refine (within_yes m.kd 1 10 c0 _).mono ?_
                  rintro e w' ⟨rfl, hw'⟩
                  rw [hw']
                  clear hw' w'
                  go_wp2_with fail
                  refine (node_no2 m.fr c1 _).mono ?_
                  rintro e w' ⟨rfl, hw'⟩
                  rw [hw']
                  clear hw' w'
                  go_wp2_with fail
                  go_ret
                  exact ⟨by first | (rw [HRV.out]; done) | (rw [HRV.out]; rfl) | (rw [HRV.out]; simp <;> omega), HF9.out⟩
              · have HRV : Hid (rightP m = false) := Lib.hid (rightP_nod (decide_eq_false (fun e => c0 e.1)))
                go_wp2_with fail
                refine (within_no m.kd 1 10 c0 _).mono ?_
                rintro e w' ⟨rfl, hw'⟩
                rw [hw']
                clear hw' w'
                go_wp2_with fail
                go_ret
                exact ⟨by first | (rw [HRV.out]; done) | (rw [HRV.out]; rfl) | (rw [HRV.out]; simp <;> omega), HF9.out⟩
end Go.Proofs.Ytlceembcehokoaa
namespace Go.Proofs.Ytlceembcehokoaa
open Go.RowKit
set_option linter.unusedVariables false
set_option maxRecDepth 100000

def rightD (m : MsgM) : Bool := rightP m && (empB m || rightS m.si m.st m.vs m.ls m.ds)
theorem rightD_no {m : MsgM} (h : rightP m = false) : rightD m = false := by unfold rightD; rw [h]; rfl

set_option maxHeartbeats 16000000 in
theorem refRight_any (w : World) (m : MsgM) (h : RdM w m) : Calls Try.prog 43 #[.agg (mcells m)] w fun e w' => e = .returned (.bool (rightD m)) ∧ Fresh w w' := by
  obtain ⟨W, hW⟩ : ∃ W, w.alloc (.cells (mcells m) 30) = W := ⟨_, rfl⟩
  have HF : Hid (Fresh w W) := Lib.hid (by rw [← hW]; exact (Frm.refl _ w).alloc _)
  have BX : Hid (Blk W w.heap.size 30 (mcells m)) := Lib.hid (by rw [← hW]; exact Blk.new w _ _)
  have hsz : W.heap.size = w.heap.size + 1 := by rw [← hW, World.size_alloc]
  obtain ⟨W0, hW0⟩ : ∃ W0, W.alloc (.cells #[.int .i64 m.tm, .int .i64 m.lt, .int .i64 m.cm, .int .i64 m.rd] 3) = W0 := ⟨_, rfl⟩
  have HF0 : Hid (Fresh w W0) := Lib.hid (by rw [← hW0]; exact HF.out.alloc _)
  have BX0 : Hid (Blk W0 w.heap.size 30 (mcells m)) := Lib.hid (by rw [← hW0]; exact BX.out.alloc _)
  have BS : Hid (Blk W0 (w.heap.size + 1) 3 #[.int .i64 m.tm, .int .i64 m.lt, .int .i64 m.cm, .int .i64 m.rd]) := Lib.hid (by
    rw [← hW0, ← hsz]
    exact Blk.new W 3 #[.int .i64 m.tm, .int .i64 m.lt, .int .i64 m.cm, .int .i64 m.rd])
  have HH := Lib.hid h
  obtain ⟨nE, hnE⟩ : ∃ n, n = m.es.length := ⟨_, rfl⟩
  unfold mcells at hW BX BX0 ⊢
  rw [← hnE] at hW BX BX0 ⊢
  rw [← hW] at hW0
  have HNE := Lib.hid hnE
  clear h hnE
  have y0 : W.cell? ⟨w.heap.size, 0, none⟩ = some (.int .i64 m.kd) := BX.out.cell 0
  have y1 : W.cell? ⟨w.heap.size, 1, none⟩ = some (.int .i64 m.fr) := BX.out.cell 1
  have y2 : W.cell? ⟨w.heap.size, 2, none⟩ = some (.int .i64 m.to) := BX.out.cell 2
  have y3 : W.cell? ⟨w.heap.size, 3, none⟩ = some (.int .i64 m.tm) := BX.out.cell 3
  have y5 : W.cell? ⟨w.heap.size, 5, none⟩ = some (.int .i64 m.lt) := BX.out.cell 5
  have y7 : W.cell? ⟨w.heap.size, 7, none⟩ = some (.int .i64 m.cm) := BX.out.cell 7
  have y9 : W.cell? ⟨w.heap.size, 9, none⟩ = some (.int .i64 m.rd) := BX.out.cell 9
  have y10 : W.cell? ⟨w.heap.size, 10, none⟩ = some (.slice m.AE nE m.ce) := BX.out.cell 10
  go_enter Try.func43, Try.ntmps43
  by_cases c0 : 1 ≤ m.kd
  · by_cases c1 : m.kd ≤ 10
    · by_cases c2 : 1 ≤ m.fr
      · by_cases c3 : m.fr ≤ 15
        · by_cases c4 : 1 ≤ m.to
          · by_cases c5 : m.to ≤ 15
            · by_cases c6 : m.fr = m.to
              · have d6 : (m.fr == m.to) = true := by rw [beq_iff_eq]; exact c6
                have HRV : Hid (rightD m = false) := Lib.hid (rightD_no (rightP_nod (decide_eq_false (fun e => e.2.2.2 c6))))
                clear c6
                go_wp2_with fail
                go_ret
                exact ⟨by rw [HRV.out]; first | rfl | (simp <;> omega), by first | exact HF.out | exact (Frm.refl _ w).alloc _⟩
              · have d6 : (m.fr == m.to) = false := by rw [beq_eq_false_iff_ne]; exact c6
                by_cases c7 : (nE : Int) ≤ 8
                · have HND : Hid (nodB m = true) := Lib.hid (decide_eq_true ⟨⟨c0, c1⟩, ⟨c2, c3⟩, ⟨c4, c5⟩, c6⟩)
                  clear c6
                  go_wp2_with fail
                  first | rw [hW0] | (rw [← hW]; rw [hW0]) | skip
                  clear hW0 hW y0 y1 y2 y3 y5 y7 y9 y10 c0 c1 c2 c3 c4 c5 d6
                  go_loopw [4] (fun v4 wr => ∃ i : Nat, i ≤ 4 ∧ v4 = .int .i64 (i : Int) ∧ (∀ j, j < i → okN (n4 m j)) ∧ wr = W0) (fun v4 _ => 4 - (intOf v4).toNat)
                  case atStart => exact ⟨0, by omega, rfl, fun j hj => by omega, rfl⟩
                  case round =>
                    obtain ⟨i, hi4, rfl, hall, hwr⟩ := hrel
                    rw [hwr]
                    clear hwr
                    have hi0 : (0 : Int) ≤ (i : Int) := by omega
                    have HALL := Lib.hid hall
                    clear hall
                    by_cases hlt : i < 4
                    · have hlti : (i : Int) < 4 := by omega
                      have hc : W0.cell? ⟨w.heap.size + 1, i, none⟩ = some (.int .i64 (n4 m i)) := by
                        have hc := BS.out.cell i
                        have : i = 0 ∨ i = 1 ∨ i = 2 ∨ i = 3 := by omega
                        rcases this with rfl | rfl | rfl | rfl <;> exact hc
                      have HST : Hid (okN (n4 m i) → ∀ j, j < i + 1 → okN (n4 m j)) := Lib.hid (fun hx j hj => by
                        rcases Nat.lt_or_ge j i with h | h
                        · exact HALL.out j h
                        · obtain rfl : j = i := by omega
                          exact hx)
                      have HNO : Hid (¬ okN (n4 m i) → num4 m = false) := Lib.hid (fun hx => num4_no hlt hx)
                      generalize n4 m i = x at hc HST HNO
                      by_cases x0 : 0 ≤ x
                      · by_cases x1 : x ≤ 1099511627776
                        · go_wp2_with fail
                          go_roundw
                          case rel => exact ⟨i + 1, by omega, by go_num, HST.out ⟨x0, x1⟩, by first | rfl | simp⟩
                          case measure => simp [intOf]; omega
                        · have HRV : Hid (rightD m = false) := Lib.hid (rightD_no (rightP_num (HNO.out (fun e => x1 e.2))))
                          go_wp2_with fail
                          go_ret
                          exact ⟨by rw [HRV.out]; first | rfl | (simp <;> omega), HF0.out⟩
                      · have HRV : Hid (rightD m = false) := Lib.hid (rightD_no (rightP_num (HNO.out (fun e => x0 e.1))))
                        go_wp2_with fail
                        go_ret
                        exact ⟨by rw [HRV.out]; first | rfl | (simp <;> omega), HF0.out⟩
                    · obtain rfl : i = 4 := by omega
                      have HN4 := Lib.hid (num4_yes HALL.out)
                      have k0 : W0.cell? ⟨w.heap.size, 0, none⟩ = some (.int .i64 m.kd) := BX0.out.cell 0
                      have k4 : W0.cell? ⟨w.heap.size, 4, none⟩ = some (.int .i64 m.ix) := BX0.out.cell 4
                      have k8 : W0.cell? ⟨w.heap.size, 8, none⟩ = some (.int .i64 m.hn) := BX0.out.cell 8
                      have k10 : W0.cell? ⟨w.heap.size, 10, none⟩ = some (.slice m.AE nE m.ce) := BX0.out.cell 10
                      by_cases s0 : -1099511627776 ≤ m.ix
                      · by_cases s1 : m.ix ≤ 1099511627776
                        · by_cases s2 : -1099511627776 ≤ m.hn
                          · by_cases s3 : m.hn ≤ 1099511627776
                            · have HSG : Hid (sgnB m = true) := Lib.hid (decide_eq_true ⟨⟨s0, s1⟩, ⟨s2, s3⟩⟩)
                              by_cases h5 : m.kd = 5
                              · have d5 : (m.kd == 5) = true := by rw [beq_iff_eq]; exact h5
                                have d5' : (m.kd != 5) = false := by rw [bne, d5]; rfl
                                have HK : Hid (nE = 0 ∨ m.kd = 5) := Lib.hid (.inr h5)
                                clear h5
                                go_wp2_with fail
                                clear k0 k4 k8
                                go_loopw [5] (fun v5 wr => ∃ i : Nat, i ≤ nE ∧ v5 = .int .i64 (i : Int) ∧ (∀ e ∈ m.es.take i, rightE e.i e.t e.k e.d.length = true) ∧ Fresh W0 wr) (fun v5 _ => nE - (intOf v5).toNat)
                                case atStart => exact ⟨0, by omega, rfl, fun v hv => by simp at hv, Frm.refl _ _⟩
                                case round =>
                                  obtain ⟨i, hi, rfl, hno, hf⟩ := hrel
                                  have hi0 : (0 : Int) ≤ (i : Int) := by omega
                                  have HNO := Lib.hid hno
                                  have HFR := Lib.hid hf
                                  have HFA := Lib.hid (HF0.out.trans hf)
                                  have HBR := Lib.hid (BX0.out.frm hf (fun f => f))
                                  clear hno hf
                                  by_cases hlt : i < nE
                                  · have hlti : (i : Int) < (nE : Int) := by omega
                                    obtain ⟨b, o, hAE, _, c0, c1, c2, c3⟩ := four_at (HH.out.fresh HFA.out).re (show i < m.es.length by have := HNE.out; omega)
                                    have HM := Lib.hid (List.getElem_mem (show i < m.es.length by have := HNE.out; omega))
                                    have HST := Lib.hid (allE_take_no (show i < m.es.length by have := HNE.out; omega) HNO.out)
                                    have k10 : wr.cell? ⟨w.heap.size, 10, none⟩ = some (.slice m.AE nE m.ce) := HBR.out.cell 10
                                    rw [hAE] at k10
                                    clear hAE
                                    generalize m.es[i]'(show i < m.es.length by have := HNE.out; omega) = x at c0 c1 c2 c3 HM HST
                                    have HASK := Lib.hid (refRightE_any wr x.i x.t x.k x.A x.d.length x.c)
                                    cases hx : rightE x.i x.t x.k x.d.length with
                                    | false =>
                                      have HRV : Hid (rightD m = false) := Lib.hid (rightD_no (rightP_ent (by
                                        have := allE_no HM.out hx
                                        refine decide_eq_false ?_
                                        rintro (h | h)
                                        · have := HNE.out
                                          omega
                                        · rw [h.2.2] at this
                                          cases this)))
                                      rw [hx] at HASK
                                      clear hx
                                      go_wp2_with fail
                                      refine HASK.out.mono ?_
                                      rintro e w' ⟨rfl, f⟩
                                      have HF2 := Lib.hid (HFA.out.trans f)
                                      clear f
                                      go_wp2_with fail
                                      go_ret
                                      exact ⟨by rw [HRV.out]; first | rfl | (simp <;> omega), HF2.out⟩
                                    | true =>
                                      have HX := Lib.hid hx
                                      rw [hx] at HASK
                                      clear hx
                                      go_wp2_with fail
                                      refine HASK.out.mono ?_
                                      rintro e w' ⟨rfl, f⟩
                                      have HF2 := Lib.hid (HFR.out.trans f)
                                      clear f
                                      go_wp2_with fail
                                      go_roundw
                                      case rel => exact ⟨i + 1, by omega, by go_num, HST.out HX.out, HF2.out⟩
                                      case measure => simp [intOf]; omega
                                  · have hlti : ¬ (i : Int) < (nE : Int) := by omega
                                    have HEN : Hid (entB m = true) := Lib.hid (by
                                      refine decide_eq_true ?_
                                      rcases HK.out with h | h
                                      · exact .inl (by have := HNE.out; omega)
                                      · refine .inr ⟨h, by have := HNE.out; omega, ?_⟩
                                        refine decide_eq_true ?_
                                        have := HNO.out
                                        rwa [List.take_of_length_le (by have := HNE.out; omega)] at this)
                                    have k10 : wr.cell? ⟨w.heap.size, 10, none⟩ = some (.slice m.AE nE m.ce) := HBR.out.cell 10
                                    have k11 : wr.cell? ⟨w.heap.size, 11, none⟩ = some (.int .i64 m.si) := HBR.out.cell 11
                                    have k12 : wr.cell? ⟨w.heap.size, 12, none⟩ = some (.int .i64 m.st) := HBR.out.cell 12
                                    have k13 : wr.cell? ⟨w.heap.size, 13, none⟩ = some (.slice m.AV m.vs.length m.cv) := HBR.out.cell 13
                                    have k14 : wr.cell? ⟨w.heap.size, 14, none⟩ = some (.slice m.AL m.ls.length m.cl) := HBR.out.cell 14
                                    have k15 : wr.cell? ⟨w.heap.size, 15, none⟩ = some (.slice m.AD m.ds.length m.cd) := HBR.out.cell 15
                                    have HZ : Hid (Calls Try.prog 47 #[.agg #[.int .i64 m.si, .int .i64 m.st, .slice m.AV m.vs.length m.cv, .slice m.AL m.ls.length m.cl, .slice m.AD m.ds.length m.cd]] wr fun e w' => e = .returned (.bool (empB m)) ∧ Fresh wr w') := Lib.hid (zeroS_any wr m.si m.st m.AV m.AL m.AD m.cv m.cl m.cd m.vs m.ls m.ds (HH.out.fresh HFA.out).sn)
                                    cases hem : empB m with
                                    | true =>
                                      rw [hem] at HZ
                                      have HRV : Hid (rightD m = true) := Lib.hid (by unfold rightD rightP; rw [HN4.out, HSG.out, HEN.out, HND.out, hem]; rfl)
                                      clear hem
                                      go_wp2_with fail
                                      refine HZ.out.mono ?_
                                      rintro e w' ⟨rfl, f⟩
                                      have HF2 := Lib.hid (HFA.out.trans f)
                                      clear f
                                      go_wp2_with fail
                                      go_ret
                                      exact ⟨by rw [HRV.out]; first | rfl | (simp <;> omega), HF2.out⟩
                                    | false =>
                                      rw [hem] at HZ
                                      have HRV : Hid (rightD m = (decide (m.kd = 9) && rightS m.si m.st m.vs m.ls m.ds)) := Lib.hid (by unfold rightD rightP; rw [HN4.out, HSG.out, HEN.out, HND.out, hem]; simp)
                                      clear hem
                                      go_wp2_with fail
                                      refine HZ.out.mono ?_
                                      rintro e w2 ⟨rfl, f⟩
                                      have HF2 := Lib.hid (HFA.out.trans f)
                                      have HB2 := Lib.hid (HBR.out.frm f (fun f => f))
                                      clear f k10 k11 k12 k13 k14 k15
                                      have k11 : w2.cell? ⟨w.heap.size, 11, none⟩ = some (.int .i64 m.si) := HB2.out.cell 11
                                      have k12 : w2.cell? ⟨w.heap.size, 12, none⟩ = some (.int .i64 m.st) := HB2.out.cell 12
                                      have k13 : w2.cell? ⟨w.heap.size, 13, none⟩ = some (.slice m.AV m.vs.length m.cv) := HB2.out.cell 13
                                      have k14 : w2.cell? ⟨w.heap.size, 14, none⟩ = some (.slice m.AL m.ls.length m.cl) := HB2.out.cell 14
                                      have k15 : w2.cell? ⟨w.heap.size, 15, none⟩ = some (.slice m.AD m.ds.length m.cd) := HB2.out.cell 15
                                      have HS := Lib.hid (refRightSnap_any w2 m.si m.st m.AV m.AL m.AD m.cv m.cl m.cd m.vs m.ls m.ds (HH.out.fresh HF2.out).sn)
                                      generalize rightS m.si m.st m.vs m.ls m.ds = rs at HS HRV
                                      go_wp2_with fail
                                      refine HS.out.mono ?_
                                      rintro e w3 ⟨rfl, f⟩
                                      have HF3 := Lib.hid (HF2.out.trans f)
                                      have HB3 := Lib.hid (HB2.out.frm f (fun f => f))
                                      clear f k11 k12 k13 k14 k15
                                      have k0 : w3.cell? ⟨w.heap.size, 0, none⟩ = some (.int .i64 m.kd) := HB3.out.cell 0
                                      by_cases h9 : m.kd = 9
                                      · have d9 : (m.kd == 9) = true := by rw [beq_iff_eq]; exact h9
                                        rw [decide_eq_true h9] at HRV
                                        clear h9
                                        go_wp2_with fail
                                        go_ret
                                        exact ⟨by rw [HRV.out]; first | rfl | (simp <;> omega), HF3.out⟩
                                      · have d9 : (m.kd == 9) = false := by rw [beq_eq_false_iff_ne]; exact h9
                                        rw [decide_eq_false h9] at HRV
                                        clear h9
                                        go_wp2_with fail
                                        go_ret
                                        exact ⟨by rw [HRV.out]; first | rfl | (simp <;> omega), HF3.out⟩
                              · have d5 : (m.kd == 5) = false := by rw [beq_eq_false_iff_ne]; exact h5
                                have d5' : (m.kd != 5) = true := by rw [bne, d5]; rfl
                                by_cases h0 : 0 < (nE : Int)
                                · have HRV : Hid (rightD m = false) := Lib.hid (rightD_no (rightP_ent (decide_eq_false (by have := HNE.out; omega))))
                                  clear h5
                                  go_wp2_with fail
                                  go_ret
                                  exact ⟨by rw [HRV.out]; first | rfl | (simp <;> omega), HF0.out⟩
                                · have HK : Hid (nE = 0 ∨ m.kd = 5) := Lib.hid (.inl (by have := HNE.out; omega))
                                  clear h5
                                  go_wp2_with fail
                                  clear k0 k4 k8
                                  go_loopw [5] (fun v5 wr => ∃ i : Nat, i ≤ nE ∧ v5 = .int .i64 (i : Int) ∧ (∀ e ∈ m.es.take i, rightE e.i e.t e.k e.d.length = true) ∧ Fresh W0 wr) (fun v5 _ => nE - (intOf v5).toNat)
                                  case atStart => exact ⟨0, by omega, rfl, fun v hv => by simp at hv, Frm.refl _ _⟩
                                  case round =>
                                    obtain ⟨i, hi, rfl, hno, hf⟩ := hrel
                                    have hi0 : (0 : Int) ≤ (i : Int) := by omega
                                    have HNO := Lib.hid hno
                                    have HFR := Lib.hid hf
                                    have HFA := Lib.hid (HF0.out.trans hf)
                                    have HBR := Lib.hid (BX0.out.frm hf (fun f => f))
                                    clear hno hf
                                    by_cases hlt : i < nE
                                    · exfalso
                                      omega
                                    · have hlti : ¬ (i : Int) < (nE : Int) := by omega
                                      have HEN : Hid (entB m = true) := Lib.hid (by
                                        refine decide_eq_true ?_
                                        rcases HK.out with h | h
                                        · exact .inl (by have := HNE.out; omega)
                                        · refine .inr ⟨h, by have := HNE.out; omega, ?_⟩
                                          refine decide_eq_true ?_
                                          have := HNO.out
                                          rwa [List.take_of_length_le (by have := HNE.out; omega)] at this)
                                      have k10 : wr.cell? ⟨w.heap.size, 10, none⟩ = some (.slice m.AE nE m.ce) := HBR.out.cell 10
                                      have k11 : wr.cell? ⟨w.heap.size, 11, none⟩ = some (.int .i64 m.si) := HBR.out.cell 11
                                      have k12 : wr.cell? ⟨w.heap.size, 12, none⟩ = some (.int .i64 m.st) := HBR.out.cell 12
                                      have k13 : wr.cell? ⟨w.heap.size, 13, none⟩ = some (.slice m.AV m.vs.length m.cv) := HBR.out.cell 13
                                      have k14 : wr.cell? ⟨w.heap.size, 14, none⟩ = some (.slice m.AL m.ls.length m.cl) := HBR.out.cell 14
                                      have k15 : wr.cell? ⟨w.heap.size, 15, none⟩ = some (.slice m.AD m.ds.length m.cd) := HBR.out.cell 15
                                      have HZ : Hid (Calls Try.prog 47 #[.agg #[.int .i64 m.si, .int .i64 m.st, .slice m.AV m.vs.length m.cv, .slice m.AL m.ls.length m.cl, .slice m.AD m.ds.length m.cd]] wr fun e w' => e = .returned (.bool (empB m)) ∧ Fresh wr w') := Lib.hid (zeroS_any wr m.si m.st m.AV m.AL m.AD m.cv m.cl m.cd m.vs m.ls m.ds (HH.out.fresh HFA.out).sn)
                                      cases hem : empB m with
                                      | true =>
                                        rw [hem] at HZ
                                        have HRV : Hid (rightD m = true) := Lib.hid (by unfold rightD rightP; rw [HN4.out, HSG.out, HEN.out, HND.out, hem]; rfl)
                                        clear hem
                                        go_wp2_with fail
                                        refine HZ.out.mono ?_
                                        rintro e w' ⟨rfl, f⟩
                                        have HF2 := Lib.hid (HFA.out.trans f)
                                        clear f
                                        go_wp2_with fail
                                        go_ret
                                        exact ⟨by rw [HRV.out]; first | rfl | (simp <;> omega), HF2.out⟩
                                      | false =>
                                        rw [hem] at HZ
                                        have HRV : Hid (rightD m = (decide (m.kd = 9) && rightS m.si m.st m.vs m.ls m.ds)) := Lib.hid (by unfold rightD rightP; rw [HN4.out, HSG.out, HEN.out, HND.out, hem]; simp)
                                        clear hem
                                        go_wp2_with fail
                                        refine HZ.out.mono ?_
                                        rintro e w2 ⟨rfl, f⟩
                                        have HF2 := Lib.hid (HFA.out.trans f)
                                        have HB2 := Lib.hid (HBR.out.frm f (fun f => f))
                                        clear f k10 k11 k12 k13 k14 k15
                                        have k11 : w2.cell? ⟨w.heap.size, 11, none⟩ = some (.int .i64 m.si) := HB2.out.cell 11
                                        have k12 : w2.cell? ⟨w.heap.size, 12, none⟩ = some (.int .i64 m.st) := HB2.out.cell 12
                                        have k13 : w2.cell? ⟨w.heap.size, 13, none⟩ = some (.slice m.AV m.vs.length m.cv) := HB2.out.cell 13
                                        have k14 : w2.cell? ⟨w.heap.size, 14, none⟩ = some (.slice m.AL m.ls.length m.cl) := HB2.out.cell 14
                                        have k15 : w2.cell? ⟨w.heap.size, 15, none⟩ = some (.slice m.AD m.ds.length m.cd) := HB2.out.cell 15
                                        have HS := Lib.hid (refRightSnap_any w2 m.si m.st m.AV m.AL m.AD m.cv m.cl m.cd m.vs m.ls m.ds (HH.out.fresh HF2.out).sn)
                                        generalize rightS m.si m.st m.vs m.ls m.ds = rs at HS HRV
                                        go_wp2_with fail
                                        refine HS.out.mono ?_
                                        rintro e w3 ⟨rfl, f⟩
                                        have HF3 := Lib.hid (HF2.out.trans f)
                                        have HB3 := Lib.hid (HB2.out.frm f (fun f => f))
                                        clear f k11 k12 k13 k14 k15
                                        have k0 : w3.cell? ⟨w.heap.size, 0, none⟩ = some (.int .i64 m.kd) := HB3.out.cell 0
                                        by_cases h9 : m.kd = 9
                                        · have d9 : (m.kd == 9) = true := by rw [beq_iff_eq]; exact h9
                                          rw [decide_eq_true h9] at HRV
                                          clear h9
                                          go_wp2_with fail
                                          go_ret
                                          exact ⟨by rw [HRV.out]; first | rfl | (simp <;> omega), HF3.out⟩
                                        · have d9 : (m.kd == 9) = false := by rw [beq_eq_false_iff_ne]; exact h9
                                          rw [decide_eq_false h9] at HRV
                                          clear h9
                                          go_wp2_with fail
                                          go_ret
                                          exact ⟨by rw [HRV.out]; first | rfl | (simp <;> omega), HF3.out⟩
                            · have HRV : Hid (rightD m = false) := Lib.hid (rightD_no (rightP_sgn (decide_eq_false (fun e => by have := HNE.out; omega))))
                              go_wp2_with fail
                              go_ret
                              exact ⟨by rw [HRV.out]; first | rfl | (simp <;> omega), by first | exact HF0.out | exact (Frm.refl _ w).alloc _⟩
                          · have HRV : Hid (rightD m = false) := Lib.hid (rightD_no (rightP_sgn (decide_eq_false (fun e => by have := HNE.out; omega))))
                            go_wp2_with fail
                            go_ret
                            exact ⟨by rw [HRV.out]; first | rfl | (simp <;> omega), by first | exact HF0.out | exact (Frm.refl _ w).alloc _⟩
                        · have HRV : Hid (rightD m = false) := Lib.hid (rightD_no (rightP_sgn (decide_eq_false (fun e => by have := HNE.out; omega))))
                          go_wp2_with fail
                          go_ret
                          exact ⟨by rw [HRV.out]; first | rfl | (simp <;> omega), by first | exact HF0.out | exact (Frm.refl _ w).alloc _⟩
                      · have HRV : Hid (rightD m = false) := Lib.hid (rightD_no (rightP_sgn (decide_eq_false (fun e => by have := HNE.out; omega))))
                        go_wp2_with fail
                        go_ret
                        exact ⟨by rw [HRV.out]; first | rfl | (simp <;> omega), by first | exact HF0.out | exact (Frm.refl _ w).alloc _⟩
                · have HRV : Hid (rightD m = false) := Lib.hid (rightD_no (rightP_ent (decide_eq_false (by have := HNE.out; omega))))
                  clear c6
                  go_wp2_with fail
                  go_ret
                  exact ⟨by rw [HRV.out]; first | rfl | (simp <;> omega), by first | exact HF.out | exact (Frm.refl _ w).alloc _⟩
            · have HRV : Hid (rightD m = false) := Lib.hid (rightD_no (rightP_nod (decide_eq_false (fun e => by have := HNE.out; omega))))
              go_wp2_with fail
              go_ret
              exact ⟨by rw [HRV.out]; first | rfl | (simp <;> omega), by first | exact HF.out | exact (Frm.refl _ w).alloc _⟩
          · have HRV : Hid (rightD m = false) := Lib.hid (rightD_no (rightP_nod (decide_eq_false (fun e => by have := HNE.out; omega))))
            go_wp2_with fail
            go_ret
            exact ⟨by rw [HRV.out]; first | rfl | (simp <;> omega), by first | exact HF.out | exact (Frm.refl _ w).alloc _⟩
        · have HRV : Hid (rightD m = false) := Lib.hid (rightD_no (rightP_nod (decide_eq_false (fun e => by have := HNE.out; omega))))
          go_wp2_with fail
          go_ret
          exact ⟨by rw [HRV.out]; first | rfl | (simp <;> omega), by first | exact HF.out | exact (Frm.refl _ w).alloc _⟩
      · have HRV : Hid (rightD m = false) := Lib.hid (rightD_no (rightP_nod (decide_eq_false (fun e => by have := HNE.out; omega))))
        go_wp2_with fail
        go_ret
        exact ⟨by rw [HRV.out]; first | rfl | (simp <;> omega), by first | exact HF.out | exact (Frm.refl _ w).alloc _⟩
    · have HRV : Hid (rightD m = false) := Lib.hid (rightD_no (rightP_nod (decide_eq_false (fun e => by have := HNE.out; omega))))
      go_wp2_with fail
      go_ret
      exact ⟨by rw [HRV.out]; first | rfl | (simp <;> omega), by first | exact HF.out | exact (Frm.refl _ w).alloc _⟩
  · have HRV : Hid (rightD m = false) := Lib.hid (rightD_no (rightP_nod (decide_eq_false (fun e => by have := HNE.out; omega))))
    go_wp2_with fail
    go_ret
    exact ⟨by rw [HRV.out]; first | rfl | (simp <;> omega), by first | exact HF.out | exact (Frm.refl _ w).alloc _⟩
end Go.Proofs.Ytlceembcehokoaa

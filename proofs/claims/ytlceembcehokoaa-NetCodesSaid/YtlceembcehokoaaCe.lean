/- Co10. (Put together by mg.py.) -/
import Derived.Test.YtlceembcehokoaaCd
namespace Go.Proofs.Ytlceembcehokoaa
open Go.RowKit
set_option linter.unusedVariables false
set_option maxRecDepth 100000

/-! ### A message as it comes in -/
abbrev ERaw : Type := Int × Int × Int × (Option Addr × Nat × List Int)
abbrev SRaw : Type := Int × Int × ((Option Addr × Nat × List Int) × (Option Addr × Nat × List Int)) × (Option Addr × Nat × List Int)
abbrev MRaw : Type := Int × Int × Int × Int × Int × Int × Bool × Int × Int × Int × (Option Addr × Nat × List ERaw) × SRaw
def mif : Int → List Value := fun n => [.int .i64 n]
def miq : Int → Prop := fun n => (Lit.int .i64 n).wf = true
def erf : ERaw → List Value := fun a => mif a.1 ++ (mif a.2.1 ++ (mif a.2.2.1 ++ [sv a.2.2.2]))
def erq (w : World) : ERaw → Prop := fun a => miq a.1 ∧ miq a.2.1 ∧ miq a.2.2.1 ∧ IsL w 1 Rc.u8f Rc.u8q a.2.2.2
def srf : SRaw → List Value := fun a => mif a.1 ++ (mif a.2.1 ++ (([sv a.2.2.1.1] ++ [sv a.2.2.1.2]) ++ [sv a.2.2.2]))
def srq (w : World) : SRaw → Prop := fun a => miq a.1 ∧ miq a.2.1 ∧ (IsL w 8 mif miq a.2.2.1.1 ∧ IsL w 8 mif miq a.2.2.1.2) ∧ IsL w 1 Rc.u8f Rc.u8q a.2.2.2
def mrf : MRaw → List Value := fun a => mif a.1 ++ (mif a.2.1 ++ (mif a.2.2.1 ++ (mif a.2.2.2.1 ++ (mif a.2.2.2.2.1 ++ (mif a.2.2.2.2.2.1 ++ ([.bool a.2.2.2.2.2.2.1] ++ (mif a.2.2.2.2.2.2.2.1 ++ (mif a.2.2.2.2.2.2.2.2.1 ++ (mif a.2.2.2.2.2.2.2.2.2.1 ++ ([sv a.2.2.2.2.2.2.2.2.2.2.1] ++ srf a.2.2.2.2.2.2.2.2.2.2.2))))))))))
def mrq (w : World) : MRaw → Prop := fun a => miq a.1 ∧ miq a.2.1 ∧ miq a.2.2.1 ∧ miq a.2.2.2.1 ∧ miq a.2.2.2.2.1 ∧ miq a.2.2.2.2.2.1 ∧ True ∧ miq a.2.2.2.2.2.2.2.1 ∧ miq a.2.2.2.2.2.2.2.2.1 ∧ miq a.2.2.2.2.2.2.2.2.2.1 ∧ IsL w 48 erf (erq w) a.2.2.2.2.2.2.2.2.2.2.1 ∧ srq w a.2.2.2.2.2.2.2.2.2.2.2
/-- what is known of a message that came in -/
structure RdM0 (w : World) (m : MsgM) : Prop where
  re : Rd w w.heap.size m.AE (m.es.flatMap ecells)
  rd : ∀ e ∈ m.es, Rd w w.heap.size e.A (e.d.map bv)
  rv : Rd w w.heap.size m.AV (ivs m.vs)
  rl : Rd w w.heap.size m.AL (ivs m.ls)
  rs : Rd w w.heap.size m.AD (m.ds.map bv)
  le : m.es.length ≤ maxLen
  lv : m.vs.length ≤ maxLen
  ll : m.ls.length ≤ maxLen
  ld : m.ds.length ≤ maxLen
  lx : ∀ e ∈ m.es, e.d.length ≤ maxLen
theorem RdM0.fresh {w w' : World} {m : MsgM} (h : RdM0 w m) (K : Fresh w w') : RdM0 w' m :=
  ⟨(h.re.fresh (Nat.le_refl _) K).more K.size, fun e he => ((h.rd e he).fresh (Nat.le_refl _) K).more K.size, (h.rv.fresh (Nat.le_refl _) K).more K.size, (h.rl.fresh (Nat.le_refl _) K).more K.size, (h.rs.fresh (Nat.le_refl _) K).more K.size, h.le, h.lv, h.ll, h.ld, h.lx⟩
theorem flat_ivs (zs : List Int) : zs.flatMap mif = ivs zs := by
  induction zs with
  | nil => rfl
  | cons z r ih =>
    rw [List.flatMap_cons, ih]
    rfl
theorem to_ens (w : World) : ∀ l : List ERaw, (∀ x ∈ l, erq w x) → ∃ es : List En, es.length = l.length ∧ l.flatMap erf = es.flatMap ecells ∧ ∀ e ∈ es, Rd w w.heap.size e.A (e.d.map bv) ∧ e.d.length ≤ maxLen := by
  intro l
  induction l with
  | nil => intro _; exact ⟨[], rfl, rfl, fun s hs => by cases hs⟩
  | cons a r ih =>
    intro h
    obtain ⟨ss, h1, h2, h3⟩ := ih (fun x hx => h x (by simp [hx]))
    obtain ⟨q1, q2, q3, q4⟩ := h a (by simp)
    obtain ⟨⟨A, c, bs⟩, hb1, hb2⟩ := Rc.to_bs q4
    refine ⟨⟨a.1, a.2.1, a.2.2.1, A, c, bs⟩ :: ss, by simp [h1], ?_, fun s hs => ?_⟩
    · rw [List.flatMap_cons, List.flatMap_cons, h2]
      unfold erf
      rw [hb1]
      rfl
    · rcases List.mem_cons.1 hs with rfl | hs
      · exact ⟨hb2.rd, Nat.le_trans hb2.le hb2.most⟩
      · exact h3 s hs
theorem to_msg {w : World} {a : MRaw} (h : mrq w a) : ∃ m : MsgM, (mrf a).toArray = mcells m ∧ RdM0 w m := by
  obtain ⟨a0, a1, a2, a3, a4, a5, a6, a7, a8, a9, ⟨AE, ce, l⟩, s0, s1, ⟨⟨AV, cv, vs⟩, AL, cl, ls⟩, sd⟩ := a
  obtain ⟨-, -, -, -, -, -, -, -, -, -, he, -, -, ⟨hv, hl⟩, hd⟩ := h
  obtain ⟨es, e1, e2, e3⟩ := to_ens w l he.all
  obtain ⟨⟨AD, cd, ds⟩, hb1, hb2⟩ := Rc.to_bs hd
  refine ⟨⟨a0, a1, a2, a3, a4, a5, a6, a7, a8, a9, AE, ce, es, s0, s1, AV, cv, vs, AL, cl, ls, AD, cd, ds⟩, ?_, ?_⟩
  · unfold mrf srf mcells
    dsimp only
    dsimp only at hb1
    rw [hb1]
    show _ = #[_, _, _, _, _, _, _, _, _, _, _, _, _, _, _, _]
    simp only [e1]
    rfl
  · refine ⟨?_, fun e he => (e3 e he).1, ?_, ?_, hb2.rd, ?_, ?_, ?_, ?_, fun e he => (e3 e he).2⟩
    · have := he.rd
      rwa [e2] at this
    · have := hv.rd
      rwa [flat_ivs] at this
    · have := hl.rd
      rwa [flat_ivs] at this
    · show es.length ≤ _
      rw [e1]
      exact Nat.le_trans he.le he.most
    · exact Nat.le_trans hv.le hv.most
    · exact Nat.le_trans hl.le hl.most
    · exact Nat.le_trans hb2.le hb2.most
def bigE (es : List En) : Bool := decide (∃ e ∈ es, 10000 < e.d.length)
def muchB (m : MsgM) : Bool := decide (100 < m.es.length) || (decide (100000 < m.ds.length) || (decide (1000 < m.vs.length) || (decide (1000 < m.ls.length) || bigE m.es)))
theorem RdM0.more {w : World} {m : MsgM} (h : RdM0 w m) (hm : muchB m = false) : RdM w m := by
  unfold muchB at hm
  rw [Bool.or_eq_false_iff, Bool.or_eq_false_iff, Bool.or_eq_false_iff, Bool.or_eq_false_iff] at hm
  obtain ⟨h1, h2, h3, h4, h5⟩ := hm
  have h1 := of_decide_eq_false h1
  have h2 := of_decide_eq_false h2
  have h3 := of_decide_eq_false h3
  have h4 := of_decide_eq_false h4
  have h5 := of_decide_eq_false h5
  refine ⟨h.re, h.rd, ⟨h.rv, h.rl, h.rs, by omega, by omega, by omega⟩, by omega, fun e he => ?_⟩
  rcases Nat.lt_or_ge 10000 e.d.length with h6 | h6
  · exact absurd ⟨e, he, h6⟩ h5
  · omega

set_option maxHeartbeats 8000000 in
theorem much_any (w : World) (m : MsgM) (h : RdM0 w m) : Calls Try.prog 11 #[.agg (mcells m)] w fun e w' => e = .returned (.bool (muchB m)) ∧ Fresh w w' := by
  obtain ⟨W, hW⟩ : ∃ W, w.alloc (.cells (mcells m) 30) = W := ⟨_, rfl⟩
  have HF : Hid (Fresh w W) := Lib.hid (by rw [← hW]; exact (Frm.refl _ w).alloc _)
  have BX : Hid (Blk W w.heap.size 30 (mcells m)) := Lib.hid (by rw [← hW]; exact Blk.new w _ _)
  have HH := Lib.hid (h.fresh HF.out)
  have q1 := h.le
  have q2 := h.ld
  have q3 := h.lv
  have q4 := h.ll
  unfold maxLen at q1 q2 q3 q4
  unfold mcells at hW BX ⊢
  clear h
  have k10 : W.cell? ⟨w.heap.size, 10, none⟩ = some (.slice m.AE m.es.length m.ce) := BX.out.cell 10
  have k13 : W.cell? ⟨w.heap.size, 13, none⟩ = some (.slice m.AV m.vs.length m.cv) := BX.out.cell 13
  have k14 : W.cell? ⟨w.heap.size, 14, none⟩ = some (.slice m.AL m.ls.length m.cl) := BX.out.cell 14
  have k15 : W.cell? ⟨w.heap.size, 15, none⟩ = some (.slice m.AD m.ds.length m.cd) := BX.out.cell 15
  go_enter Try.func11, Try.ntmps11
  by_cases c0 : ¬ 100 < (m.es.length : Int)
  · by_cases c1 : ¬ 100000 < (m.ds.length : Int)
    · by_cases c2 : ¬ 1000 < (m.vs.length : Int)
      · by_cases c3 : ¬ 1000 < (m.ls.length : Int)
        · go_wp2_with fail
          first | rw [hW] | skip
          clear hW
          go_loopw [3] (fun v3 wr => ∃ i : Nat, i ≤ m.es.length ∧ v3 = .int .i64 (i : Int) ∧ (∀ e ∈ m.es.take i, ¬ 10000 < e.d.length) ∧ wr = W) (fun v3 _ => m.es.length - (intOf v3).toNat)
          case atStart => exact ⟨0, by omega, rfl, fun v hv => by simp at hv, rfl⟩
          case round =>
            obtain ⟨i, hi, rfl, hno, hwr⟩ := hrel
            rw [hwr]
            clear hwr
            have hi0 : (0 : Int) ≤ (i : Int) := by omega
            have HNO := Lib.hid hno
            clear hno
            by_cases hlt : i < m.es.length
            · have hlti : (i : Int) < (m.es.length : Int) := by omega
              obtain ⟨b, o, hAE, _, -, -, -, d3⟩ := four_at HH.out.re hlt
              have HM := Lib.hid (List.getElem_mem hlt)
              have HT := Lib.hid (List.take_succ_eq_append_getElem hlt)
              rw [hAE] at k10
              clear hAE
              generalize m.es[i] = x at d3 HM HT
              by_cases hx : 10000 < (x.d.length : Int)
              · have HV : Hid (muchB m = true) := Lib.hid (by
                  have : bigE m.es = true := decide_eq_true ⟨x, HM.out, by omega⟩
                  unfold muchB
                  rw [this]
                  simp)
                go_wp2_with fail
                go_ret
                exact ⟨by first | (rw [HV.out]; done) | (rw [HV.out]; rfl) | (rw [HV.out]; simp <;> omega), HF.out⟩
              · go_wp2_with fail
                go_roundw
                case rel => exact ⟨i + 1, by omega, by go_num, fun e he => by
                  rw [HT.out] at he
                  rcases List.mem_append.1 he with he | he
                  · exact HNO.out e he
                  · rw [List.mem_singleton] at he
                    rw [he]
                    omega, by first | rfl | trivial | simp⟩
                case measure => simp [intOf]; omega
            · obtain rfl : i = m.es.length := by omega
              have hlti : ¬ (m.es.length : Int) < (m.es.length : Int) := by omega
              have HV : Hid (muchB m = false) := Lib.hid (by
                have : bigE m.es = false := decide_eq_false (by
                  rintro ⟨e, he, h⟩
                  have := HNO.out e (by rwa [List.take_of_length_le (by omega)])
                  exact this h)
                unfold muchB
                rw [this]
                rw [decide_eq_false (p := 100 < m.es.length) (by omega), decide_eq_false (p := 100000 < m.ds.length) (by omega), decide_eq_false (p := 1000 < m.vs.length) (by omega), decide_eq_false (p := 1000 < m.ls.length) (by omega)]
                rfl)
              go_wp2_with fail
              go_ret
              exact ⟨by first | (rw [HV.out]; done) | (rw [HV.out]; rfl) | (rw [HV.out]; simp <;> omega), HF.out⟩
        · have HV : Hid (muchB m = true) := Lib.hid (by unfold muchB; simp only [Bool.or_eq_true, decide_eq_true_eq]; omega)
          go_wp2_with fail
          go_ret
          exact ⟨by first | (rw [HV.out]; done) | (rw [HV.out]; rfl) | (rw [HV.out]; simp <;> omega), by first | exact HF.out | exact (Frm.refl _ w).alloc _⟩
      · have HV : Hid (muchB m = true) := Lib.hid (by unfold muchB; simp only [Bool.or_eq_true, decide_eq_true_eq]; omega)
        go_wp2_with fail
        go_ret
        exact ⟨by first | (rw [HV.out]; done) | (rw [HV.out]; rfl) | (rw [HV.out]; simp <;> omega), by first | exact HF.out | exact (Frm.refl _ w).alloc _⟩
    · have HV : Hid (muchB m = true) := Lib.hid (by unfold muchB; simp only [Bool.or_eq_true, decide_eq_true_eq]; omega)
      go_wp2_with fail
      go_ret
      exact ⟨by first | (rw [HV.out]; done) | (rw [HV.out]; rfl) | (rw [HV.out]; simp <;> omega), by first | exact HF.out | exact (Frm.refl _ w).alloc _⟩
  · have HV : Hid (muchB m = true) := Lib.hid (by unfold muchB; simp only [Bool.or_eq_true, decide_eq_true_eq]; omega)
    go_wp2_with fail
    go_ret
    exact ⟨by first | (rw [HV.out]; done) | (rw [HV.out]; rfl) | (rw [HV.out]; simp <;> omega), by first | exact HF.out | exact (Frm.refl _ w).alloc _⟩
theorem EncMPost.cases {w : World} {m : MsgM} {e : Ending} {w' : World} (h : EncMPost w m e w') :
    ∃ (A : Option Addr) (n c : Nat) (bs : List UInt8) (x : Int), e = .returned (.tuple #[.slice A n c, .int .i64 x]) ∧ n = bs.length ∧ Rd w' w'.heap.size A (bs.map bv) ∧ Fresh w w' ∧
      bs = (if rightD m = true then (if (bodyM m).length ≤ 65536 then Rc.rec (bodyM m) else []) else []) ∧ x = (if rightD m = true then (if (bodyM m).length ≤ 65536 then 0 else 3) else 1) := by
  rcases h with ⟨h1, h2, h3⟩ | ⟨h1, ⟨h2, v, h3, h4, h5⟩ | ⟨h2, h3, h4⟩⟩
  · exact ⟨none, 0, 0, [], 1, h2, rfl, Rd.nil _ _ _, h3, by rw [h1]; simp, by rw [h1]; simp⟩
  · obtain ⟨A, c, rfl, _⟩ := h4.shape
    have hl := h4.1
    rw [List.length_map, Nat.mul_one] at hl
    exact ⟨A, _, c, Rc.rec (bodyM m), 0, h3, hl.symm, h4.rd, h5, by rw [h1, if_pos rfl, if_pos h2], by rw [h1, if_pos rfl, if_pos h2]⟩
  · exact ⟨none, 0, 0, [], 3, h3, rfl, Rd.nil _ _ _, h4, by rw [h1, if_pos rfl, if_neg (by omega)], by rw [h1, if_pos rfl, if_neg (by omega)]⟩
set_option maxHeartbeats 8000000 in
theorem codes_law (w : World) (m : MsgM) (h : RdM0 w m) : Calls Try.prog 3 #[.agg (mcells m)] w fun e w' => e = .returned (.bool true) ∧ Below w.heap.size w w' := by
  obtain ⟨W, hW⟩ : ∃ W, w.alloc (.cells (mcells m) 30) = W := ⟨_, rfl⟩
  have HF : Hid (Fresh w W) := Lib.hid (by rw [← hW]; exact (Frm.refl _ w).alloc _)
  have BX : Hid (Blk W w.heap.size 30 (mcells m)) := Lib.hid (by rw [← hW]; exact Blk.new w _ _)
  have HBX : Hid (∀ w', Fresh W w' → Blk w' w.heap.size 30 #[.int .i64 m.kd, .int .i64 m.fr, .int .i64 m.to, .int .i64 m.tm, .int .i64 m.ix, .int .i64 m.lt, .bool m.ys, .int .i64 m.cm, .int .i64 m.hn, .int .i64 m.rd, .slice m.AE m.es.length m.ce, .int .i64 m.si, .int .i64 m.st, .slice m.AV m.vs.length m.cv, .slice m.AL m.ls.length m.cl, .slice m.AD m.ds.length m.cd]) := Lib.hid (fun w' F => BX.out.frm F (fun f => f))
  have HH := Lib.hid h
  have HMC : Hid (mcells m = #[.int .i64 m.kd, .int .i64 m.fr, .int .i64 m.to, .int .i64 m.tm, .int .i64 m.ix, .int .i64 m.lt, .bool m.ys, .int .i64 m.cm, .int .i64 m.hn, .int .i64 m.rd, .slice m.AE m.es.length m.ce, .int .i64 m.si, .int .i64 m.st, .slice m.AV m.vs.length m.cv, .slice m.AL m.ls.length m.cl, .slice m.AD m.ds.length m.cd]) := Lib.hid rfl
  rw [HMC.out] at hW ⊢
  clear h BX
  go_enter Try.func3, Try.ntmps3
  go_wp2_with fail
  first | rw [hW] | skip
  clear hW
  refine (awake_any W).mono ?_
  rintro e w1 ⟨rfl, f1⟩
  have HF1 := Lib.hid f1
  have HM := Lib.hid (much_any w1 m (HH.out.fresh (HF.out.trans f1)))
  rw [HMC.out] at HM
  clear f1
  have k0 : w1.cell? ⟨w.heap.size, 0, none⟩ = some (.int .i64 m.kd) := (HBX.out _ HF1.out).cell 0
  have k1 : w1.cell? ⟨w.heap.size, 1, none⟩ = some (.int .i64 m.fr) := (HBX.out _ HF1.out).cell 1
  have k2 : w1.cell? ⟨w.heap.size, 2, none⟩ = some (.int .i64 m.to) := (HBX.out _ HF1.out).cell 2
  have k3 : w1.cell? ⟨w.heap.size, 3, none⟩ = some (.int .i64 m.tm) := (HBX.out _ HF1.out).cell 3
  have k4 : w1.cell? ⟨w.heap.size, 4, none⟩ = some (.int .i64 m.ix) := (HBX.out _ HF1.out).cell 4
  have k5 : w1.cell? ⟨w.heap.size, 5, none⟩ = some (.int .i64 m.lt) := (HBX.out _ HF1.out).cell 5
  have k6 : w1.cell? ⟨w.heap.size, 6, none⟩ = some (.bool m.ys) := (HBX.out _ HF1.out).cell 6
  have k7 : w1.cell? ⟨w.heap.size, 7, none⟩ = some (.int .i64 m.cm) := (HBX.out _ HF1.out).cell 7
  have k8 : w1.cell? ⟨w.heap.size, 8, none⟩ = some (.int .i64 m.hn) := (HBX.out _ HF1.out).cell 8
  have k9 : w1.cell? ⟨w.heap.size, 9, none⟩ = some (.int .i64 m.rd) := (HBX.out _ HF1.out).cell 9
  have k10 : w1.cell? ⟨w.heap.size, 10, none⟩ = some (.slice m.AE m.es.length m.ce) := (HBX.out _ HF1.out).cell 10
  have k11 : w1.cell? ⟨w.heap.size, 11, none⟩ = some (.int .i64 m.si) := (HBX.out _ HF1.out).cell 11
  have k12 : w1.cell? ⟨w.heap.size, 12, none⟩ = some (.int .i64 m.st) := (HBX.out _ HF1.out).cell 12
  have k13 : w1.cell? ⟨w.heap.size, 13, none⟩ = some (.slice m.AV m.vs.length m.cv) := (HBX.out _ HF1.out).cell 13
  have k14 : w1.cell? ⟨w.heap.size, 14, none⟩ = some (.slice m.AL m.ls.length m.cl) := (HBX.out _ HF1.out).cell 14
  have k15 : w1.cell? ⟨w.heap.size, 15, none⟩ = some (.slice m.AD m.ds.length m.cd) := (HBX.out _ HF1.out).cell 15
  cases hmu : muchB m with
  | true =>
    rw [hmu] at HM
    clear hmu
    go_wp2_with fail
    refine HM.out.mono ?_
    rintro e w2 ⟨rfl, f2⟩
    have HF2 := Lib.hid (HF1.out.trans f2)
    clear f2
    go_wp2_with fail
    go_ret
    exact ⟨by first | rfl | simp, Fresh.below (HF.out.trans HF2.out)⟩
  | false =>
    have HRM := Lib.hid (HH.out.more hmu)
    rw [hmu] at HM
    clear hmu
    go_wp2_with fail
    refine HM.out.mono ?_
    rintro e w2 ⟨rfl, f2⟩
    have HF2 := Lib.hid (HF1.out.trans f2)
    have HE := Lib.hid (netEncode_any w2 m (HRM.out.fresh (HF.out.trans HF2.out)))
    rw [HMC.out] at HE
    clear f2 k0 k1 k2 k3 k4 k5 k6 k7 k8 k9 k10 k11 k12 k13 k14 k15
    have k0 : w2.cell? ⟨w.heap.size, 0, none⟩ = some (.int .i64 m.kd) := (HBX.out _ HF2.out).cell 0
    have k1 : w2.cell? ⟨w.heap.size, 1, none⟩ = some (.int .i64 m.fr) := (HBX.out _ HF2.out).cell 1
    have k2 : w2.cell? ⟨w.heap.size, 2, none⟩ = some (.int .i64 m.to) := (HBX.out _ HF2.out).cell 2
    have k3 : w2.cell? ⟨w.heap.size, 3, none⟩ = some (.int .i64 m.tm) := (HBX.out _ HF2.out).cell 3
    have k4 : w2.cell? ⟨w.heap.size, 4, none⟩ = some (.int .i64 m.ix) := (HBX.out _ HF2.out).cell 4
    have k5 : w2.cell? ⟨w.heap.size, 5, none⟩ = some (.int .i64 m.lt) := (HBX.out _ HF2.out).cell 5
    have k6 : w2.cell? ⟨w.heap.size, 6, none⟩ = some (.bool m.ys) := (HBX.out _ HF2.out).cell 6
    have k7 : w2.cell? ⟨w.heap.size, 7, none⟩ = some (.int .i64 m.cm) := (HBX.out _ HF2.out).cell 7
    have k8 : w2.cell? ⟨w.heap.size, 8, none⟩ = some (.int .i64 m.hn) := (HBX.out _ HF2.out).cell 8
    have k9 : w2.cell? ⟨w.heap.size, 9, none⟩ = some (.int .i64 m.rd) := (HBX.out _ HF2.out).cell 9
    have k10 : w2.cell? ⟨w.heap.size, 10, none⟩ = some (.slice m.AE m.es.length m.ce) := (HBX.out _ HF2.out).cell 10
    have k11 : w2.cell? ⟨w.heap.size, 11, none⟩ = some (.int .i64 m.si) := (HBX.out _ HF2.out).cell 11
    have k12 : w2.cell? ⟨w.heap.size, 12, none⟩ = some (.int .i64 m.st) := (HBX.out _ HF2.out).cell 12
    have k13 : w2.cell? ⟨w.heap.size, 13, none⟩ = some (.slice m.AV m.vs.length m.cv) := (HBX.out _ HF2.out).cell 13
    have k14 : w2.cell? ⟨w.heap.size, 14, none⟩ = some (.slice m.AL m.ls.length m.cl) := (HBX.out _ HF2.out).cell 14
    have k15 : w2.cell? ⟨w.heap.size, 15, none⟩ = some (.slice m.AD m.ds.length m.cd) := (HBX.out _ HF2.out).cell 15
    go_wp2_with fail
    refine HE.out.mono ?_
    rintro e w3 h3
    obtain ⟨A1, n1, c1, b1, x1, rfl, hn1, r1, f3, e1, y1⟩ := EncMPost.cases h3
    have HF3 := Lib.hid (HF2.out.trans f3)
    have HR1 := Lib.hid r1
    have HE1 := Lib.hid e1
    have HY1 := Lib.hid y1
    have HN1 := Lib.hid hn1
    have HE := Lib.hid (refEncode_any w3 m (HRM.out.fresh (HF.out.trans HF3.out)))
    rw [HMC.out] at HE
    clear f3 h3 r1 e1 y1 hn1 k0 k1 k2 k3 k4 k5 k6 k7 k8 k9 k10 k11 k12 k13 k14 k15
    have k0 : w3.cell? ⟨w.heap.size, 0, none⟩ = some (.int .i64 m.kd) := (HBX.out _ HF3.out).cell 0
    have k1 : w3.cell? ⟨w.heap.size, 1, none⟩ = some (.int .i64 m.fr) := (HBX.out _ HF3.out).cell 1
    have k2 : w3.cell? ⟨w.heap.size, 2, none⟩ = some (.int .i64 m.to) := (HBX.out _ HF3.out).cell 2
    have k3 : w3.cell? ⟨w.heap.size, 3, none⟩ = some (.int .i64 m.tm) := (HBX.out _ HF3.out).cell 3
    have k4 : w3.cell? ⟨w.heap.size, 4, none⟩ = some (.int .i64 m.ix) := (HBX.out _ HF3.out).cell 4
    have k5 : w3.cell? ⟨w.heap.size, 5, none⟩ = some (.int .i64 m.lt) := (HBX.out _ HF3.out).cell 5
    have k6 : w3.cell? ⟨w.heap.size, 6, none⟩ = some (.bool m.ys) := (HBX.out _ HF3.out).cell 6
    have k7 : w3.cell? ⟨w.heap.size, 7, none⟩ = some (.int .i64 m.cm) := (HBX.out _ HF3.out).cell 7
    have k8 : w3.cell? ⟨w.heap.size, 8, none⟩ = some (.int .i64 m.hn) := (HBX.out _ HF3.out).cell 8
    have k9 : w3.cell? ⟨w.heap.size, 9, none⟩ = some (.int .i64 m.rd) := (HBX.out _ HF3.out).cell 9
    have k10 : w3.cell? ⟨w.heap.size, 10, none⟩ = some (.slice m.AE m.es.length m.ce) := (HBX.out _ HF3.out).cell 10
    have k11 : w3.cell? ⟨w.heap.size, 11, none⟩ = some (.int .i64 m.si) := (HBX.out _ HF3.out).cell 11
    have k12 : w3.cell? ⟨w.heap.size, 12, none⟩ = some (.int .i64 m.st) := (HBX.out _ HF3.out).cell 12
    have k13 : w3.cell? ⟨w.heap.size, 13, none⟩ = some (.slice m.AV m.vs.length m.cv) := (HBX.out _ HF3.out).cell 13
    have k14 : w3.cell? ⟨w.heap.size, 14, none⟩ = some (.slice m.AL m.ls.length m.cl) := (HBX.out _ HF3.out).cell 14
    have k15 : w3.cell? ⟨w.heap.size, 15, none⟩ = some (.slice m.AD m.ds.length m.cd) := (HBX.out _ HF3.out).cell 15
    go_wp2_with fail
    refine HE.out.mono ?_
    rintro e w4 h4
    obtain ⟨A2, n2, c2, b2, x2, rfl, hn2, r2, f4, e2, y2⟩ := EncMPost.cases h4
    have HF4 := Lib.hid (HF3.out.trans f4)
    have HR2 := Lib.hid r2
    have HB : Hid (b2 = b1) := Lib.hid (e2.trans HE1.out.symm)
    obtain rfl : x2 = x1 := y2.trans HY1.out.symm
    have qa : (convert 26 9 (.slice A1 n1 c1)).run Try.prog w4 = .ok (.string (str b1)) w4 := Rc.conv_u c1 (HR1.out.fresh (Nat.le_refl _) f4) HN1.out
    have qb : (convert 26 9 (.slice A2 n2 c2)).run Try.prog w4 = .ok (.string (str b1)) w4 := by rw [← HB.out]; exact Rc.conv_u c2 HR2.out hn2
    clear f4 h4 r2 e2 y2 hn2 HY1 k0 k1 k2 k3 k4 k5 k6 k7 k8 k9 k10 k11 k12 k13 k14 k15
    go_wp2_with fail
    go_ret
    exact ⟨by first | rfl | simp, Fresh.below (HF.out.trans HF4.out)⟩
theorem codes_walk (w : World) (a : MRaw) (h : mrq w a) : Calls Try.prog 3 #[.agg (mrf a).toArray] w fun e w' => e = .returned (.bool true) ∧ Below w.heap.size w w' := by
  obtain ⟨m, h1, h2⟩ := to_msg h
  rw [h1]
  exact codes_law w m h2
end Go.Proofs.Ytlceembcehokoaa

/- Proved here, for the statement TopFairCardSaid: laws that its walk leans on. It holds with no condition. (Put together and shortened by a program out of many texts: To12, To13, To14, Conv, To16, To17.) -/
import Derived.Test.YtbeaoddjomdlcaaGreatDoorZ14
set_option linter.unusedVariables false
set_option linter.unusedSimpArgs false
set_option maxRecDepth 100000
set_option maxHeartbeats 64000000
namespace Go.Proofs.YtbeaoddjomdlcaaGreatDoor
section
open Go.RowKit
theorem soldPost_sl {w w' : World} {s : List Int} {c d y : Int} {v : Value} (h : (y = 0 ∧ Sl w' w.heap.size 3 1 v s.length ((NestM.plus s c.toNat d).map iv)) ∨ (y ≠ 0 ∧ v = .slice none 0 0)) : ∃ A n c, v = .slice A n c := by
  rcases h with ⟨_, h⟩ | ⟨_, h⟩
  · obtain ⟨A, c, e, _⟩ := h.shape; exact ⟨A, _, c, e⟩
  · exact ⟨none, 0, 0, h⟩
theorem soldPost_l {w w' : World} {s : List Int} {c d y : Int} {v : Value} (h : (y = 0 ∧ Sl w' w.heap.size 3 1 v s.length ((NestM.plus s c.toNat d).map iv)) ∨ (y ≠ 0 ∧ v = .slice none 0 0)) (hs : s.length ≤ 8) :
    ∃ ss' : List Int, ss'.length ≤ 8 ∧ Sl w' w.heap.size 3 1 v ss'.length (ivs ss') := by
  rcases h with ⟨_, h⟩ | ⟨_, rfl⟩
  · have e : (NestM.plus s c.toNat d).length = s.length := by have := h.1; simpa using this
    exact ⟨NestM.plus s c.toNat d, by omega, by rw [e]; exact h⟩
  · exact ⟨[], by simp, Sl.nil _ _ _ _⟩
theorem own_delH (M : FM) (k : Int) {j : Nat} (h : ({ M with h := updH M.h k none } : FM).own j) : M.own j := by
  rcases h with e | e | e | e | e | e | ⟨i, y, hy, e⟩
  · exact .inl e
  · exact .inr (.inl e)
  · exact .inr (.inr (.inl e))
  · exact .inr (.inr (.inr (.inl e)))
  · exact .inr (.inr (.inr (.inr (.inl e))))
  · exact .inr (.inr (.inr (.inr (.inr (.inl e)))))
  · dsimp only at hy
    unfold updH at hy
    split at hy
    · cases hy
    · exact .inr (.inr (.inr (.inr (.inr (.inr ⟨i, y, hy, e⟩)))))
theorem give_any (w : World) (B : Nat) (hB : B ≤ w.heap.size) (M : FM) (h : FlP w B M) (ow : Int) (h1 : wf64 ow) :
    Calls Tryz.prog 32 #[.pointer (some ⟨M.f, 0, none⟩), .int .i64 ow] w fun e w' => CodePost w B M e w' := by
  have y5 : w.cell? ⟨M.f, 5, none⟩ = some (.map (some M.hb)) := h.blk.cell 5
  have hask := h.hm.ask (t := 130) Tryz.underlying130 (z := .pointer none) (fun _ => by kernel_rfl) (k := ow) h1
  have HH := zh h
  cases hx : M.h ow with
  | none =>
    have hv : M.hv ow = none := by unfold FM.hv; rw [hx]; rfl
    rw [hv] at hask
    dsimp only [Option.getD, Option.isSome] at hask
    clear hx hv h
    go_in
    go_wp2_with fail
    go_ret
    exact ⟨2, rfl, StepP.same HH.out (Frm.refl _ _)⟩
  | some x =>
    have hv : M.hv ow = some x.ptr := by unfold FM.hv; rw [hx]; rfl
    rw [hv] at hask
    dsimp only [Option.getD, Option.isSome, HoldM.ptr] at hask
    obtain ⟨hk, hxp⟩ := h.hk ow x hx
    obtain ⟨A3, c3, hv3, n3, m3, _⟩ := hxp.sl.shape
    have y3 : w.cell? ⟨x.p, 3, none⟩ = some (.slice A3 x.l.length c3) := by rw [← hv3]; exact hxp.blk.cell 3
    have HX := zh hx
    have HXP := zh hxp
    have hlb := hxp.lb
    clear hx hv h hxp
    go_in
    go_wp2_with fail
    go_loopw [25] (fun v25 wr => ∃ (i : Nat) (o : Int → Option Int), i ≤ x.l.length ∧ v25 = .int .i64 (i : Int) ∧ FlP wr B { M with o := o } ∧ Frm (fun k => k = M.ob) w wr) (fun v25 _ => x.l.length - (RowKit.intOf v25).toNat)
    case atStart => exact ⟨0, M.o, by omega, rfl, HH.out, Frm.refl _ _⟩
    case round =>
      obtain ⟨i, o, hi, rfl, hq, hf⟩ := hrel
      have hi0 : (0 : Int) ≤ (i : Int) := by omega
      have HQ := zh hq
      have HF := zh hf
      by_cases hlt : i < x.l.length
      · have hlti : (i : Int) < (x.l.length : Int) := by omega
        have hrd : Rd wr wr.heap.size A3 (ivs x.l) := by
          have := (hq.hk ow x HX.out).2.sl
          rw [hv3] at this
          exact this.rd
        obtain ⟨b, oo, rfl, _, hc⟩ := hrd.at_ (k := i) (by unfold ivs; simpa using hlt)
        unfold ivs at hc
        rw [List.getElem_map] at hc
        have hn := HXP.out.sb _ (List.getElem_mem hlt)
        generalize x.l[i] = n at hc hn
        have hw : wf64 n := ⟨by omega, by omega⟩
        have z6 : wr.cell? ⟨M.f, 6, none⟩ = some (.map (some M.ob)) := hq.blk.cell 6
        have HOM : Hid (MapV wr M.ob ({ M with o := o } : FM).ov) := zh hq.om
        have HFIN : Hid (∀ w6, MapV w6 M.ob (upd ({ M with o := o } : FM).ov n none) → Frm (fun j => j = M.ob) wr w6 → FlP w6 B { M with o := updO o n none } ∧ Frm (fun k => k = M.ob) w w6) := zh fun w6 hm6 hf6 =>
          ⟨FlP.putO HQ.out none (fun h => by cases h) hm6 hf6, HF.out.trans hf6⟩
        clear hq hf hrd
        go_wp2_with (at_delete; refine wpList_delV _ rfl _ _ 131 rfl Tryz.underlying131 M.ob _ rfl HOM.out _ rfl hw ?_; intro w6 hm6 hf6; obtain ⟨hf1, hf2⟩ := HFIN.out w6 hm6 hf6; have HF1 := zh hf1; have HF2 := zh hf2; clear hm6 hf6 hf1 hf2)
        go_roundw
        case rel => exact ⟨i + 1, _, by omega, by go_num, HF1.out, HF2.out⟩
        case measure => simp [RowKit.intOf]; omega
      · have hlti : ¬ (i : Int) < (x.l.length : Int) := by omega
        obtain ⟨A1, c1, hv1, n1, m1, _⟩ := hq.l.shape
        obtain ⟨A2, c2, hv2, n2, m2, _⟩ := hq.s.shape
        dsimp only at hv1 hv2
        have z1 : wr.cell? ⟨M.f, 3, none⟩ = some (.slice A1 M.ls.length c1) := by rw [← hv1]; exact hq.blk.cell 3
        have z2 : wr.cell? ⟨M.f, 4, none⟩ = some (.slice A2 M.ss.length c2) := by rw [← hv2]; exact hq.blk.cell 4
        have z3 : wr.cell? ⟨x.p, 1, none⟩ = some (.int .i64 x.cl) := (hq.hk ow x HX.out).2.blk.cell 1
        have z4 : wr.cell? ⟨x.p, 2, none⟩ = some (.int .i64 x.mn) := (hq.hk ow x HX.out).2.blk.cell 2
        have HBK : Hid (∀ w', Fresh wr w' → Calls Tryz.prog 68 #[.slice A1 M.ls.length c1, .slice A2 M.ss.length c2, .int .i64 x.cl, .int .i64 x.mn] w' fun e w'' => SoldPost M.ss (BackE M.ls M.ss x.cl x.mn) x.cl (-x.mn) w' e w'') := zh fun w' F =>
          back_any w' A1 c1 M.ls A2 c2 M.ss x.cl x.mn (by have := (HQ.out.fresh F).l; rw [hv1] at this; exact this.rd) (by have := (HQ.out.fresh F).s; rw [hv2] at this; exact this.rd) n2 m2
        have HV1 := zh hv1
        have HV2 := zh hv2
        clear hq hf n1 m1 n2 m2 hv1 hv2
        go_wp2_with fail
        have HSS : Hid (∀ w', Fresh wr w' → w'.cell? ⟨M.f, 3, none⟩ = some (.slice A1 M.ls.length c1) ∧ w'.cell? ⟨x.p, 1, none⟩ = some (.int .i64 x.cl) ∧ w'.cell? ⟨x.p, 2, none⟩ = some (.int .i64 x.mn)) := zh fun w' F =>
          ⟨by rw [← HV1.out]; exact ((HQ.out.fresh F).blk).cell 3, ((HQ.out.fresh F).hk ow x HX.out).2.blk.cell 1, ((HQ.out.fresh F).hk ow x HX.out).2.blk.cell 2⟩
        have HS2 : Hid (∀ w' v, Fresh wr w' → (w'.setCell ⟨M.f, 4, none⟩ v).cell? ⟨M.f, 3, none⟩ = some (.slice A1 M.ls.length c1) ∧ (w'.setCell ⟨M.f, 4, none⟩ v).cell? ⟨x.p, 1, none⟩ = some (.int .i64 x.cl) ∧ (w'.setCell ⟨M.f, 4, none⟩ v).cell? ⟨x.p, 2, none⟩ = some (.int .i64 x.mn)) := zh fun w' v F => by
          have hb := (HQ.out.fresh F).blk
          have hp := ((HQ.out.fresh F).hk ow x HX.out).2.blk
          have hne : x.p ≠ M.f := hp.apart hb (by decide)
          refine ⟨?_, (hp.far hne v).cell 1, (hp.far hne v).cell 2⟩
          rw [(hb.set 4 v).cell 3, ← HV1.out]
          rfl
        refine wp_region_held_drew (S := fun w' => w'.cell? ⟨M.f, 3, none⟩ = some (.slice A1 M.ls.length c1) ∧ w'.cell? ⟨x.p, 1, none⟩ = some (.int .i64 x.cl) ∧ w'.cell? ⟨x.p, 2, none⟩ = some (.int .i64 x.mn)) (by kernel_rfl) (HSS.out _ (Frm.refl _ _).drew) (fun hHeld => ?_)
        iterate 8 ((first | refine ztn (v := ?_) (zo rfl) ?_ | refine ztz (v := ?_) (zo rfl) ?_); try simp only [Act.put, zT, zZ, zS])
        (refine zt 9 (v := ?_) (zo rfl) ?_; try simp only [Act.put, zT, zZ, zS])
        iterate 7 (refine ztn (v := ?_) (zo rfl) ?_; try simp only [Act.put, zT, zZ, zS])
        refine zr1 8 (zo rfl) (fun K hK => ?_)
        go_simp
        refine hK.out _ _ (HSS.out _ (Frm.refl _ _).drew) (fun hHeld => ?_)
        clear hK K
        try simp only [Act.put, zT, zZ, zS]
        refine zr1 17 (zo rfl) (fun K hK => ?_)
        go_simp
        refine (HBK.out _ (Frm.refl _ _).drew).mono ?_
        rintro e w5 ⟨v, y, rfl, hE, f5, hv5⟩
        obtain ⟨A5, k5, c5, rfl⟩ := soldPost_sl hv5
        have HF5 : Hid (Fresh wr w5) := zh ((Frm.refl _ _).drew.trans f5)
        have HV5 := zh hv5
        have HE := zh hE
        clear f5 hv5 hE
        refine hK.out _ _ (HSS.out _ HF5.out) (fun hHeld => ?_)
        clear hK K
        try simp only [Act.put, zT, zZ, zS]
        (refine zt 18 (v := ?_) (zo rfl) ?_; try simp only [Act.put, zT, zZ, zS])
        iterate 4 (refine ztn (v := ?_) (zo rfl) ?_; try simp only [Act.put, zT, zZ, zS])
        have q4 : w5.cell? ⟨M.f, 4, none⟩ = some (.slice A2 M.ss.length c2) := by rw [← HV2.out]; exact ((HQ.out.fresh HF5.out).blk).cell 4
        have q5 : w5.frozen? ⟨M.f, 4, none⟩ = false := ((HQ.out.fresh HF5.out).blk).frozen 4
        refine zr1 23 (zo rfl) (fun K hK => ?_)
        go_simp
        refine hK.out _ _ (HS2.out _ _ HF5.out) (fun hHeld => ?_)
        clear hK K
        try simp only [Act.put, zT, zZ, zS]
        refine wpAnyH_done (by kernel_rfl) ?_ _
        obtain ⟨ss', hl8, hsl0⟩ := soldPost_l HV5.out HQ.out.sl
        have hsl : Sl w5 wr.heap.size 3 1 (.slice A5 k5 c5) ss'.length (ivs ss') := hsl0
        clear hsl0
        have HWR : Hid (w.heap.size ≤ wr.heap.size) := zh HF.out.size
        obtain ⟨hq2, hfr⟩ := FlP.setS (HQ.out.fresh HF5.out) (.slice A5 k5 c5) ss' (hsl.less (by have := HWR.out; exact Nat.le_trans hB this)) hl8 (fun g hg k y hy e => by
          have := (hsl.lt g hg).1
          have := ((HQ.out.hk k y hy).2.sl.lt g e).2
          omega)
        have HM2 := zh hq2.hm
        have z5 : w5.cell? ⟨M.f, 5, none⟩ = some (.map (some M.hb)) := ((HQ.out.fresh HF5.out).blk).cell 5
        have HFIN : Hid (∀ w6, MapV w6 M.hb (upd M.hv ow none) → Frm (fun j => j = M.hb) (w5.setCell ⟨M.f, 4, none⟩ (.slice A5 k5 c5)) w6 → CodePost w B M (.returned (.int .i64 0)) w6) := zh fun w6 hm6 hf6 => by
          have hp6 := FlP.delH hq2 ow hm6 hf6
          refine ⟨0, rfl, _, hp6, rfl, rfl, rfl, ?_, fun j hj => ?_⟩
          · exact (((HF.out.mono (fun i _ e => .inr (.inr (.inl e)))).trans HF5.out.frm).trans (hfr.mono (fun i _ e => .inl e))).trans (hf6.mono (fun i _ e => .inr (.inl e)))
          · have h7 := own_delH _ ow hj
            rcases own_setS { M with o := o } (.slice A5 k5 c5) ss' (n := w.heap.size) (fun g hg => by
              have := (hsl.lt g hg).1
              have := HWR.out
              omega) h7 with h8 | h8
            · exact .inl h8
            · exact .inr h8
        clear hq2 hfr hsl hl8 q4 q5
        go_wp2_with (at_delete; refine wpList_delV _ rfl _ _ 130 rfl Tryz.underlying130 M.hb _ rfl HM2.out _ rfl h1 ?_; intro w6 hm6 hf6; have HFN := zh (HFIN.out w6 hm6 hf6); clear hm6 hf6)
        go_ret
        exact HFN.out
def BothPost (w : World) (M : FM) (ow : Int) (e : Ending) (w' : World) : Prop := ∃ (n : Int) (k : Int), (0 ≤ n ∧ n < 600) ∧ e = .returned (.tuple #[(M.hv ow).getD (.pointer none), .int .i64 n, .bool ((M.hv ow).isSome && k == 0)]) ∧ Fresh w w'
theorem both_any (w : World) (B : Nat) (M : FM) (h : FlP w B M) (ow : Int) (h1 : wf64 ow) (lb : ByteArray) (hlb : lb.size ≤ 1000) :
    Calls Tryz.prog 71 #[.pointer (some ⟨M.f, 0, none⟩), .int .i64 ow, .string lb] w fun e w' => BothPost w M ow e w' := by
  have y5 : w.cell? ⟨M.f, 5, none⟩ = some (.map (some M.hb)) := h.blk.cell 5
  obtain ⟨A2, c2, hv2, n2, m2, _⟩ := h.g.shape
  have y1 : w.cell? ⟨M.f, 1, none⟩ = some (.int .i64 M.rows) := h.blk.cell 1
  have y2 : w.cell? ⟨M.f, 2, none⟩ = some (.slice A2 M.gs.length c2) := by rw [← hv2]; exact h.blk.cell 2
  have hask := h.hm.ask (t := 130) Tryz.underlying130 (z := .pointer none) (fun _ => by kernel_rfl) (k := ow) h1
  have HFD := zh (pFind_any w M.rows A2 c2 M.gs lb (by have := h.g; rw [hv2] at this; exact this.rd) h.gs hlb)
  obtain ⟨hp, hhp⟩ : ∃ v, v = (M.hv ow).getD (.pointer none) := ⟨_, rfl⟩
  obtain ⟨hb, hhb⟩ : ∃ b, b = (M.hv ow).isSome := ⟨_, rfl⟩
  rw [← hhp, ← hhb] at hask
  have HHP := zh hhp
  have HHB := zh hhb
  have HPT : Hid (∃ a, hp = .pointer a) := zh (by
    rw [hhp]
    unfold FM.hv
    cases M.h ow with
    | none => exact ⟨_, rfl⟩
    | some x => exact ⟨_, rfl⟩)
  clear h hhp hhb hv2
  obtain ⟨pa, rfl⟩ := HPT.out
  cases hb with
  | false =>
    go_in
    go_wp2_with fail
    refine HFD.out.mono ?_
    rintro e w1 ⟨n, k, hn, rfl, f1⟩
    have HF1 := zh f1
    clear f1
    go_wp2_with fail
    go_ret3
    exact ⟨n, k, hn, by rw [← HHP.out, ← HHB.out]; rfl, HF1.out⟩
  | true =>
    go_in
    go_wp2_with fail
    refine HFD.out.mono ?_
    rintro e w1 ⟨n, k, hn, rfl, f1⟩
    have HF1 := zh f1
    clear f1
    go_wp2_with fail
    go_ret3
    exact ⟨n, k, hn, by rw [← HHP.out, ← HHB.out]; rfl, HF1.out⟩
theorem hv_some {M : FM} {ow : Int} {x : HoldM} (h : M.h ow = some x) : M.hv ow = some x.ptr := by unfold FM.hv; rw [h]; rfl
theorem hv_none {M : FM} {ow : Int} (h : M.h ow = none) : M.hv ow = none := by unfold FM.hv; rw [h]; rfl
theorem seat_any (w : World) (B : Nat) (hB : B ≤ w.heap.size) (M : FM) (h : FlP w B M) (ow : Int) (h1 : wf64 ow) (lb : ByteArray) (hlb : lb.size ≤ 1000) :
    Calls Tryz.prog 36 #[.pointer (some ⟨M.f, 0, none⟩), .int .i64 ow, .string lb] w fun e w' => CodePost w B M e w' := by
  have HBO := zh (both_any w B M h ow h1 lb hlb)
  have HH := zh h
  clear h
  go_in
  go_wp2_with fail
  refine HBO.out.mono ?_
  rintro e w1 ⟨n, k, hn, rfl, f1⟩
  have HF1 := zh f1
  have hq := HH.out.fresh f1
  have HQ := zh hq
  have z6 : w1.cell? ⟨M.f, 6, none⟩ = some (.map (some M.ob)) := hq.blk.cell 6
  have hask := hq.om.ask (t := 131) Tryz.underlying131 (z := .int .i64 0) (fun _ => by kernel_rfl) (k := n) ⟨by omega, by omega⟩
  obtain ⟨ov, hov⟩ : ∃ v, (M.ov n).getD (.int .i64 0) = .int .i64 v := by
    unfold FM.ov
    cases M.o n with
    | none => exact ⟨0, rfl⟩
    | some v => exact ⟨v, rfl⟩
  obtain ⟨ob, hob⟩ : ∃ b, b = (M.ov n).isSome := ⟨_, rfl⟩
  rw [hov, ← hob] at hask
  have HST : Hid (∀ k : Int, CodePost w B M (.returned (.int .i64 k)) w1) := zh fun k => ⟨k, rfl, StepP.same HH.out HF1.out⟩
  clear f1 hq hov hob
  cases hx : M.h ow with
  | none =>
    rw [hv_none hx]
    dsimp only [Option.getD, Option.isSome, Bool.false_and]
    clear hx
    go_wp2_with fail
    go_ret
    exact HST.out 2
  | some x =>
    rw [hv_some hx]
    dsimp only [Option.getD, Option.isSome, Bool.true_and, HoldM.ptr]
    have HX := zh hx
    obtain ⟨hk, hxp⟩ := HQ.out.hk ow x hx
    obtain ⟨A3, c3, hv3, n3, m3, _⟩ := hxp.sl.shape
    have z3 : w1.cell? ⟨x.p, 3, none⟩ = some (.slice A3 x.l.length c3) := by rw [← hv3]; exact hxp.blk.cell 3
    have z2 : w1.cell? ⟨x.p, 2, none⟩ = some (.int .i64 x.mn) := hxp.blk.cell 2
    have hmn := hxp.mb
    clear hx hxp hv3
    by_cases hk0 : k = 0
    · have d1 : (k == 0) = true := by rw [hk0]; simp
      rw [d1]
      clear hk0 d1
      by_cases hlm : x.mn ≤ (x.l.length : Int)
      · have d2 : decide (x.mn ≤ (x.l.length : Int)) = true := decide_eq_true hlm
        go_wp2_with fail
        go_quiet (fail)
        go_wp2_with fail
        go_ret
        exact ⟨_, rfl, StepP.same HH.out (HF1.out.drewN _)⟩
      · have d2 : decide (x.mn ≤ (x.l.length : Int)) = false := decide_eq_false hlm
        cases ob with
        | true =>
          go_wp2_with fail
          go_quiet (fail)
          go_wp2_with fail
          go_ret
          exact ⟨_, rfl, StepP.same HH.out (HF1.out.drewN _)⟩
        | false =>
          go_wp2_with fail
          go_quiet (fail)
          rename_i nq
          go_wp2_with fail
          have HF2 : Hid (Fresh w (w1.drewN _)) := zh (HF1.out.drewN nq)
          refine (tell_any (w1.drewN nq) B (Nat.le_trans hB HF2.out.size) M (HH.out.fresh HF2.out) ow x HX.out n hn (by omega)).mono ?_
          rintro e w2 ⟨rfl, M', x', a1, a2, a3, a4, a5, a6, a7, a8, a9⟩
          have HFIN : Hid (CodePost w B M (.returned (.int .i64 0)) w2) := zh ⟨0, rfl, M', a1, a2, a3, a4, HF2.out.frm.trans a8, fun j hj => (a9 j hj).elim .inl (fun h => .inr (Nat.le_trans HF2.out.size h))⟩
          clear a1 a2 a3 a4 a5 a6 a7 a8 a9
          go_wp2_with fail
          go_ret
          exact HFIN.out
    · have d1 : (k == 0) = false := by rw [beq_eq_false_iff_ne]; exact hk0
      rw [d1]
      clear hk0 d1
      go_wp2_with fail
      go_ret
      exact HST.out 2
theorem info_str : (Tryz.prog.info? 9).map (fun i => (i.zero, i.size, i.bytes)) = some (some (.string ⟨#[]⟩), 1, 16) := by kernel_rfl
def LblsPost (w : World) (e : Ending) (w' : World) : Prop := ∃ (A : Option Addr) (n c : Nat), e = .returned (.slice A n c) ∧ Fresh w w'
theorem labels_any (w : World) (B : Nat) (M : FM) (h : FlP w B M) (A : Option Addr) (cap : Nat) (l : List Int) (hA : Rd w w.heap.size A (ivs l)) (hl : l.length ≤ 10000) :
    Calls Tryz.prog 75 #[.pointer (some ⟨M.f, 0, none⟩), .slice A l.length cap] w fun e w' => LblsPost w e w' := by
  obtain ⟨A2, c2, hv2, n2, m2, _⟩ := h.g.shape
  have HY : Hid (∀ w', Fresh w w' → w'.cell? ⟨M.f, 1, none⟩ = some (.int .i64 M.rows) ∧ w'.cell? ⟨M.f, 2, none⟩ = some (.slice A2 M.gs.length c2)) := zh fun w' F =>
    ⟨((h.fresh F).blk).cell 1, by rw [← hv2]; exact ((h.fresh F).blk).cell 2⟩
  have HLB : Hid (∀ w' n, Fresh w w' → Calls Tryz.prog 117 #[.agg #[.int .i64 M.rows, .slice A2 M.gs.length c2], .int .i64 n] w' fun e w'' => LblPost w' e w'') := zh fun w' n F =>
    pLabel_any w' M.rows A2 c2 M.gs n (by have := (h.fresh F).g; rw [hv2] at this; exact this.rd) h.gs
  have HA : Hid (∀ w', Fresh w w' → Rd w' w.heap.size A (ivs l)) := zh fun w' F => hA.fresh (Nat.le_refl _) F
  obtain ⟨i0, hi', hz0, hz1, hz2⟩ := info_parts info_str
  clear h hv2 n2 m2 hA
  go_in
  go_wp2_with fail
  go_loopw [5, 12] (fun v5 v12 wr => ∃ (i : Nat) (xs : List Value), i ≤ l.length ∧ v12 = .int .i64 (i : Int) ∧ Sl wr w.heap.size 9 1 v5 i xs ∧ Fresh w wr) (fun _ v12 _ => l.length - (RowKit.intOf v12).toNat)
  case atStart => exact ⟨0, [], by omega, rfl, Sl.nil _ _ _ _, Frm.refl _ _⟩
  case round =>
    obtain ⟨i, xs, hi, rfl, hs, hf⟩ := hrel
    have hi0 : (0 : Int) ≤ (i : Int) := by omega
    have HS := zh hs
    have HF := zh hf
    obtain ⟨A5, c5, rfl, n5, m5, _⟩ := hs.shape
    obtain ⟨z1, z2⟩ := HY.out _ hf
    clear hs hf
    by_cases hlt : i < l.length
    · have hlti : (i : Int) < (l.length : Int) := by omega
      obtain ⟨b, o, rfl, _, hc⟩ := (HA.out wr HF.out).at_ (k := i) (by unfold ivs; simpa using hlt)
      unfold ivs at hc
      rw [List.getElem_map] at hc
      generalize l[i] = n at hc
      have HL := zh (HLB.out wr n HF.out)
      go_wp2_with fail
      refine HL.out.mono ?_
      rintro e w2 ⟨s, k, hsz, rfl, f2⟩
      have HF2 := zh (HF.out.trans f2)
      have HS2 := zh ((HS.out.fresh f2).alloc (.cells #[.string s] 9))
      have R2 := zh (rd_one w2 (.string s) 9)
      have HW2 : Hid (w.heap.size ≤ (w2.alloc (.cells #[.string s] 9)).heap.size) := zh (by have := HF2.out.size; simp; omega)
      have HFN : Hid (∀ v' w', Sl w' w.heap.size 9 1 v' (i + 1) (xs ++ [.string s]) → Frm (fun k => (Value.slice A5 i c5).ownBlock = some k) (w2.alloc (.cells #[.string s] 9)) w' → Fresh w w') := zh fun v' w' hs' hf' =>
        (HF2.out.trans ((Frm.refl _ w2).alloc _)).trans' hf' (fun i hi e => by have := (HS.out.lt i e).1; omega)
      clear f2
      go_wp2_with (at_builtin; refine wpList_append_sl _ rfl (.tmp 25) (.tmp 27) _ rfl w.heap.size 9 i0 _ 1 16 Tryz.underlying27 hi' hz0 hz1 hz2 rfl (by omega) _ _ _ rfl HS2.out _ _ 1 _ _ rfl (by rfl) R2.out (fun u hu => by simp at hu; subst hu; rfl) (by unfold maxLen; omega) (by omega) HW2.out ?_; intro v' w' hs' hf' hw'; have HFX := zh (HFN.out v' w' hs' hf'); have HSX := zh hs'; clear hs' hf' hw')
      go_roundw
      case rel => exact ⟨i + 1, _, by omega, by go_num, HSX.out, HFX.out⟩
      case measure => simp [RowKit.intOf]; omega
    · have hlti : ¬ (i : Int) < (l.length : Int) := by omega
      go_wp2_with fail
      go_ret
      exact ⟨_, _, _, rfl, HF.out⟩
theorem labelsP_any (w : World) (B : Nat) (M : FM) (h : FlP w B M) (ow : Int) (h1 : wf64 ow) :
    Calls Tryz.prog 64 #[.pointer (some ⟨M.f, 0, none⟩), .int .i64 ow] w fun e w' => LblsPost w e w' := by
  have y5 : w.cell? ⟨M.f, 5, none⟩ = some (.map (some M.hb)) := h.blk.cell 5
  have hask := h.hm.ask (t := 130) Tryz.underlying130 (z := .pointer none) (fun _ => by kernel_rfl) (k := ow) h1
  cases hx : M.h ow with
  | none =>
    rw [hv_none hx] at hask
    dsimp only [Option.getD, Option.isSome] at hask
    clear hx h
    go_in
    go_wp2_with fail
    go_ret
    exact ⟨_, _, _, rfl, Frm.refl _ _⟩
  | some x =>
    rw [hv_some hx] at hask
    dsimp only [Option.getD, Option.isSome, HoldM.ptr] at hask
    obtain ⟨hk, hxp⟩ := h.hk ow x hx
    obtain ⟨A3, c3, hv3, n3, m3, _⟩ := hxp.sl.shape
    have y3 : w.cell? ⟨x.p, 3, none⟩ = some (.slice A3 x.l.length c3) := by rw [← hv3]; exact hxp.blk.cell 3
    have HL := zh (labels_any w B M h A3 c3 x.l (by have := hxp.sl; rw [hv3] at this; exact this.rd) hxp.lb)
    clear hx h hxp hv3 n3 m3
    go_in
    go_wp2_with fail
    refine HL.out.mono ?_
    rintro e w2 ⟨A, n, c, rfl, f2⟩
    have HF2 := zh f2
    clear f2
    go_wp2_with fail
    go_ret
    exact ⟨_, _, _, rfl, HF2.out⟩
def str (bs : List UInt8) : ByteArray := ⟨bs.toArray⟩
theorem str_toList (bs : List UInt8) : (str bs).toList = bs := ByteArray.toList_mk bs
theorem strOfNums_bytes (bs : List UInt8) : strOfNums (bs.map fun b => (b.toNat : Int)) = str bs := by
  unfold strOfNums str
  congr 1
  congr 1
  induction bs with
  | nil => rfl
  | cons b l ih =>
    rw [List.map_cons, List.map_cons, ih]
    congr 1
    simp
theorem conv_bytes {P : Program} {w : World} (src dst e : TypeId) (hs : P.underlying src = some (.slice e)) (he : P.underlying e = some (.int .u8)) (hd : P.underlying dst = some .string)
    {B : Nat} {A : Option Addr} {bs : List UInt8} (c : Nat) (h : Rd w B A (bs.map bv)) {n : Nat} (hn : n = bs.length) : (convert src dst (.slice A n c)).run P w = .ok (.string (str bs)) w := by
  subst hn
  by_cases hne : bs = []
  · subst hne
    rcases A with _ | a
    · exact run_convert_bytes_nil w src e hs he _ _ dst hd
    · show (convert src dst (.slice (some a) 0 c)).run P w = _
      rw [run_convert_bytes_string w src dst e _ _ c hs he hd, run_bytesToString w a 0 c [] (by have := run_loadCells_list (P := P) w a [] (fun j v hj => by simp at hj); simpa using this)]
      rfl
  · obtain ⟨b, o, rfl, hb, hc⟩ := h (by simpa using hne)
    have := run_convert_bytes_arg w src e hs he b o bs.length c (bs.map fun b => (b.toNat : Int)) (by simp) (fun i hi => by
      have e : (bs.map bv)[i]? = some (bv bs[i]) := by simp [hi]
      rw [hc i _ e]
      simp [bv, List.getD, hi]) dst hd
    rw [this, strOfNums_bytes]
theorem signs_at (i : Nat) (h : i < 31) : ∃ x : Int, 0 ≤ x ∧ x ≤ 255 ∧ ∀ w, (Instr.index 9 (.string { data := #[65, 66, 67, 68, 69, 70, 71, 72, 74, 75, 76, 77, 78, 80, 81, 82, 84, 85, 86, 87, 88, 89, 90, 50, 51, 52, 53, 54, 55, 56, 57] }) (.int .i64 (i : Int))).run Tryz.prog w = .ok (.int .u8 x) w := by
  match i, h with
  | 0, _ => exact ⟨65, by omega, by omega, fun _ => by kernel_rfl⟩
  | 1, _ => exact ⟨66, by omega, by omega, fun _ => by kernel_rfl⟩
  | 2, _ => exact ⟨67, by omega, by omega, fun _ => by kernel_rfl⟩
  | 3, _ => exact ⟨68, by omega, by omega, fun _ => by kernel_rfl⟩
  | 4, _ => exact ⟨69, by omega, by omega, fun _ => by kernel_rfl⟩
  | 5, _ => exact ⟨70, by omega, by omega, fun _ => by kernel_rfl⟩
  | 6, _ => exact ⟨71, by omega, by omega, fun _ => by kernel_rfl⟩
  | 7, _ => exact ⟨72, by omega, by omega, fun _ => by kernel_rfl⟩
  | 8, _ => exact ⟨74, by omega, by omega, fun _ => by kernel_rfl⟩
  | 9, _ => exact ⟨75, by omega, by omega, fun _ => by kernel_rfl⟩
  | 10, _ => exact ⟨76, by omega, by omega, fun _ => by kernel_rfl⟩
  | 11, _ => exact ⟨77, by omega, by omega, fun _ => by kernel_rfl⟩
  | 12, _ => exact ⟨78, by omega, by omega, fun _ => by kernel_rfl⟩
  | 13, _ => exact ⟨80, by omega, by omega, fun _ => by kernel_rfl⟩
  | 14, _ => exact ⟨81, by omega, by omega, fun _ => by kernel_rfl⟩
  | 15, _ => exact ⟨82, by omega, by omega, fun _ => by kernel_rfl⟩
  | 16, _ => exact ⟨84, by omega, by omega, fun _ => by kernel_rfl⟩
  | 17, _ => exact ⟨85, by omega, by omega, fun _ => by kernel_rfl⟩
  | 18, _ => exact ⟨86, by omega, by omega, fun _ => by kernel_rfl⟩
  | 19, _ => exact ⟨87, by omega, by omega, fun _ => by kernel_rfl⟩
  | 20, _ => exact ⟨88, by omega, by omega, fun _ => by kernel_rfl⟩
  | 21, _ => exact ⟨89, by omega, by omega, fun _ => by kernel_rfl⟩
  | 22, _ => exact ⟨90, by omega, by omega, fun _ => by kernel_rfl⟩
  | 23, _ => exact ⟨50, by omega, by omega, fun _ => by kernel_rfl⟩
  | 24, _ => exact ⟨51, by omega, by omega, fun _ => by kernel_rfl⟩
  | 25, _ => exact ⟨52, by omega, by omega, fun _ => by kernel_rfl⟩
  | 26, _ => exact ⟨53, by omega, by omega, fun _ => by kernel_rfl⟩
  | 27, _ => exact ⟨54, by omega, by omega, fun _ => by kernel_rfl⟩
  | 28, _ => exact ⟨55, by omega, by omega, fun _ => by kernel_rfl⟩
  | 29, _ => exact ⟨56, by omega, by omega, fun _ => by kernel_rfl⟩
  | 30, _ => exact ⟨57, by omega, by omega, fun _ => by kernel_rfl⟩
  | n + 31, h => omega
def Wgh (w : World) (p1 p2 : Nat) (k : Nat) : Prop := ∃ s : Int, 0 ≤ s ∧ s ≤ 30 ∧ Blk w p1 3 #[.int .i64 s] ∧ Blk w p2 3 #[.int .i64 (k : Int)] ∧ p1 ≠ p2
theorem Wgh.frm {w w' : World} {p1 p2 k : Nat} {S : Nat → Prop} (h : Wgh w p1 p2 k) (F : Frm S w w') (h1 : ¬ S p1) (h2 : ¬ S p2) : Wgh w' p1 p2 k := by
  obtain ⟨s, a, b, c, d, e⟩ := h
  exact ⟨s, a, b, c.frm F h1, d.frm F h2, e⟩
def WghPost (w : World) (p1 p2 k : Nat) (e : Ending) (w' : World) : Prop := ∃ s : Int, 0 ≤ s ∧ s ≤ 30 ∧ e = .returned (.int .i64 s) ∧ Wgh w' p1 p2 (k + 1) ∧ Frm (fun j => j = p1 ∨ j = p2) w w'
theorem weigh_any (w : World) (p1 p2 k : Nat) (h : Wgh w p1 p2 k) (hk : k ≤ 100) (d : Int) (hd : 0 ≤ d ∧ d ≤ 30) :
    Calls Tryz.prog 118 #[.int .i64 d, .pointer (some ⟨p1, 0, none⟩), .pointer (some ⟨p2, 0, none⟩)] w fun e w' => WghPost w p1 p2 k e w' := by
  obtain ⟨s, hs1, hs2, b1, b2, hne⟩ := h
  have y1 : w.cell? ⟨p1, 0, none⟩ = some (.int .i64 s) := b1.cell 0
  have y2 : w.cell? ⟨p2, 0, none⟩ = some (.int .i64 (k : Int)) := b2.cell 0
  have z1 : w.frozen? ⟨p1, 0, none⟩ = false := b1.frozen 0
  obtain ⟨m, hm⟩ : ∃ m, m = (k : Int) * d := ⟨_, rfl⟩
  have hm1 : 0 ≤ m := by rw [hm]; exact Int.mul_nonneg (by omega) hd.1
  have hm2 : m ≤ 100 * 30 := by rw [hm]; exact Int.mul_le_mul (by omega) hd.2 hd.1 (by omega)
  have e1 : IntKind.i64.wrap ((k : Int) * d) = m := by rw [← hm]; exact IntWalk.i64_in _ (by omega)
  have e2 : IntKind.i64.wrap (s + m) = s + m := IntWalk.i64_in _ (by omega)
  have e3 : IntKind.i64.wrap ((k : Int) + 1) = (k : Int) + 1 := IntWalk.i64_in _ (by omega)
  obtain ⟨t, ht⟩ : ∃ t, t = (s + m) % 31 := ⟨_, rfl⟩
  have ht1 : 0 ≤ t ∧ t ≤ 30 := by omega
  have e4 : (s + m).tmod 31 = t := by rw [ht, Int.tmod_eq_emod_of_nonneg (by omega)]
  have e5 : IntKind.i64.wrap t = t := IntWalk.i64_in _ (by omega)
  have q2 : (w.setCell ⟨p1, 0, none⟩ (.int .i64 t)).cell? ⟨p2, 0, none⟩ = some (.int .i64 (k : Int)) := (b2.far (fun e => hne e.symm) _).cell 0
  have q3 : (w.setCell ⟨p1, 0, none⟩ (.int .i64 t)).frozen? ⟨p2, 0, none⟩ = false := (b2.far (fun e => hne e.symm) _).frozen 0
  have b1' : Blk (w.setCell ⟨p1, 0, none⟩ (.int .i64 t)) p1 3 #[.int .i64 t] := b1.set 0 _
  have b2' : Blk (w.setCell ⟨p1, 0, none⟩ (.int .i64 t)) p2 3 #[.int .i64 (k : Int)] := b2.far (fun e => hne e.symm) _
  have b1'' : Blk ((w.setCell ⟨p1, 0, none⟩ (.int .i64 t)).setCell ⟨p2, 0, none⟩ (.int .i64 ((k : Int) + 1))) p1 3 #[.int .i64 t] := b1'.far hne _
  have b2'' : Blk ((w.setCell ⟨p1, 0, none⟩ (.int .i64 t)).setCell ⟨p2, 0, none⟩ (.int .i64 ((k : Int) + 1))) p2 3 #[.int .i64 ((k : Int) + 1)] := b2'.set 0 _
  have q4 : ((w.setCell ⟨p1, 0, none⟩ (.int .i64 t)).setCell ⟨p2, 0, none⟩ (.int .i64 ((k : Int) + 1))).cell? ⟨p1, 0, none⟩ = some (.int .i64 t) := b1''.cell 0
  have HFIN : Hid (WghPost w p1 p2 k (.returned (.int .i64 t)) ((w.setCell ⟨p1, 0, none⟩ (.int .i64 t)).setCell ⟨p2, 0, none⟩ (.int .i64 ((k : Int) + 1)))) := zh
    ⟨t, ht1.1, ht1.2, rfl, ⟨t, ht1.1, ht1.2, b1'', by have := b2''; simpa using this, hne⟩, ((Frm.refl _ w).setCell (p := ⟨p1, 0, none⟩) (fun _ => .inl rfl) _).setCell (p := ⟨p2, 0, none⟩) (fun _ => .inr rfl) _⟩
  have ht' : (s + m) % 31 = t := ht.symm
  clear b1 b2 b1' b2' b1'' b2'' hm ht
  go_in
  go_wp2_with fail
  go_ret
  exact HFIN.out
def WeighedPost (w : World) (e : Ending) (w' : World) : Prop := e = .returned (.func (.func 118) #[] #[.pointer (some ⟨w.heap.size, 0, none⟩), .pointer (some ⟨w.heap.size + 1, 0, none⟩)]) ∧ Wgh w' w.heap.size (w.heap.size + 1) 2 ∧ Fresh w w'
theorem weighed_any (w : World) : Calls Tryz.prog 76 #[] w fun e w' => WeighedPost w e w' := by
  have hmf : ∀ (fn : Fn) (first cap : Array Value) (w : World), (Instr.makeFunc fn first cap).run Tryz.prog w = .ok (.func fn first cap) w := fun _ _ _ _ => rfl
  go_in
  go_wp2_with fail
  go_ret
  refine ⟨rfl, ⟨0, by omega, by omega, ?_, ?_, by omega⟩, ?_⟩
  · first | exact (Blk.new w 3 #[.int .i64 0]).alloc _ | skip
  · have := Blk.new (w.alloc (.cells #[.int .i64 0] 3)) 3 #[.int .i64 2]
    simpa using this
  · exact ((Frm.refl _ _).alloc _).alloc _
def Worths (w : World) (p : Nat) (xs : List Int) : Prop := xs.length = 5 ∧ (∀ x ∈ xs, 0 ≤ x ∧ x ≤ 30) ∧ Blk w p 190 (ivs xs).toArray
theorem Worths.set {w : World} {p : Nat} {xs : List Int} (h : Worths w p xs) (i : Nat) {r : Int} (hr : 0 ≤ r ∧ r ≤ 30) : Worths (w.setCell ⟨p, i, none⟩ (.int .i64 r)) p (xs.set i r) := by
  obtain ⟨h1, h2, h3⟩ := h
  refine ⟨by rw [List.length_set]; exact h1, fun x hx => ?_, ?_⟩
  · rcases List.mem_or_eq_of_mem_set hx with hx | rfl
    · exact h2 x hx
    · exact hr
  · have := h3.set i (.int .i64 r)
    unfold ivs at this ⊢
    rw [List.map_set]
    simpa using this
theorem Worths.frm {w w' : World} {p : Nat} {xs : List Int} {S : Nat → Prop} (h : Worths w p xs) (F : Frm S w w') (hS : ¬ S p) : Worths w' p xs := ⟨h.1, h.2.1, h.2.2.frm F hS⟩
theorem Worths.cell {w : World} {p : Nat} {xs : List Int} (h : Worths w p xs) {i : Nat} (hi : i < 5) : ∃ x, w.cell? ⟨p, i, none⟩ = some (.int .i64 x) ∧ w.frozen? ⟨p, i, none⟩ = false := by
  obtain ⟨h1, h2, h3⟩ := h
  refine ⟨xs[i]'(by omega), ?_, h3.frozen i⟩
  rw [h3.cell]
  unfold ivs
  simp [h1, hi]
def Six (w : World) (p : Nat) (bs : List UInt8) : Prop := bs.length = 6 ∧ Blk w p 189 (bs.map bv).toArray
theorem Six.frm {w w' : World} {p : Nat} {bs : List UInt8} {S : Nat → Prop} (h : Six w p bs) (F : Frm S w w') (hS : ¬ S p) : Six w' p bs := ⟨h.1, h.2.frm F hS⟩
theorem Six.set {w : World} {p : Nat} {bs : List UInt8} (h : Six w p bs) (i : Nat) {x : Int} (hx : 0 ≤ x ∧ x ≤ 255) : Six (w.setCell ⟨p, i, none⟩ (.int .u8 x)) p (bs.set i (UInt8.ofNat x.toNat)) := by
  refine ⟨by rw [List.length_set]; exact h.1, ?_⟩
  have := h.2.set i (.int .u8 x)
  have e : Value.int .u8 x = bv (UInt8.ofNat x.toNat) := by
    refine bv_eq ?_
    rw [UInt8.toNat_ofNat']
    omega
  rw [e] at this ⊢
  rw [List.map_set]
  simpa using this
theorem Six.cell {w : World} {p : Nat} {bs : List UInt8} (h : Six w p bs) {i : Nat} (hi : i < 6) : ∃ x, w.cell? ⟨p, i, none⟩ = some x ∧ w.frozen? ⟨p, i, none⟩ = false := by
  obtain ⟨h1, h3⟩ := h
  refine ⟨bv (bs[i]'(by omega)), ?_, h3.frozen i⟩
  rw [h3.cell]
  simp [h1, hi]
theorem size5 : (Tryz.prog.info? 190).map (·.size) = some 5 := by kernel_rfl
theorem worth_at (xs : List Int) (h1 : xs.length = 5) (h2 : ∀ x ∈ xs, 0 ≤ x ∧ x ≤ 30) (i : Nat) (h : i < 5) : ∃ y : Nat, y ≤ 30 ∧ ∀ w, (Instr.index 190 (.agg (ivs xs).toArray) (.int .i64 (i : Int))).run Tryz.prog w = .ok (.int .i64 (y : Int)) w := by
  obtain ⟨a, b, c, d, e, rfl⟩ : ∃ a b c d e, xs = [a, b, c, d, e] := by
    match xs, h1 with
    | [a, b, c, d, e], _ => exact ⟨a, b, c, d, e, rfl⟩
  have ha := h2 a (by simp)
  have hb := h2 b (by simp)
  have hc := h2 c (by simp)
  have hd := h2 d (by simp)
  have he := h2 e (by simp)
  obtain ⟨na, rfl⟩ := Int.eq_ofNat_of_zero_le ha.1
  obtain ⟨nb, rfl⟩ := Int.eq_ofNat_of_zero_le hb.1
  obtain ⟨nc, rfl⟩ := Int.eq_ofNat_of_zero_le hc.1
  obtain ⟨nd, rfl⟩ := Int.eq_ofNat_of_zero_le hd.1
  obtain ⟨ne, rfl⟩ := Int.eq_ofNat_of_zero_le he.1
  match i, h with
  | 0, _ => exact ⟨na, by omega, fun _ => by kernel_rfl⟩
  | 1, _ => exact ⟨nb, by omega, fun _ => by kernel_rfl⟩
  | 2, _ => exact ⟨nc, by omega, fun _ => by kernel_rfl⟩
  | 3, _ => exact ⟨nd, by omega, fun _ => by kernel_rfl⟩
  | 4, _ => exact ⟨ne, by omega, fun _ => by kernel_rfl⟩
  | n + 5, h => omega
def OfPost (w : World) (e : Ending) (w' : World) : Prop := ∃ (s : ByteArray) (k : Int), s.size ≤ 1000 ∧ e = .returned (.tuple #[.string s, .int .i64 k]) ∧ Fresh w w'
theorem ofP_any (w : World) (n : Int) : Calls Tryz.prog 63 #[.int .i64 n] w fun e w' => OfPost w e w' := by
  by_cases g1 : 0 ≤ n
  · have d1 : decide (n < 0) = false := decide_eq_false (by omega)
    by_cases g2 : n < 28629151
    · have d2 : decide (28629151 ≤ n) = false := decide_eq_false (by omega)
      go_in
      go_wp2_with fail
      have HX : Hid (Worths ((w.alloc (.cells #[.int .u8 0, .int .u8 0, .int .u8 0, .int .u8 0, .int .u8 0, .int .u8 0] 189)).alloc (.cells #[.int .i64 0, .int .i64 0, .int .i64 0, .int .i64 0, .int .i64 0] 190)) (w.heap.size + 1) [0, 0, 0, 0, 0]) := zh
        ⟨rfl, fun x hx => by simp at hx; omega, by have := Blk.new (w.alloc (.cells #[.int .u8 0, .int .u8 0, .int .u8 0, .int .u8 0, .int .u8 0, .int .u8 0] 189)) 190 #[.int .i64 0, .int .i64 0, .int .i64 0, .int .i64 0, .int .i64 0]; simpa using this⟩
      have HS6 : Hid (Six ((w.alloc (.cells #[.int .u8 0, .int .u8 0, .int .u8 0, .int .u8 0, .int .u8 0, .int .u8 0] 189)).alloc (.cells #[.int .i64 0, .int .i64 0, .int .i64 0, .int .i64 0, .int .i64 0] 190)) w.heap.size [0, 0, 0, 0, 0, 0]) := zh
        ⟨rfl, (Blk.new w 189 #[.int .u8 0, .int .u8 0, .int .u8 0, .int .u8 0, .int .u8 0, .int .u8 0]).alloc _⟩
      have HFA : Hid (Fresh w ((w.alloc (.cells #[.int .u8 0, .int .u8 0, .int .u8 0, .int .u8 0, .int .u8 0, .int .u8 0] 189)).alloc (.cells #[.int .i64 0, .int .i64 0, .int .i64 0, .int .i64 0, .int .i64 0] 190))) := zh (((Frm.refl _ _).alloc _).alloc _)
      obtain ⟨po, hpo⟩ : ∃ x, x = w.heap.size := ⟨_, rfl⟩
      have HPO : Hid (w.heap.size ≤ po) := zh (by omega)
      rw [← hpo] at HX HS6 ⊢
      clear hpo d1 d2
      generalize (w.alloc (.cells #[.int .u8 0, .int .u8 0, .int .u8 0, .int .u8 0, .int .u8 0, .int .u8 0] 189)).alloc (.cells #[.int .i64 0, .int .i64 0, .int .i64 0, .int .i64 0, .int .i64 0] 190) = w1 at HX HS6 HFA ⊢
      go_loopw [0, 6] (fun v0 v6 wr => ∃ (m j : Int) (xs : List Int), 0 ≤ m ∧ m ≤ 28629151 ∧ -1 ≤ j ∧ j ≤ 4 ∧ v0 = .int .i64 m ∧ v6 = .int .i64 j ∧ Worths wr (po + 1) xs ∧ Six wr po [0, 0, 0, 0, 0, 0] ∧ Fresh w wr) (fun _ v6 _ => (RowKit.intOf v6 + 1).toNat)
      case atStart => exact ⟨n, 4, _, g1, by omega, by omega, by omega, rfl, rfl, HX.out, HS6.out, HFA.out⟩
      case round =>
        obtain ⟨m, j, xs, hm0, hm1, hj0, hj1, rfl, rfl, hw, hs6, hf⟩ := hrel
        have HW := zh hw
        have HS := zh hs6
        have HF := zh hf
        clear hw hs6 hf HX HS6 HFA g1 g2
        by_cases hj : 0 ≤ j
        · obtain ⟨i, rfl⟩ := Int.eq_ofNat_of_zero_le hj
          obtain ⟨x, hx, hz⟩ := HW.out.cell (i := i) (by omega)
          have e1 : m.tmod 31 = m % 31 := Int.tmod_eq_emod_of_nonneg hm0
          have e2 : m.tdiv 31 = m / 31 := Int.tdiv_eq_ediv_of_nonneg hm0
          have r1 : 0 ≤ m % 31 ∧ m % 31 ≤ 30 := by omega
          have r2 : 0 ≤ m / 31 ∧ m / 31 ≤ 28629151 := by omega
          have hi5 : (i : Int) < 5 := by omega
          have HW2 := zh (HW.out.set i r1)
          go_wp2_with fail
          go_roundw
          case rel => exact ⟨m / 31, (i : Int) - 1, _, r2.1, r2.2, by omega, by omega, rfl, rfl, HW2.out, HS.out.frm ((Frm.refl (fun k => k = po + 1) wr).setCell (p := ⟨po + 1, i, none⟩) (fun _ => rfl) _) (by omega), HF.out.setCell (p := ⟨po + 1, i, none⟩) (fun h => by have := HPO.out; dsimp only at h; omega) _⟩
          case measure => (simp [RowKit.intOf]; try omega)
        · have hjn : ¬ 0 ≤ j := hj
          have HWG := zh (weighed_any wr)
          clear hm0 hm1
          go_wp2_with fail
          refine HWG.out.mono ?_
          rintro e w2 ⟨rfl, hwg, f2⟩
          have HW2 := zh (HW.out.frm f2 (fun f => f))
          have HS2 := zh (HS.out.frm f2 (fun f => f))
          have HF2 := zh (HF.out.trans f2)
          have HG2 := zh hwg
          obtain ⟨wo, rfl⟩ : ∃ wo : World, wo = wr := ⟨_, rfl⟩
          have hpo2 : po + 1 < wo.heap.size := HW.out.2.2.lt
          clear hwg f2
          have HSZ : Hid ((Tryz.prog.info? 190).map (·.size) = some (ivs xs).toArray.size) := zh (by
            have : (ivs xs).toArray.size = 5 := by unfold ivs; simp [HW.out.1]
            rw [this]
            exact size5)
          have HHB : Hid (w2.heap[po + 1]? = some (.cells (ivs xs).toArray 190 (0, 0))) := zh HW2.out.2.2
          have HP1 : Hid (wo.heap.size ≠ po ∧ wo.heap.size + 1 ≠ po) := zh (by omega)
          go_wp2_with (with_reducible refine wpList_load_row rfl 190 (.tmp 5) rfl (po + 1) rfl _ (ivs xs).toArray _ _ HHB.out Tryz.underlying190 rfl HSZ.out ?_)
          go_loopw [8, 29] (fun v8 v29 wr => ∃ (i : Nat) (sm : Int) (bs : List UInt8), i ≤ 5 ∧ v29 = .int .i64 (i : Int) ∧ 0 ≤ sm ∧ sm ≤ 30 ∧ v8 = .int .i64 sm ∧ Six wr po bs ∧ Wgh wr wo.heap.size (wo.heap.size + 1) (2 + i) ∧ Fresh w wr) (fun _ v29 _ => 5 - (RowKit.intOf v29).toNat)
          case atStart => exact ⟨0, 0, _, by omega, rfl, by omega, by omega, rfl, HS2.out, HG2.out, HF2.out⟩
          case round =>
            obtain ⟨i, sm, bs, hi, rfl, hm0, hm1, rfl, hs6, hg, hf⟩ := hrel
            have hi0 : (0 : Int) ≤ (i : Int) := by omega
            have HS3 := zh hs6
            have HG3 := zh hg
            have HF3 := zh hf
            clear hs6 hg hf HS2 HG2 HF2
            by_cases hlt : i < 5
            · have hlti : (i : Int) < 5 := by omega
              have hlti6 : (i : Int) < 6 := by omega
              obtain ⟨y, hy, hix⟩ := worth_at xs HW.out.1 HW.out.2.1 i hlt
              obtain ⟨x, hx0, hx1, hsg⟩ := signs_at y (by omega)
              obtain ⟨u, hu, hz⟩ := HS3.out.cell (i := i) (by omega)
              have HS4 := zh (HS3.out.set i ⟨hx0, hx1⟩)
              have HFS : Hid (Fresh w (wr.setCell ⟨po, i, none⟩ (.int .u8 x))) := zh (HF3.out.setCell (p := ⟨po, i, none⟩) (fun h => by have := HPO.out; dsimp only at h; omega) _)
              have HG4 := zh (HG3.out.frm ((Frm.refl (fun k => k = po) wr).setCell (p := ⟨po, i, none⟩) (fun _ => rfl) (.int .u8 x)) HP1.out.1 HP1.out.2)
              have HWC := zh (weigh_any _ _ _ _ HG4.out (by omega) (y : Int) ⟨by omega, by omega⟩)
              go_wp2_with (go_at_call 118; refine HWC.out.mono ?_; rintro e w5 ⟨s5, hs50, hs51, rfl, hg5, f5⟩; have HG5 := zh hg5; have HF5 := zh f5; clear hg5 f5)
              go_roundw
              case rel => exact ⟨i + 1, s5, _, by omega, by go_num, hs50, hs51, rfl, HS4.out.frm HF5.out (fun h => by have := HP1.out; omega), HG5.out, HFS.out.trans' HF5.out (fun k hk e => by have := HPO.out; omega)⟩
              case measure => simp [RowKit.intOf]; omega
            · have hlti : ¬ (i : Int) < 5 := by omega
              obtain ⟨q, hq, hq3⟩ : ∃ q : Nat, (31 - sm) % 31 = (q : Int) ∧ q < 31 := ⟨((31 - sm) % 31).toNat, by omega, by omega⟩
              have e1 : (31 - sm).tmod 31 = (q : Int) := by rw [Int.tmod_eq_emod_of_nonneg (by omega)]; exact hq
              have e2 : IntKind.i64.wrap (31 - sm) = 31 - sm := IntWalk.i64_in _ (by omega)
              obtain ⟨x, hx0, hx1, hsg⟩ := signs_at q hq3
              obtain ⟨u, hu, hz⟩ := HS3.out.cell (i := 5) (by omega)
              have HS4 := zh (HS3.out.set 5 ⟨hx0, hx1⟩)
              have HFS : Hid (Fresh w (wr.setCell ⟨po, 5, none⟩ (.int .u8 x))) := zh (HF3.out.setCell (p := ⟨po, 5, none⟩) (fun h => by have := HPO.out; dsimp only at h; omega) _)
              obtain ⟨bs', hbs⟩ : ∃ l, l = bs.set 5 (UInt8.ofNat x.toNat) := ⟨_, rfl⟩
              rw [← hbs] at HS4
              have hsl : ∀ w, (Instr.sliceAt 189 (.pointer (some ⟨po, 0, none⟩)) none none none).run Tryz.prog w = .ok (.slice (some ⟨po, 0, none⟩) 6 6) w := fun _ => by kernel_rfl
              have hcv := conv_bytes (P := Tryz.prog) (w := wr.setCell ⟨po, 5, none⟩ (.int .u8 x)) 56 9 5 Tryz.underlying56 Tryz.underlying5 Tryz.underlying9 (B := po + 1) (A := some ⟨po, 0, none⟩) (bs := bs') 6 (fun _ => ⟨po, 0, rfl, by omega, fun j u hu => by rw [HS4.out.2.cell, Nat.zero_add]; simpa using hu⟩) (n := 6) HS4.out.1.symm
              have HSZ2 : Hid ((str bs').size ≤ 1000) := zh (by have : (str bs').size = bs'.length := rfl; rw [this, HS4.out.1]; omega)
              clear hbs hj0 hj1 hm0 hm1
              go_wp2_with fail
              go_ret2
              exact ⟨_, _, HSZ2.out, rfl, HFS.out⟩
    · have d2 : decide (28629151 ≤ n) = true := decide_eq_true (by omega)
      clear g2
      go_in
      go_wp2_with fail
      go_ret2
      exact ⟨_, _, by decide, rfl, Frm.refl _ _⟩
  · have d1 : decide (n < 0) = true := decide_eq_true (by omega)
    clear g1
    go_in
    go_wp2_with fail
    go_ret2
    exact ⟨_, _, by decide, rfl, Frm.refl _ _⟩
end
end Go.Proofs.YtbeaoddjomdlcaaGreatDoor
